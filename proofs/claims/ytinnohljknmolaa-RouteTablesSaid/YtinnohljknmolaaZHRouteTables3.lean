/- Texts of this work, joined: LV1, Brg, Within, CidrR, Cidr2a, Mix, Cidr2, Cidr4, BrgC, Pfx, Vpc1, Vpc2, Vpc3a, Vpc6a, Rou1, W6, VpcR1. -/
import Derived.Test.YtinnohljknmolaaZHRouteTables2
import Derived.Deep.RegionHeld3
set_option linter.unusedSimpArgs false
set_option linter.unusedVariables false
namespace Go.Proofs.Ytinnohljknmolaa
open Go Go.RowKit
set_option maxHeartbeats 1000000 in
theorem idxf_Range {α : Type} {enc : α → List D} (henc : ∀ x, (enc x).length = 3) (p : α → Bool) (l : List α) (g : Nat) (caps : List D) (hl : l.length ≤ 1000000000) (hc : ∀ x ∈ l, PSpec Try.prog g (.agg (enc x) :: caps) (.v (.bool (p x)))) :
    PSpec Try.prog 98 [.sl 3 (l.map enc), .clo g caps] (.v (.int .i64 (idxI p l))) := by
  refine ps_i tab_ok mixed Try.func98 rfl Try.ntmps98 Try.results98 (by kernel_rfl) ?_
  repeat' (first | (with_reducible refine And.intro ?_ ?_) | (with_reducible refine gK_i (fun _ => ?_) (fun _ => ?_)) | (with_reducible refine condS_i (fun _ => ?_) (fun _ => ?_)) | (with_reducible refine drw_i (by kernel_rfl)) | simp -dsimp only [go_sem, seval, *, bne_self_eq_false] | ((with_reducible refine opK_c ?_); simp -dsimp only [go_sem, seval, bne_self_eq_false]; first | refine callK_r (by first | assumption | fail) (by first | exact .inl rfl | exact .inr rfl) ?_ | (refine callK_i (by assumption) ?_ ?_ ?_; (solve | (repeat (first | exact DLe.refl _ | exact DLe.nil _ | (refine DLe.tup ?_) | (refine DLe.agg ?_ rfl) | exact trivial | (refine And.intro ?_ ?_)))); (solve | exact .inl rfl | exact .inr rfl))) | fail | omega | exact decide_eq_true (by omega) | exact DLe.refl _)
  refine loopG tab_ok mixed (fun m e h => ∃ k : Nat, k ≤ l.length ∧ (∀ x ∈ l.take k, p x = false) ∧ m = l.length - k ∧ e = [(8, .d (.v (.int .i64 k))), (7, .d (.v (.int .i64 l.length))), (4, .d (.v (.int .i64 0))), (1, .d (.clo g caps)), (0, .d (.sl 3 (l.map enc)))] ∧ h = []) _ _ _ ⟨0, Nat.zero_le _, by simp, rfl, rfl, rfl⟩ ?_ ?_
  · exact weak_forget [] (by simp) rfl ⟨rfl, rfl, rfl, rfl, rfl, trivial⟩ (by first | rfl | simp only [belowH, belowE, belowC, belowL, belowR, belowP, belowL_d, belowR_d, List.length_cons, List.length_nil, Nat.reduceAdd, Nat.reduceLT, decide_true, Bool.and_self, Bool.and_true]) (by first | rfl | simp only [belowH, belowE, belowC, belowL, belowR, belowP, belowL_d, belowR_d, List.length_cons, List.length_nil, Nat.reduceAdd, Nat.reduceLT, decide_true, Bool.and_self, Bool.and_true])
  · rintro m e h ⟨k, hk, hno, rfl, rfl, rfl⟩ CL hCL
    by_cases hlt : k < l.length
    · obtain ⟨x, hx⟩ : ∃ x, l[k]? = some x := ⟨_, List.getElem?_eq_getElem hlt⟩
      have hltI : (k : Int) < (l.length : Int) := by omega
      have hwr : IntKind.i64.wrap ((k : Int) + 1) = ((k + 1 : Nat) : Int) := by rw [IntKind.wrap_i64]; omega
      have hlen := henc x
      have htk : (enc x).take 3 = enc x := List.take_of_length_le (by omega)
      have hcx := hc x (List.mem_of_getElem? hx)
      cases hp : p x with
      | false =>
        rw [hp] at hcx
        repeat' (first | (with_reducible refine And.intro ?_ ?_) | (with_reducible refine gK_i (fun _ => ?_) (fun _ => ?_)) | (with_reducible refine condS_i (fun _ => ?_) (fun _ => ?_)) | (with_reducible refine drw_i (by kernel_rfl)) | simp -dsimp only [go_sem, seval, *, hx, hltI, hwr, htk, hlen, vwL_d, tcL_d] | ((with_reducible refine opK_c ?_); simp -dsimp only [go_sem, seval, hx, hltI, hwr, htk, hlen, vwL_d, tcL_d]; first | refine callK_r (by first | assumption | exact hcx) (by first | exact .inl rfl | exact .inr rfl) ?_ | (refine callK_i (by assumption) ?_ ?_ ?_; (solve | (repeat (first | exact DLe.refl _ | exact DLe.nil _ | (refine DLe.tup ?_) | (refine DLe.agg ?_ rfl) | exact trivial | (refine And.intro ?_ ?_)))); (solve | exact .inl rfl | exact .inr rfl))) | fail | omega | exact decide_eq_true (by omega) | exact DLe.refl _)
        refine hCL _ _ _ _ _ ?_ ⟨k + 1, hlt, ?_, rfl, rfl, rfl⟩ (weak_forget [] (by simp) rfl ⟨rfl, rfl, rfl, rfl, rfl, trivial⟩ (by first | rfl | simp only [belowH, belowE, belowC, belowL, belowR, belowP, belowL_d, belowR_d, List.length_cons, List.length_nil, Nat.reduceAdd, Nat.reduceLT, decide_true, Bool.and_self, Bool.and_true]) (by first | rfl | simp only [belowH, belowE, belowC, belowL, belowR, belowP, belowL_d, belowR_d, List.length_cons, List.length_nil, Nat.reduceAdd, Nat.reduceLT, decide_true, Bool.and_self, Bool.and_true]))
        · omega
        · intro y hy
          rw [take_snoc hx] at hy
          rcases List.mem_append.1 hy with hy | hy
          · exact hno y hy
          · rw [List.mem_singleton] at hy; rw [hy]; exact hp
      | true =>
        rw [hp] at hcx
        have hidx : idxI p l = k := idxI_some hx hp hno
        repeat' (first | (with_reducible refine And.intro ?_ ?_) | (with_reducible refine gK_i (fun _ => ?_) (fun _ => ?_)) | (with_reducible refine condS_i (fun _ => ?_) (fun _ => ?_)) | (with_reducible refine drw_i (by kernel_rfl)) | simp -dsimp only [go_sem, seval, *, hx, hltI, hwr, htk, hlen, vwL_d, tcL_d] | ((with_reducible refine opK_c ?_); simp -dsimp only [go_sem, seval, hx, hltI, hwr, htk, hlen, vwL_d, tcL_d]; first | refine callK_r (by first | assumption | exact hcx) (by first | exact .inl rfl | exact .inr rfl) ?_ | (refine callK_i (by assumption) ?_ ?_ ?_; (solve | (repeat (first | exact DLe.refl _ | exact DLe.nil _ | (refine DLe.tup ?_) | (refine DLe.agg ?_ rfl) | exact trivial | (refine And.intro ?_ ?_)))); (solve | exact .inl rfl | exact .inr rfl))) | fail | omega | exact decide_eq_true (by omega) | exact DLe.refl _)
        all_goals rw [hidx]
        all_goals exact DLe.refl _
    · obtain rfl : k = l.length := by omega
      rw [List.take_length] at hno
      repeat' (first | (with_reducible refine And.intro ?_ ?_) | (with_reducible refine gK_i (fun _ => ?_) (fun _ => ?_)) | (with_reducible refine condS_i (fun _ => ?_) (fun _ => ?_)) | (with_reducible refine drw_i (by kernel_rfl)) | simp -dsimp only [go_sem, seval, *, Int.lt_irrefl] | ((with_reducible refine opK_c ?_); simp -dsimp only [go_sem, seval, Int.lt_irrefl]; first | refine callK_r (by first | assumption | fail) (by first | exact .inl rfl | exact .inr rfl) ?_ | (refine callK_i (by assumption) ?_ ?_ ?_; (solve | (repeat (first | exact DLe.refl _ | exact DLe.nil _ | (refine DLe.tup ?_) | (refine DLe.agg ?_ rfl) | exact trivial | (refine And.intro ?_ ?_)))); (solve | exact .inl rfl | exact .inr rfl))) | fail | omega | exact decide_eq_true (by omega) | exact DLe.refl _)
      all_goals rw [idxI_none hno]
      all_goals exact DLe.refl _
theorem cntf_Range {α : Type} {enc : α → List D} (henc : ∀ x, (enc x).length = 3) (p : α → Bool) (l : List α) (g : Nat) (caps : List D) (hl : l.length ≤ 1000000000) (hc : ∀ x ∈ l, PSpec Try.prog g (.agg (enc x) :: caps) (.v (.bool (p x)))) :
    PSpec Try.prog 82 [.sl 3 (l.map enc), .clo g caps] (.v (.bool (l.any p))) := by
  have hi := idxf_Range henc p l g caps hl hc
  have hany := idxI_any p l
  refine ps_i tab_ok mixed Try.func82 rfl Try.ntmps82 Try.results82 (by kernel_rfl) ?_
  repeat' (first | (with_reducible refine And.intro ?_ ?_) | (with_reducible refine gK_i (fun _ => ?_) (fun _ => ?_)) | (with_reducible refine condS_i (fun _ => ?_) (fun _ => ?_)) | (with_reducible refine drw_i (by kernel_rfl)) | simp -dsimp only [go_sem, seval, *, hany] | ((with_reducible refine opK_c ?_); simp -dsimp only [go_sem, seval, hany]; first | refine callK_r (by first | assumption | exact hi) (by first | exact .inl rfl | exact .inr rfl) ?_ | (refine callK_i (by assumption) ?_ ?_ ?_; (solve | (repeat (first | exact DLe.refl _ | exact DLe.nil _ | (refine DLe.tup ?_) | (refine DLe.agg ?_ rfl) | exact trivial | (refine And.intro ?_ ?_)))); (solve | exact .inl rfl | exact .inr rfl))) | fail | omega | exact decide_eq_true (by omega) | exact DLe.refl _)
  all_goals exact DLe.refl _
set_option maxHeartbeats 1000000 in
theorem idxf_Sub {α : Type} {enc : α → List D} (henc : ∀ x, (enc x).length = 4) (p : α → Bool) (l : List α) (g : Nat) (caps : List D) (hl : l.length ≤ 1000000000) (hc : ∀ x ∈ l, PSpec Try.prog g (.agg (enc x) :: caps) (.v (.bool (p x)))) :
    PSpec Try.prog 96 [.sl 4 (l.map enc), .clo g caps] (.v (.int .i64 (idxI p l))) := by
  refine ps_i tab_ok mixed Try.func96 rfl Try.ntmps96 Try.results96 (by kernel_rfl) ?_
  repeat' (first | (with_reducible refine And.intro ?_ ?_) | (with_reducible refine gK_i (fun _ => ?_) (fun _ => ?_)) | (with_reducible refine condS_i (fun _ => ?_) (fun _ => ?_)) | (with_reducible refine drw_i (by kernel_rfl)) | simp -dsimp only [go_sem, seval, *, bne_self_eq_false] | ((with_reducible refine opK_c ?_); simp -dsimp only [go_sem, seval, bne_self_eq_false]; first | refine callK_r (by first | assumption | fail) (by first | exact .inl rfl | exact .inr rfl) ?_ | (refine callK_i (by assumption) ?_ ?_ ?_; (solve | (repeat (first | exact DLe.refl _ | exact DLe.nil _ | (refine DLe.tup ?_) | (refine DLe.agg ?_ rfl) | exact trivial | (refine And.intro ?_ ?_)))); (solve | exact .inl rfl | exact .inr rfl))) | fail | omega | exact decide_eq_true (by omega) | exact DLe.refl _)
  refine loopG tab_ok mixed (fun m e h => ∃ k : Nat, k ≤ l.length ∧ (∀ x ∈ l.take k, p x = false) ∧ m = l.length - k ∧ e = [(8, .d (.v (.int .i64 k))), (7, .d (.v (.int .i64 l.length))), (4, .d (.v (.int .i64 0))), (1, .d (.clo g caps)), (0, .d (.sl 4 (l.map enc)))] ∧ h = []) _ _ _ ⟨0, Nat.zero_le _, by simp, rfl, rfl, rfl⟩ ?_ ?_
  · exact weak_forget [] (by simp) rfl ⟨rfl, rfl, rfl, rfl, rfl, trivial⟩ (by first | rfl | simp only [belowH, belowE, belowC, belowL, belowR, belowP, belowL_d, belowR_d, List.length_cons, List.length_nil, Nat.reduceAdd, Nat.reduceLT, decide_true, Bool.and_self, Bool.and_true]) (by first | rfl | simp only [belowH, belowE, belowC, belowL, belowR, belowP, belowL_d, belowR_d, List.length_cons, List.length_nil, Nat.reduceAdd, Nat.reduceLT, decide_true, Bool.and_self, Bool.and_true])
  · rintro m e h ⟨k, hk, hno, rfl, rfl, rfl⟩ CL hCL
    by_cases hlt : k < l.length
    · obtain ⟨x, hx⟩ : ∃ x, l[k]? = some x := ⟨_, List.getElem?_eq_getElem hlt⟩
      have hltI : (k : Int) < (l.length : Int) := by omega
      have hwr : IntKind.i64.wrap ((k : Int) + 1) = ((k + 1 : Nat) : Int) := by rw [IntKind.wrap_i64]; omega
      have hlen := henc x
      have htk : (enc x).take 4 = enc x := List.take_of_length_le (by omega)
      have hcx := hc x (List.mem_of_getElem? hx)
      cases hp : p x with
      | false =>
        rw [hp] at hcx
        repeat' (first | (with_reducible refine And.intro ?_ ?_) | (with_reducible refine gK_i (fun _ => ?_) (fun _ => ?_)) | (with_reducible refine condS_i (fun _ => ?_) (fun _ => ?_)) | (with_reducible refine drw_i (by kernel_rfl)) | simp -dsimp only [go_sem, seval, *, hx, hltI, hwr, htk, hlen, vwL_d, tcL_d] | ((with_reducible refine opK_c ?_); simp -dsimp only [go_sem, seval, hx, hltI, hwr, htk, hlen, vwL_d, tcL_d]; first | refine callK_r (by first | assumption | exact hcx) (by first | exact .inl rfl | exact .inr rfl) ?_ | (refine callK_i (by assumption) ?_ ?_ ?_; (solve | (repeat (first | exact DLe.refl _ | exact DLe.nil _ | (refine DLe.tup ?_) | (refine DLe.agg ?_ rfl) | exact trivial | (refine And.intro ?_ ?_)))); (solve | exact .inl rfl | exact .inr rfl))) | fail | omega | exact decide_eq_true (by omega) | exact DLe.refl _)
        refine hCL _ _ _ _ _ ?_ ⟨k + 1, hlt, ?_, rfl, rfl, rfl⟩ (weak_forget [] (by simp) rfl ⟨rfl, rfl, rfl, rfl, rfl, trivial⟩ (by first | rfl | simp only [belowH, belowE, belowC, belowL, belowR, belowP, belowL_d, belowR_d, List.length_cons, List.length_nil, Nat.reduceAdd, Nat.reduceLT, decide_true, Bool.and_self, Bool.and_true]) (by first | rfl | simp only [belowH, belowE, belowC, belowL, belowR, belowP, belowL_d, belowR_d, List.length_cons, List.length_nil, Nat.reduceAdd, Nat.reduceLT, decide_true, Bool.and_self, Bool.and_true]))
        · omega
        · intro y hy
          rw [take_snoc hx] at hy
          rcases List.mem_append.1 hy with hy | hy
          · exact hno y hy
          · rw [List.mem_singleton] at hy; rw [hy]; exact hp
      | true =>
        rw [hp] at hcx
        have hidx : idxI p l = k := idxI_some hx hp hno
        repeat' (first | (with_reducible refine And.intro ?_ ?_) | (with_reducible refine gK_i (fun _ => ?_) (fun _ => ?_)) | (with_reducible refine condS_i (fun _ => ?_) (fun _ => ?_)) | (with_reducible refine drw_i (by kernel_rfl)) | simp -dsimp only [go_sem, seval, *, hx, hltI, hwr, htk, hlen, vwL_d, tcL_d] | ((with_reducible refine opK_c ?_); simp -dsimp only [go_sem, seval, hx, hltI, hwr, htk, hlen, vwL_d, tcL_d]; first | refine callK_r (by first | assumption | exact hcx) (by first | exact .inl rfl | exact .inr rfl) ?_ | (refine callK_i (by assumption) ?_ ?_ ?_; (solve | (repeat (first | exact DLe.refl _ | exact DLe.nil _ | (refine DLe.tup ?_) | (refine DLe.agg ?_ rfl) | exact trivial | (refine And.intro ?_ ?_)))); (solve | exact .inl rfl | exact .inr rfl))) | fail | omega | exact decide_eq_true (by omega) | exact DLe.refl _)
        all_goals rw [hidx]
        all_goals exact DLe.refl _
    · obtain rfl : k = l.length := by omega
      rw [List.take_length] at hno
      repeat' (first | (with_reducible refine And.intro ?_ ?_) | (with_reducible refine gK_i (fun _ => ?_) (fun _ => ?_)) | (with_reducible refine condS_i (fun _ => ?_) (fun _ => ?_)) | (with_reducible refine drw_i (by kernel_rfl)) | simp -dsimp only [go_sem, seval, *, Int.lt_irrefl] | ((with_reducible refine opK_c ?_); simp -dsimp only [go_sem, seval, Int.lt_irrefl]; first | refine callK_r (by first | assumption | fail) (by first | exact .inl rfl | exact .inr rfl) ?_ | (refine callK_i (by assumption) ?_ ?_ ?_; (solve | (repeat (first | exact DLe.refl _ | exact DLe.nil _ | (refine DLe.tup ?_) | (refine DLe.agg ?_ rfl) | exact trivial | (refine And.intro ?_ ?_)))); (solve | exact .inl rfl | exact .inr rfl))) | fail | omega | exact decide_eq_true (by omega) | exact DLe.refl _)
      all_goals rw [idxI_none hno]
      all_goals exact DLe.refl _
theorem cntf_Sub {α : Type} {enc : α → List D} (henc : ∀ x, (enc x).length = 4) (p : α → Bool) (l : List α) (g : Nat) (caps : List D) (hl : l.length ≤ 1000000000) (hc : ∀ x ∈ l, PSpec Try.prog g (.agg (enc x) :: caps) (.v (.bool (p x)))) :
    PSpec Try.prog 78 [.sl 4 (l.map enc), .clo g caps] (.v (.bool (l.any p))) := by
  have hi := idxf_Sub henc p l g caps hl hc
  have hany := idxI_any p l
  refine ps_i tab_ok mixed Try.func78 rfl Try.ntmps78 Try.results78 (by kernel_rfl) ?_
  repeat' (first | (with_reducible refine And.intro ?_ ?_) | (with_reducible refine gK_i (fun _ => ?_) (fun _ => ?_)) | (with_reducible refine condS_i (fun _ => ?_) (fun _ => ?_)) | (with_reducible refine drw_i (by kernel_rfl)) | simp -dsimp only [go_sem, seval, *, hany] | ((with_reducible refine opK_c ?_); simp -dsimp only [go_sem, seval, hany]; first | refine callK_r (by first | assumption | exact hi) (by first | exact .inl rfl | exact .inr rfl) ?_ | (refine callK_i (by assumption) ?_ ?_ ?_; (solve | (repeat (first | exact DLe.refl _ | exact DLe.nil _ | (refine DLe.tup ?_) | (refine DLe.agg ?_ rfl) | exact trivial | (refine And.intro ?_ ?_)))); (solve | exact .inl rfl | exact .inr rfl))) | fail | omega | exact decide_eq_true (by omega) | exact DLe.refl _)
  all_goals exact DLe.refl _
set_option maxHeartbeats 1000000 in
theorem idxf_Face {α : Type} {enc : α → List D} (henc : ∀ x, (enc x).length = 2) (p : α → Bool) (l : List α) (g : Nat) (caps : List D) (hl : l.length ≤ 1000000000) (hc : ∀ x ∈ l, PSpec Try.prog g (.agg (enc x) :: caps) (.v (.bool (p x)))) :
    PSpec Try.prog 97 [.sl 2 (l.map enc), .clo g caps] (.v (.int .i64 (idxI p l))) := by
  refine ps_i tab_ok mixed Try.func97 rfl Try.ntmps97 Try.results97 (by kernel_rfl) ?_
  repeat' (first | (with_reducible refine And.intro ?_ ?_) | (with_reducible refine gK_i (fun _ => ?_) (fun _ => ?_)) | (with_reducible refine condS_i (fun _ => ?_) (fun _ => ?_)) | (with_reducible refine drw_i (by kernel_rfl)) | simp -dsimp only [go_sem, seval, *, bne_self_eq_false] | ((with_reducible refine opK_c ?_); simp -dsimp only [go_sem, seval, bne_self_eq_false]; first | refine callK_r (by first | assumption | fail) (by first | exact .inl rfl | exact .inr rfl) ?_ | (refine callK_i (by assumption) ?_ ?_ ?_; (solve | (repeat (first | exact DLe.refl _ | exact DLe.nil _ | (refine DLe.tup ?_) | (refine DLe.agg ?_ rfl) | exact trivial | (refine And.intro ?_ ?_)))); (solve | exact .inl rfl | exact .inr rfl))) | fail | omega | exact decide_eq_true (by omega) | exact DLe.refl _)
  refine loopG tab_ok mixed (fun m e h => ∃ k : Nat, k ≤ l.length ∧ (∀ x ∈ l.take k, p x = false) ∧ m = l.length - k ∧ e = [(8, .d (.v (.int .i64 k))), (7, .d (.v (.int .i64 l.length))), (4, .d (.v (.int .i64 0))), (1, .d (.clo g caps)), (0, .d (.sl 2 (l.map enc)))] ∧ h = []) _ _ _ ⟨0, Nat.zero_le _, by simp, rfl, rfl, rfl⟩ ?_ ?_
  · exact weak_forget [] (by simp) rfl ⟨rfl, rfl, rfl, rfl, rfl, trivial⟩ (by first | rfl | simp only [belowH, belowE, belowC, belowL, belowR, belowP, belowL_d, belowR_d, List.length_cons, List.length_nil, Nat.reduceAdd, Nat.reduceLT, decide_true, Bool.and_self, Bool.and_true]) (by first | rfl | simp only [belowH, belowE, belowC, belowL, belowR, belowP, belowL_d, belowR_d, List.length_cons, List.length_nil, Nat.reduceAdd, Nat.reduceLT, decide_true, Bool.and_self, Bool.and_true])
  · rintro m e h ⟨k, hk, hno, rfl, rfl, rfl⟩ CL hCL
    by_cases hlt : k < l.length
    · obtain ⟨x, hx⟩ : ∃ x, l[k]? = some x := ⟨_, List.getElem?_eq_getElem hlt⟩
      have hltI : (k : Int) < (l.length : Int) := by omega
      have hwr : IntKind.i64.wrap ((k : Int) + 1) = ((k + 1 : Nat) : Int) := by rw [IntKind.wrap_i64]; omega
      have hlen := henc x
      have htk : (enc x).take 2 = enc x := List.take_of_length_le (by omega)
      have hcx := hc x (List.mem_of_getElem? hx)
      cases hp : p x with
      | false =>
        rw [hp] at hcx
        repeat' (first | (with_reducible refine And.intro ?_ ?_) | (with_reducible refine gK_i (fun _ => ?_) (fun _ => ?_)) | (with_reducible refine condS_i (fun _ => ?_) (fun _ => ?_)) | (with_reducible refine drw_i (by kernel_rfl)) | simp -dsimp only [go_sem, seval, *, hx, hltI, hwr, htk, hlen, vwL_d, tcL_d] | ((with_reducible refine opK_c ?_); simp -dsimp only [go_sem, seval, hx, hltI, hwr, htk, hlen, vwL_d, tcL_d]; first | refine callK_r (by first | assumption | exact hcx) (by first | exact .inl rfl | exact .inr rfl) ?_ | (refine callK_i (by assumption) ?_ ?_ ?_; (solve | (repeat (first | exact DLe.refl _ | exact DLe.nil _ | (refine DLe.tup ?_) | (refine DLe.agg ?_ rfl) | exact trivial | (refine And.intro ?_ ?_)))); (solve | exact .inl rfl | exact .inr rfl))) | fail | omega | exact decide_eq_true (by omega) | exact DLe.refl _)
        refine hCL _ _ _ _ _ ?_ ⟨k + 1, hlt, ?_, rfl, rfl, rfl⟩ (weak_forget [] (by simp) rfl ⟨rfl, rfl, rfl, rfl, rfl, trivial⟩ (by first | rfl | simp only [belowH, belowE, belowC, belowL, belowR, belowP, belowL_d, belowR_d, List.length_cons, List.length_nil, Nat.reduceAdd, Nat.reduceLT, decide_true, Bool.and_self, Bool.and_true]) (by first | rfl | simp only [belowH, belowE, belowC, belowL, belowR, belowP, belowL_d, belowR_d, List.length_cons, List.length_nil, Nat.reduceAdd, Nat.reduceLT, decide_true, Bool.and_self, Bool.and_true]))
        · omega
        · intro y hy
          rw [take_snoc hx] at hy
          rcases List.mem_append.1 hy with hy | hy
          · exact hno y hy
          · rw [List.mem_singleton] at hy; rw [hy]; exact hp
      | true =>
        rw [hp] at hcx
        have hidx : idxI p l = k := idxI_some hx hp hno
        repeat' (first | (with_reducible refine And.intro ?_ ?_) | (with_reducible refine gK_i (fun _ => ?_) (fun _ => ?_)) | (with_reducible refine condS_i (fun _ => ?_) (fun _ => ?_)) | (with_reducible refine drw_i (by kernel_rfl)) | simp -dsimp only [go_sem, seval, *, hx, hltI, hwr, htk, hlen, vwL_d, tcL_d] | ((with_reducible refine opK_c ?_); simp -dsimp only [go_sem, seval, hx, hltI, hwr, htk, hlen, vwL_d, tcL_d]; first | refine callK_r (by first | assumption | exact hcx) (by first | exact .inl rfl | exact .inr rfl) ?_ | (refine callK_i (by assumption) ?_ ?_ ?_; (solve | (repeat (first | exact DLe.refl _ | exact DLe.nil _ | (refine DLe.tup ?_) | (refine DLe.agg ?_ rfl) | exact trivial | (refine And.intro ?_ ?_)))); (solve | exact .inl rfl | exact .inr rfl))) | fail | omega | exact decide_eq_true (by omega) | exact DLe.refl _)
        all_goals rw [hidx]
        all_goals exact DLe.refl _
    · obtain rfl : k = l.length := by omega
      rw [List.take_length] at hno
      repeat' (first | (with_reducible refine And.intro ?_ ?_) | (with_reducible refine gK_i (fun _ => ?_) (fun _ => ?_)) | (with_reducible refine condS_i (fun _ => ?_) (fun _ => ?_)) | (with_reducible refine drw_i (by kernel_rfl)) | simp -dsimp only [go_sem, seval, *, Int.lt_irrefl] | ((with_reducible refine opK_c ?_); simp -dsimp only [go_sem, seval, Int.lt_irrefl]; first | refine callK_r (by first | assumption | fail) (by first | exact .inl rfl | exact .inr rfl) ?_ | (refine callK_i (by assumption) ?_ ?_ ?_; (solve | (repeat (first | exact DLe.refl _ | exact DLe.nil _ | (refine DLe.tup ?_) | (refine DLe.agg ?_ rfl) | exact trivial | (refine And.intro ?_ ?_)))); (solve | exact .inl rfl | exact .inr rfl))) | fail | omega | exact decide_eq_true (by omega) | exact DLe.refl _)
      all_goals rw [idxI_none hno]
      all_goals exact DLe.refl _
theorem cntf_Face {α : Type} {enc : α → List D} (henc : ∀ x, (enc x).length = 2) (p : α → Bool) (l : List α) (g : Nat) (caps : List D) (hl : l.length ≤ 1000000000) (hc : ∀ x ∈ l, PSpec Try.prog g (.agg (enc x) :: caps) (.v (.bool (p x)))) :
    PSpec Try.prog 80 [.sl 2 (l.map enc), .clo g caps] (.v (.bool (l.any p))) := by
  have hi := idxf_Face henc p l g caps hl hc
  have hany := idxI_any p l
  refine ps_i tab_ok mixed Try.func80 rfl Try.ntmps80 Try.results80 (by kernel_rfl) ?_
  repeat' (first | (with_reducible refine And.intro ?_ ?_) | (with_reducible refine gK_i (fun _ => ?_) (fun _ => ?_)) | (with_reducible refine condS_i (fun _ => ?_) (fun _ => ?_)) | (with_reducible refine drw_i (by kernel_rfl)) | simp -dsimp only [go_sem, seval, *, hany] | ((with_reducible refine opK_c ?_); simp -dsimp only [go_sem, seval, hany]; first | refine callK_r (by first | assumption | exact hi) (by first | exact .inl rfl | exact .inr rfl) ?_ | (refine callK_i (by assumption) ?_ ?_ ?_; (solve | (repeat (first | exact DLe.refl _ | exact DLe.nil _ | (refine DLe.tup ?_) | (refine DLe.agg ?_ rfl) | exact trivial | (refine And.intro ?_ ?_)))); (solve | exact .inl rfl | exact .inr rfl))) | fail | omega | exact decide_eq_true (by omega) | exact DLe.refl _)
  all_goals exact DLe.refl _
set_option maxHeartbeats 1000000 in
theorem idxf_Prefix {α : Type} {enc : α → List D} (henc : ∀ x, (enc x).length = 2) (p : α → Bool) (l : List α) (g : Nat) (caps : List D) (hl : l.length ≤ 1000000000) (hc : ∀ x ∈ l, PSpec Try.prog g (.agg (enc x) :: caps) (.v (.bool (p x)))) :
    PSpec Try.prog 100 [.sl 2 (l.map enc), .clo g caps] (.v (.int .i64 (idxI p l))) := by
  refine ps_i tab_ok mixed Try.func100 rfl Try.ntmps100 Try.results100 (by kernel_rfl) ?_
  repeat' (first | (with_reducible refine And.intro ?_ ?_) | (with_reducible refine gK_i (fun _ => ?_) (fun _ => ?_)) | (with_reducible refine condS_i (fun _ => ?_) (fun _ => ?_)) | (with_reducible refine drw_i (by kernel_rfl)) | simp -dsimp only [go_sem, seval, *, bne_self_eq_false] | ((with_reducible refine opK_c ?_); simp -dsimp only [go_sem, seval, bne_self_eq_false]; first | refine callK_r (by first | assumption | fail) (by first | exact .inl rfl | exact .inr rfl) ?_ | (refine callK_i (by assumption) ?_ ?_ ?_; (solve | (repeat (first | exact DLe.refl _ | exact DLe.nil _ | (refine DLe.tup ?_) | (refine DLe.agg ?_ rfl) | exact trivial | (refine And.intro ?_ ?_)))); (solve | exact .inl rfl | exact .inr rfl))) | fail | omega | exact decide_eq_true (by omega) | exact DLe.refl _)
  refine loopG tab_ok mixed (fun m e h => ∃ k : Nat, k ≤ l.length ∧ (∀ x ∈ l.take k, p x = false) ∧ m = l.length - k ∧ e = [(8, .d (.v (.int .i64 k))), (7, .d (.v (.int .i64 l.length))), (4, .d (.v (.int .i64 0))), (1, .d (.clo g caps)), (0, .d (.sl 2 (l.map enc)))] ∧ h = []) _ _ _ ⟨0, Nat.zero_le _, by simp, rfl, rfl, rfl⟩ ?_ ?_
  · exact weak_forget [] (by simp) rfl ⟨rfl, rfl, rfl, rfl, rfl, trivial⟩ (by first | rfl | simp only [belowH, belowE, belowC, belowL, belowR, belowP, belowL_d, belowR_d, List.length_cons, List.length_nil, Nat.reduceAdd, Nat.reduceLT, decide_true, Bool.and_self, Bool.and_true]) (by first | rfl | simp only [belowH, belowE, belowC, belowL, belowR, belowP, belowL_d, belowR_d, List.length_cons, List.length_nil, Nat.reduceAdd, Nat.reduceLT, decide_true, Bool.and_self, Bool.and_true])
  · rintro m e h ⟨k, hk, hno, rfl, rfl, rfl⟩ CL hCL
    by_cases hlt : k < l.length
    · obtain ⟨x, hx⟩ : ∃ x, l[k]? = some x := ⟨_, List.getElem?_eq_getElem hlt⟩
      have hltI : (k : Int) < (l.length : Int) := by omega
      have hwr : IntKind.i64.wrap ((k : Int) + 1) = ((k + 1 : Nat) : Int) := by rw [IntKind.wrap_i64]; omega
      have hlen := henc x
      have htk : (enc x).take 2 = enc x := List.take_of_length_le (by omega)
      have hcx := hc x (List.mem_of_getElem? hx)
      cases hp : p x with
      | false =>
        rw [hp] at hcx
        repeat' (first | (with_reducible refine And.intro ?_ ?_) | (with_reducible refine gK_i (fun _ => ?_) (fun _ => ?_)) | (with_reducible refine condS_i (fun _ => ?_) (fun _ => ?_)) | (with_reducible refine drw_i (by kernel_rfl)) | simp -dsimp only [go_sem, seval, *, hx, hltI, hwr, htk, hlen, vwL_d, tcL_d] | ((with_reducible refine opK_c ?_); simp -dsimp only [go_sem, seval, hx, hltI, hwr, htk, hlen, vwL_d, tcL_d]; first | refine callK_r (by first | assumption | exact hcx) (by first | exact .inl rfl | exact .inr rfl) ?_ | (refine callK_i (by assumption) ?_ ?_ ?_; (solve | (repeat (first | exact DLe.refl _ | exact DLe.nil _ | (refine DLe.tup ?_) | (refine DLe.agg ?_ rfl) | exact trivial | (refine And.intro ?_ ?_)))); (solve | exact .inl rfl | exact .inr rfl))) | fail | omega | exact decide_eq_true (by omega) | exact DLe.refl _)
        refine hCL _ _ _ _ _ ?_ ⟨k + 1, hlt, ?_, rfl, rfl, rfl⟩ (weak_forget [] (by simp) rfl ⟨rfl, rfl, rfl, rfl, rfl, trivial⟩ (by first | rfl | simp only [belowH, belowE, belowC, belowL, belowR, belowP, belowL_d, belowR_d, List.length_cons, List.length_nil, Nat.reduceAdd, Nat.reduceLT, decide_true, Bool.and_self, Bool.and_true]) (by first | rfl | simp only [belowH, belowE, belowC, belowL, belowR, belowP, belowL_d, belowR_d, List.length_cons, List.length_nil, Nat.reduceAdd, Nat.reduceLT, decide_true, Bool.and_self, Bool.and_true]))
        · omega
        · intro y hy
          rw [take_snoc hx] at hy
          rcases List.mem_append.1 hy with hy | hy
          · exact hno y hy
          · rw [List.mem_singleton] at hy; rw [hy]; exact hp
      | true =>
        rw [hp] at hcx
        have hidx : idxI p l = k := idxI_some hx hp hno
        repeat' (first | (with_reducible refine And.intro ?_ ?_) | (with_reducible refine gK_i (fun _ => ?_) (fun _ => ?_)) | (with_reducible refine condS_i (fun _ => ?_) (fun _ => ?_)) | (with_reducible refine drw_i (by kernel_rfl)) | simp -dsimp only [go_sem, seval, *, hx, hltI, hwr, htk, hlen, vwL_d, tcL_d] | ((with_reducible refine opK_c ?_); simp -dsimp only [go_sem, seval, hx, hltI, hwr, htk, hlen, vwL_d, tcL_d]; first | refine callK_r (by first | assumption | exact hcx) (by first | exact .inl rfl | exact .inr rfl) ?_ | (refine callK_i (by assumption) ?_ ?_ ?_; (solve | (repeat (first | exact DLe.refl _ | exact DLe.nil _ | (refine DLe.tup ?_) | (refine DLe.agg ?_ rfl) | exact trivial | (refine And.intro ?_ ?_)))); (solve | exact .inl rfl | exact .inr rfl))) | fail | omega | exact decide_eq_true (by omega) | exact DLe.refl _)
        all_goals rw [hidx]
        all_goals exact DLe.refl _
    · obtain rfl : k = l.length := by omega
      rw [List.take_length] at hno
      repeat' (first | (with_reducible refine And.intro ?_ ?_) | (with_reducible refine gK_i (fun _ => ?_) (fun _ => ?_)) | (with_reducible refine condS_i (fun _ => ?_) (fun _ => ?_)) | (with_reducible refine drw_i (by kernel_rfl)) | simp -dsimp only [go_sem, seval, *, Int.lt_irrefl] | ((with_reducible refine opK_c ?_); simp -dsimp only [go_sem, seval, Int.lt_irrefl]; first | refine callK_r (by first | assumption | fail) (by first | exact .inl rfl | exact .inr rfl) ?_ | (refine callK_i (by assumption) ?_ ?_ ?_; (solve | (repeat (first | exact DLe.refl _ | exact DLe.nil _ | (refine DLe.tup ?_) | (refine DLe.agg ?_ rfl) | exact trivial | (refine And.intro ?_ ?_)))); (solve | exact .inl rfl | exact .inr rfl))) | fail | omega | exact decide_eq_true (by omega) | exact DLe.refl _)
      all_goals rw [idxI_none hno]
      all_goals exact DLe.refl _
theorem cntf_Prefix {α : Type} {enc : α → List D} (henc : ∀ x, (enc x).length = 2) (p : α → Bool) (l : List α) (g : Nat) (caps : List D) (hl : l.length ≤ 1000000000) (hc : ∀ x ∈ l, PSpec Try.prog g (.agg (enc x) :: caps) (.v (.bool (p x)))) :
    PSpec Try.prog 90 [.sl 2 (l.map enc), .clo g caps] (.v (.bool (l.any p))) := by
  have hi := idxf_Prefix henc p l g caps hl hc
  have hany := idxI_any p l
  refine ps_i tab_ok mixed Try.func90 rfl Try.ntmps90 Try.results90 (by kernel_rfl) ?_
  repeat' (first | (with_reducible refine And.intro ?_ ?_) | (with_reducible refine gK_i (fun _ => ?_) (fun _ => ?_)) | (with_reducible refine condS_i (fun _ => ?_) (fun _ => ?_)) | (with_reducible refine drw_i (by kernel_rfl)) | simp -dsimp only [go_sem, seval, *, hany] | ((with_reducible refine opK_c ?_); simp -dsimp only [go_sem, seval, hany]; first | refine callK_r (by first | assumption | exact hi) (by first | exact .inl rfl | exact .inr rfl) ?_ | (refine callK_i (by assumption) ?_ ?_ ?_; (solve | (repeat (first | exact DLe.refl _ | exact DLe.nil _ | (refine DLe.tup ?_) | (refine DLe.agg ?_ rfl) | exact trivial | (refine And.intro ?_ ?_)))); (solve | exact .inl rfl | exact .inr rfl))) | fail | omega | exact decide_eq_true (by omega) | exact DLe.refl _)
  all_goals exact DLe.refl _
end Go.Proofs.Ytinnohljknmolaa
namespace Go.Proofs.Ytinnohljknmolaa
open Go Go.RowKit
def dval0 : D → Value
  | .v x => x
  | _ => undef
def dval1 : D → Value
  | .v x => x
  | .agg l => .agg (l.map dval0).toArray
  | _ => undef
def dval : D → Value
  | .v x => x
  | .agg l => .agg (l.map dval0).toArray
  | .tup l => .tuple (l.map dval1).toArray
  | _ => undef
theorem ext_list {vs : List Value} {ds : List D} {f : D → Value} (hl : ds.length = vs.length) (h : ∀ (j : Nat) (d : D) (x : Value), ds[j]? = some d → vs[j]? = some x → x = f d) : vs = ds.map f := by
  apply List.ext_getElem?
  intro j
  rw [List.getElem?_map]
  cases hd : ds[j]? with
  | none =>
    have : ds.length ≤ j := by simpa using hd
    rw [List.getElem?_eq_none (by omega)]; rfl
  | some d =>
    have hlt : j < vs.length := by rw [← hl]; exact (List.getElem?_eq_some_iff.1 hd).1
    rw [List.getElem?_eq_getElem hlt, h j d _ hd (List.getElem?_eq_getElem hlt)]; rfl
theorem isV_val {M : Nat → Prop} {w : World} {d : D} {v : Value} (h : RepD M w d v) (hf : d.isV = true) : v = dval0 d := by
  cases d <;> simp [D.isV] at hf
  cases h
  rfl
theorem flat_val {M : Nat → Prop} {w : World} {d : D} {v : Value} (h : RepD M w d v) (hf : d.flat = true) : v = dval d := by
  cases h with
  | v => rfl
  | agg cells vs hl h1 hrep =>
    simp only [D.flat, List.all_eq_true] at hf
    rw [ext_list (f := dval0) hl fun j d x hj hx => isV_val (hrep j d x hj hx) (hf d (List.mem_of_getElem? hj))]
    rfl
  | tup ds vs hl hrep =>
    simp only [D.flat, List.all_eq_true] at hf
    rw [ext_list (f := dval1) hl fun j d x hj hx => ?_]
    · rfl
    · have h0 := hrep j d x hj hx
      have h1 := hf d (List.mem_of_getElem? hj)
      cases h0 with
      | v => rfl
      | agg cells us hl' h1' hrep' =>
        simp only [List.all_eq_true] at h1
        rw [ext_list (f := dval0) hl' fun j d x hj hx => isV_val (hrep' j d x hj hx) (h1 d (List.mem_of_getElem? hj))]
        rfl
      | _ => simp at h1
  | _ => simp [D.flat] at hf
def D.aggOK : D → Bool
  | .agg l => l.all D.one
  | .tup l => l.all fun d => match d with | .agg l => l.all D.one | _ => true
  | _ => true
theorem map_rep {M : Nat → Prop} {w : World} (ds : List D) (hf : ∀ d ∈ ds, d.isV = true) : ∀ (j : Nat) (d : D) (x : Value), ds[j]? = some d → (ds.map dval0)[j]? = some x → RepD M w d x := by
  intro j d x hj hx
  rw [List.getElem?_map, hj] at hx
  cases hx
  have := hf d (List.mem_of_getElem? hj)
  cases d <;> simp [D.isV] at this
  exact .v _
theorem flat_mk {M : Nat → Prop} {w : World} {d : D} (hf : d.flat = true) (h1 : d.aggOK = true) : RepD M w d (dval d) := by
  cases d with
  | v x => exact .v x
  | agg l =>
    simp only [D.flat, List.all_eq_true] at hf
    simp only [D.aggOK, List.all_eq_true] at h1
    exact .agg l _ (by simp) h1 (map_rep l hf)
  | tup l =>
    simp only [D.flat, List.all_eq_true] at hf
    simp only [D.aggOK, List.all_eq_true] at h1
    refine .tup l _ (by simp) fun j d x hj hx => ?_
    rw [List.getElem?_map, hj] at hx
    cases hx
    have h2 := hf d (List.mem_of_getElem? hj)
    have h3 := h1 d (List.mem_of_getElem? hj)
    cases d with
    | v x => exact .v x
    | agg l' =>
      simp only [List.all_eq_true] at h2 h3
      exact .agg l' _ (by simp) h3 (map_rep l' h2)
    | _ => simp at h2
  | _ => simp [D.flat] at hf
theorem pspec_flat {P : Program} {f : Nat} {ds : List D} {r : D} (hn : FnOK P f) (hf : ∀ d ∈ ds, d.flat = true) (hr : r.flat = true) (hr1 : r.aggOK = true) (h : ∀ w, Calls P f (ds.map dval).toArray w fun e w' => e = .returned (dval r) ∧ Ext w w') : PSpec P f ds r := by
  refine ⟨hn, fun M w vs _ hds => ?_⟩
  rw [ext_list (f := dval) hds.1 fun j d x hj hx => flat_val (hds.2 j d x hj hx) (hf d (List.mem_of_getElem? hj))]
  exact (h w).mono fun e w' ⟨he, hx⟩ => ⟨dval r, he, flat_mk hr hr1, hx⟩
end Go.Proofs.Ytinnohljknmolaa
namespace Go.Proofs.Ytinnohljknmolaa
open Go Go.RowKit Go.Proofs
set_option maxRecDepth 100000
def within (n lo hi : Int) : Bool := decide (lo ≤ n) && decide (n ≤ hi)
theorem within_any (n lo hi : Int) (w : World) :
    Calls Try.prog 27 #[.int .i64 n, .int .i64 lo, .int .i64 hi] w fun e w' => e = .returned (.bool (within n lo hi)) ∧ w = w' := by
  by_cases h1 : lo ≤ n
  · by_cases h2 : n ≤ hi
    · have hr : within n lo hi = true := by simp [within, h1, h2]
      replace hr := Lib.hid hr
      go_enter Try.func27, Try.ntmps27
      go_wp2_with fail
      go_ret
      first | exact ⟨ret_bool hr.out.symm, rfl⟩ | exact ⟨rfl, rfl⟩
    · have hr : within n lo hi = false := by simp [within, h2]
      replace hr := Lib.hid hr
      go_enter Try.func27, Try.ntmps27
      go_wp2_with fail
      go_ret
      first | exact ⟨ret_bool hr.out.symm, rfl⟩ | exact ⟨rfl, rfl⟩
  · have hr : within n lo hi = false := by simp [within, h1]
    replace hr := Lib.hid hr
    go_enter Try.func27, Try.ntmps27
    go_wp2_with fail
    go_ret
    first | exact ⟨ret_bool hr.out.symm, rfl⟩ | exact ⟨rfl, rfl⟩
end Go.Proofs.Ytinnohljknmolaa
namespace Go.Proofs.Ytinnohljknmolaa
open Go Go.RowKit Go.Proofs
set_option maxRecDepth 100000
def szI (n : Int) : Int := 2 ^ (16 - n).toNat
theorem szI_bd {n : Int} (h0 : 0 ≤ n) : 1 ≤ szI n ∧ szI n ≤ 65536 := by have := pow_bd n h0; unfold szI; omega
theorem sizeOf_any (n : Int) (w : World) (h0 : 0 ≤ n) (h1 : n ≤ 16) :
    Calls Try.prog 61 #[.int .i64 n] w fun e w' => e = .returned (.int .i64 (szI n)) ∧ w = w' := by
  have hp := pow_bd n h0
  go_enter Try.func61, Try.ntmps61
  go_wp2
  go_ret
  exact ⟨rfl, rfl⟩
set_option maxHeartbeats 400000 in
theorem checkPrefix_any (a l : Int) (w : World) :
    Calls Try.prog 42 #[.agg #[.int .i64 a, .int .i64 l]] w fun e w' => e = .returned (.int .i64 (chk a l)) ∧ Ext w w' := by
  by_cases hl : 0 ≤ l ∧ l ≤ 16
  · have e1 : within l 0 16 = true := by simp [within, hl]
    by_cases ha : 0 ≤ a ∧ a ≤ 65535
    · have e2 : within a 0 65535 = true := by simp [within, ha]
      have hm := pow_bd l hl.1
      obtain ⟨⟨g1, g2⟩, g3, g4⟩ := And.intro hl ha
      clear hl ha
      obtain ⟨z1, z2⟩ := szI_bd g1
      have z3 : ¬ szI l = 0 := by omega
      have hc := Lib.hid (chk_in g1 g2 g3 g4)
      go_enter Try.func42, Try.ntmps42
      go_wp2_with (first | (go_at_call 27; refine (within_any _ _ _ _).mono ?_; rintro e w' ⟨rfl, rfl⟩))
      refine region_ext (by kernel_rfl) (by kernel_rfl) ?_
      repeat (first | ((first | refine skip_t rfl rfl rfl (by with_reducible rfl) ?_ | refine skip_f rfl rfl rfl (by with_reducible rfl) ?_ | refine skip_u rfl rfl rfl (by with_reducible rfl) ?_); simp only [Act.put, List.setIfInBounds_toArray, List.set_cons_zero, List.set_cons_succ]) | (apply quiet_take; (first | exact want_0 rfl | exact want_b rfl rfl rfl (by with_reducible rfl)); intro wq hwq R hR; (have hcc := (bcell hwq).1; (try simp only [World.size_alloc, World.size_setCell, World.size_drew, World.heap_drewN] at hcc); go_simp; first | exact hR | ((go_at_call 61; exact callq_same hwq (sizeOf_any _ _ g1 g2) hR))); simp only [Act.put, List.setIfInBounds_toArray, List.set_cons_zero, List.set_cons_succ]))
      refine wpQuiet_nil ?_
      intro w1 hw1
      obtain ⟨hcw1, hfw1⟩ := bcell hw1
      have hzw1 := bsize hw1
      (try simp only [World.size_alloc, World.size_setCell, World.size_drew, World.heap_drewN] at hcw1 hfw1 hzw1)
      go_wp2_with fail
      · go_ret
        rename_i h
        refine ⟨ret_int ?_, ?_⟩
        · rw [hc.out, if_neg (by rw [Int.tmod_eq_emod_of_nonneg g3] at h; simpa [szI] using h)]
        · refine Bel.bel (B := _) ?_
          (repeat (first | with_reducible assumption | with_reducible exact Bel.refl _ | with_reducible refine Bel.alloc ?_ _ | with_reducible refine Bel.drewN ?_ _ | with_reducible refine Bel.drew ?_ | (with_reducible refine Bel.setCell0 ?_ ?_ _; rotate_left; (first | omega | (simp; done) | (simp; omega))) | (with_reducible refine Bel.setCell ?_ (p := _) ?_ _; rotate_left; (first | (simp; done) | omega | (simp; omega))) | refine Bel.call ?_ (by assumption) | (refine EX.bel ?_ (by assumption) ?_; rotate_left; (first | omega | (simp; omega)))))
      · go_ret
        rename_i h
        refine ⟨ret_int ?_, ?_⟩
        · rw [hc.out, if_pos (by rw [Int.tmod_eq_emod_of_nonneg g3] at h; simpa [szI] using h)]
        · refine Bel.bel (B := _) ?_
          (repeat (first | with_reducible assumption | with_reducible exact Bel.refl _ | with_reducible refine Bel.alloc ?_ _ | with_reducible refine Bel.drewN ?_ _ | with_reducible refine Bel.drew ?_ | (with_reducible refine Bel.setCell0 ?_ ?_ _; rotate_left; (first | omega | (simp; done) | (simp; omega))) | (with_reducible refine Bel.setCell ?_ (p := _) ?_ _; rotate_left; (first | (simp; done) | omega | (simp; omega))) | refine Bel.call ?_ (by assumption) | (refine EX.bel ?_ (by assumption) ?_; rotate_left; (first | omega | (simp; omega)))))
    · have e2 : within a 0 65535 = false := by simp [within]; omega
      have hc := Lib.hid (chk_3 (a := a) (l := l) (by omega))
      clear hl ha
      go_enter Try.func42, Try.ntmps42
      go_wp2_with (first | (go_at_call 27; refine (within_any _ _ _ _).mono ?_; rintro e w' ⟨rfl, rfl⟩))
      go_ret
      refine ⟨ret_int hc.out.symm, ?_⟩
      refine Bel.bel (B := _) ?_
      (repeat (first | with_reducible assumption | with_reducible exact Bel.refl _ | with_reducible refine Bel.alloc ?_ _ | with_reducible refine Bel.drewN ?_ _ | with_reducible refine Bel.drew ?_ | (with_reducible refine Bel.setCell0 ?_ ?_ _; rotate_left; (first | omega | (simp; done) | (simp; omega))) | (with_reducible refine Bel.setCell ?_ (p := _) ?_ _; rotate_left; (first | (simp; done) | omega | (simp; omega))) | refine Bel.call ?_ (by assumption) | (refine EX.bel ?_ (by assumption) ?_; rotate_left; (first | omega | (simp; omega)))))
  · have e1 : within l 0 16 = false := by simp [within]; omega
    have hc := Lib.hid (chk_3 (a := a) (l := l) (by omega))
    clear hl
    go_enter Try.func42, Try.ntmps42
    go_wp2_with (first | (go_at_call 27; refine (within_any _ _ _ _).mono ?_; rintro e w' ⟨rfl, rfl⟩))
    go_ret
    refine ⟨ret_int hc.out.symm, ?_⟩
    refine Bel.bel (B := _) ?_
    (repeat (first | with_reducible assumption | with_reducible exact Bel.refl _ | with_reducible refine Bel.alloc ?_ _ | with_reducible refine Bel.drewN ?_ _ | with_reducible refine Bel.drew ?_ | (with_reducible refine Bel.setCell0 ?_ ?_ _; rotate_left; (first | omega | (simp; done) | (simp; omega))) | (with_reducible refine Bel.setCell ?_ (p := _) ?_ _; rotate_left; (first | (simp; done) | omega | (simp; omega))) | refine Bel.call ?_ (by assumption) | (refine EX.bel ?_ (by assumption) ?_; rotate_left; (first | omega | (simp; omega)))))
def lastI (a l : Int) : Int := a + szI l - 1
def rightB (a l : Int) : Bool := chk a l == 0
def holdB (a l x : Int) : Bool := rightB a l && within x a (lastI a l)
def insR (a l b m : Int) : Bool := rightB a l && rightB b m && holdB b m a && holdB b m (lastI a l)
def meetB (a l b m : Int) : Bool := rightB a l && rightB b m && decide (a ≤ lastI b m) && decide (b ≤ lastI a l)
theorem right_bd {a l : Int} (h : rightB a l = true) : 0 ≤ l ∧ l ≤ 16 ∧ 0 ≤ a ∧ a ≤ 65535 ∧ a % szI l = 0 := by
  have h0 : chk a l = 0 := by simpa [rightB] using h
  unfold chk at h0
  split at h0
  · omega
  · rename_i h1
    split at h0
    · rename_i h2; exact ⟨by omega, by omega, by omega, by omega, h2⟩
    · omega
theorem rightR_any (a l : Int) (w : World) :
    Calls Try.prog 26 #[.agg #[.int .i64 a, .int .i64 l]] w fun e w' => e = .returned (.bool (rightB a l)) ∧ Ext w w' := by
  go_enter Try.func26, Try.ntmps26
  go_wp2_with fail
  refine (checkPrefix_any a l _).mono ?_
  rintro e w1 ⟨rfl, hw1⟩
  obtain ⟨hcw1, hfw1⟩ := bcell hw1
  have hzw1 := bsize hw1
  (try simp only [World.size_alloc, World.size_setCell, World.size_drew, World.heap_drewN] at hcw1 hfw1 hzw1)
  go_wp2_with fail
  go_ret
  refine ⟨ret_bool rfl, Bel.bel (B := _) ?_⟩
  (repeat (first | with_reducible assumption | with_reducible exact Bel.refl _ | with_reducible refine Bel.alloc ?_ _ | with_reducible refine Bel.drewN ?_ _ | with_reducible refine Bel.drew ?_ | (with_reducible refine Bel.setCell0 ?_ ?_ _; rotate_left; (first | omega | (simp; done) | (simp; omega))) | (with_reducible refine Bel.setCell ?_ (p := _) ?_ _; rotate_left; (first | (simp; done) | omega | (simp; omega))) | refine Bel.call ?_ (by assumption) | (refine EX.bel ?_ (by assumption) ?_; rotate_left; (first | omega | (simp; omega)))))
set_option maxHeartbeats 400000 in
theorem last_any (a l : Int) (w : World) (h : rightB a l = true) :
    Calls Try.prog 43 #[.agg #[.int .i64 a, .int .i64 l]] w fun e w' => e = .returned (.int .i64 (lastI a l)) ∧ Ext w w' := by
  obtain ⟨g1, g2, g3, g4, -⟩ := right_bd h
  obtain ⟨z1, z2⟩ := szI_bd g1
  clear h
  go_enter Try.func43, Try.ntmps43
  go_wp2_with fail
  refine region_ext (by kernel_rfl) (by kernel_rfl) ?_
  repeat (first | ((first | refine skip_t rfl rfl rfl (by with_reducible rfl) ?_ | refine skip_f rfl rfl rfl (by with_reducible rfl) ?_ | refine skip_u rfl rfl rfl (by with_reducible rfl) ?_); simp only [Act.put, List.setIfInBounds_toArray, List.set_cons_zero, List.set_cons_succ]) | (apply quiet_take; (first | exact want_0 rfl | exact want_b rfl rfl rfl (by with_reducible rfl)); intro wq hwq R hR; (have hcc := (bcell hwq).1; (try simp only [World.size_alloc, World.size_setCell, World.size_drew, World.heap_drewN] at hcc); go_simp; first | exact hR | ((go_at_call 61; exact callq_same hwq (sizeOf_any _ _ g1 g2) hR))); simp only [Act.put, List.setIfInBounds_toArray, List.set_cons_zero, List.set_cons_succ]))
  refine wpQuiet_nil ?_
  intro w1 hw1
  obtain ⟨hcw1, hfw1⟩ := bcell hw1
  have hzw1 := bsize hw1
  (try simp only [World.size_alloc, World.size_setCell, World.size_drew, World.heap_drewN] at hcw1 hfw1 hzw1)
  go_wp2_with fail
  go_ret
  refine ⟨ret_int (by simp only [IntKind.wrap_i64]; unfold lastI; omega), Bel.bel (B := _) ?_⟩
  (repeat (first | with_reducible assumption | with_reducible exact Bel.refl _ | with_reducible refine Bel.alloc ?_ _ | with_reducible refine Bel.drewN ?_ _ | with_reducible refine Bel.drew ?_ | (with_reducible refine Bel.setCell0 ?_ ?_ _; rotate_left; (first | omega | (simp; done) | (simp; omega))) | (with_reducible refine Bel.setCell ?_ (p := _) ?_ _; rotate_left; (first | (simp; done) | omega | (simp; omega))) | refine Bel.call ?_ (by assumption) | (refine EX.bel ?_ (by assumption) ?_; rotate_left; (first | omega | (simp; omega)))))
set_option maxHeartbeats 400000 in
theorem holdsIt_any (a l x : Int) (w : World) :
    Calls Try.prog 28 #[.agg #[.int .i64 a, .int .i64 l], .int .i64 x] w fun e w' => e = .returned (.bool (holdB a l x)) ∧ Ext w w' := by
  by_cases h : rightB a l = true
  · have hv : holdB a l x = within x a (lastI a l) := by simp [holdB, h]
    rw [hv]
    go_enter Try.func28, Try.ntmps28
    go_wp2_with fail
    refine region_ext (by kernel_rfl) (by kernel_rfl) ?_
    repeat (first | ((first | refine skip_t rfl rfl rfl (by with_reducible rfl) ?_ | refine skip_f rfl rfl rfl (by with_reducible rfl) ?_ | refine skip_u rfl rfl rfl (by with_reducible rfl) ?_); simp only [Act.put, List.setIfInBounds_toArray, List.set_cons_zero, List.set_cons_succ]) | (apply quiet_take; (first | exact want_0 rfl | exact want_b rfl rfl rfl (by with_reducible rfl)); intro wq hwq R hR; (have hcc := (bcell hwq).1; (try simp only [World.size_alloc, World.size_setCell, World.size_drew, World.heap_drewN] at hcc); go_simp; first | exact hR | (first | (go_at_call 26; exact callq hwq (rightR_any _ _ _) hR) | (go_at_call 43; exact callq hwq (last_any _ _ _ h) hR) | (go_at_call 27; exact callq_same hwq (within_any _ _ _ _) hR))); simp only [Act.put, List.setIfInBounds_toArray, List.set_cons_zero, List.set_cons_succ]))
    refine wpQuiet_nil ?_
    intro w1 hw1
    obtain ⟨hcw1, hfw1⟩ := bcell hw1
    have hzw1 := bsize hw1
    (try simp only [World.size_alloc, World.size_setCell, World.size_drew, World.heap_drewN] at hcw1 hfw1 hzw1)
    go_wp2_with fail
    go_ret
    refine ⟨ret_bool rfl, Bel.bel (B := _) ?_⟩
    (repeat (first | with_reducible assumption | with_reducible exact Bel.refl _ | with_reducible refine Bel.alloc ?_ _ | with_reducible refine Bel.drewN ?_ _ | with_reducible refine Bel.drew ?_ | (with_reducible refine Bel.setCell0 ?_ ?_ _; rotate_left; (first | omega | (simp; done) | (simp; omega))) | (with_reducible refine Bel.setCell ?_ (p := _) ?_ _; rotate_left; (first | (simp; done) | omega | (simp; omega))) | refine Bel.call ?_ (by assumption) | (refine EX.bel ?_ (by assumption) ?_; rotate_left; (first | omega | (simp; omega)))))
  · have h := (Bool.not_eq_true _).mp h
    have hv : holdB a l x = false := by simp [holdB, h]
    rw [hv]
    go_enter Try.func28, Try.ntmps28
    go_wp2_with fail
    refine region_ext (by kernel_rfl) (by kernel_rfl) ?_
    repeat (first | ((first | refine skip_t rfl rfl rfl (by with_reducible rfl) ?_ | refine skip_f rfl rfl rfl (by with_reducible rfl) ?_ | refine skip_u rfl rfl rfl (by with_reducible rfl) ?_); simp only [Act.put, List.setIfInBounds_toArray, List.set_cons_zero, List.set_cons_succ]) | (apply quiet_take; (first | exact want_0 rfl | exact want_b rfl rfl rfl (by with_reducible rfl)); intro wq hwq R hR; (have hcc := (bcell hwq).1; (try simp only [World.size_alloc, World.size_setCell, World.size_drew, World.heap_drewN] at hcc); go_simp; first | exact hR | (first | (go_at_call 26; exact callq hwq (rightR_any _ _ _) hR))); simp only [Act.put, List.setIfInBounds_toArray, List.set_cons_zero, List.set_cons_succ]))
    refine wpQuiet_nil ?_
    intro w1 hw1
    obtain ⟨hcw1, hfw1⟩ := bcell hw1
    have hzw1 := bsize hw1
    (try simp only [World.size_alloc, World.size_setCell, World.size_drew, World.heap_drewN] at hcw1 hfw1 hzw1)
    go_wp2_with fail
    go_ret
    refine ⟨ret_bool rfl, Bel.bel (B := _) ?_⟩
    (repeat (first | with_reducible assumption | with_reducible exact Bel.refl _ | with_reducible refine Bel.alloc ?_ _ | with_reducible refine Bel.drewN ?_ _ | with_reducible refine Bel.drew ?_ | (with_reducible refine Bel.setCell0 ?_ ?_ _; rotate_left; (first | omega | (simp; done) | (simp; omega))) | (with_reducible refine Bel.setCell ?_ (p := _) ?_ _; rotate_left; (first | (simp; done) | omega | (simp; omega))) | refine Bel.call ?_ (by assumption) | (refine EX.bel ?_ (by assumption) ?_; rotate_left; (first | omega | (simp; omega)))))
set_option maxHeartbeats 800000 in
theorem insideOf_any (a l b m : Int) (w : World) :
    Calls Try.prog 59 #[.agg #[.int .i64 a, .int .i64 l], .agg #[.int .i64 b, .int .i64 m]] w fun e w' => e = .returned (.bool (insR a l b m)) ∧ Ext w w' := by
  cases hA : rightB a l
  case false =>
    go_enter Try.func59, Try.ntmps59
    go_wp2_with fail
    refine region_ext (by kernel_rfl) (by kernel_rfl) ?_
    repeat (first | ((first | refine skip_t rfl rfl rfl (by with_reducible rfl) ?_ | refine skip_f rfl rfl rfl (by with_reducible rfl) ?_ | refine skip_u rfl rfl rfl (by with_reducible rfl) ?_); simp only [Act.put, List.setIfInBounds_toArray, List.set_cons_zero, List.set_cons_succ]) | (apply quiet_take; (first | exact want_0 rfl | exact want_b rfl rfl rfl (by with_reducible rfl)); intro wq hwq R hR; (have hcc := (bcell hwq).1; (try simp only [World.size_alloc, World.size_setCell, World.size_drew, World.heap_drewN] at hcc); go_simp; first | exact hR | (first | (go_at_call 26; exact callq hwq (rightR_any _ _ _) hR))); simp only [Act.put, List.setIfInBounds_toArray, List.set_cons_zero, List.set_cons_succ]))
    refine wpQuiet_nil ?_
    intro w1 hw1
    obtain ⟨hcw1, hfw1⟩ := bcell hw1
    have hzw1 := bsize hw1
    (try simp only [World.size_alloc, World.size_setCell, World.size_drew, World.heap_drewN] at hcw1 hfw1 hzw1)
    go_wp2_with fail
    go_ret
    refine ⟨ret_bool (by simp [insR, hA]), Bel.bel (B := _) ?_⟩
    (repeat (first | with_reducible assumption | with_reducible exact Bel.refl _ | with_reducible refine Bel.alloc ?_ _ | with_reducible refine Bel.drewN ?_ _ | with_reducible refine Bel.drew ?_ | (with_reducible refine Bel.setCell0 ?_ ?_ _; rotate_left; (first | omega | (simp; done) | (simp; omega))) | (with_reducible refine Bel.setCell ?_ (p := _) ?_ _; rotate_left; (first | (simp; done) | omega | (simp; omega))) | refine Bel.call ?_ (by assumption) | (refine EX.bel ?_ (by assumption) ?_; rotate_left; (first | omega | (simp; omega)))))
  case true =>
    cases hB : rightB b m
    case false =>
      go_enter Try.func59, Try.ntmps59
      go_wp2_with fail
      refine region_ext (by kernel_rfl) (by kernel_rfl) ?_
      repeat (first | ((first | refine skip_t rfl rfl rfl (by with_reducible rfl) ?_ | refine skip_f rfl rfl rfl (by with_reducible rfl) ?_ | refine skip_u rfl rfl rfl (by with_reducible rfl) ?_); simp only [Act.put, List.setIfInBounds_toArray, List.set_cons_zero, List.set_cons_succ]) | (apply quiet_take; (first | exact want_0 rfl | exact want_b rfl rfl rfl (by with_reducible rfl)); intro wq hwq R hR; (have hcc := (bcell hwq).1; (try simp only [World.size_alloc, World.size_setCell, World.size_drew, World.heap_drewN] at hcc); go_simp; first | exact hR | (first | (go_at_call 26; exact callq hwq (rightR_any _ _ _) hR))); simp only [Act.put, List.setIfInBounds_toArray, List.set_cons_zero, List.set_cons_succ]))
      refine wpQuiet_nil ?_
      intro w1 hw1
      obtain ⟨hcw1, hfw1⟩ := bcell hw1
      have hzw1 := bsize hw1
      (try simp only [World.size_alloc, World.size_setCell, World.size_drew, World.heap_drewN] at hcw1 hfw1 hzw1)
      go_wp2_with fail
      go_ret
      refine ⟨ret_bool (by simp [insR, hA, hB]), Bel.bel (B := _) ?_⟩
      (repeat (first | with_reducible assumption | with_reducible exact Bel.refl _ | with_reducible refine Bel.alloc ?_ _ | with_reducible refine Bel.drewN ?_ _ | with_reducible refine Bel.drew ?_ | (with_reducible refine Bel.setCell0 ?_ ?_ _; rotate_left; (first | omega | (simp; done) | (simp; omega))) | (with_reducible refine Bel.setCell ?_ (p := _) ?_ _; rotate_left; (first | (simp; done) | omega | (simp; omega))) | refine Bel.call ?_ (by assumption) | (refine EX.bel ?_ (by assumption) ?_; rotate_left; (first | omega | (simp; omega)))))
    case true =>
      cases hC : holdB b m a
      case false =>
        go_enter Try.func59, Try.ntmps59
        go_wp2_with fail
        refine region_ext (by kernel_rfl) (by kernel_rfl) ?_
        repeat (first | ((first | refine skip_t rfl rfl rfl (by with_reducible rfl) ?_ | refine skip_f rfl rfl rfl (by with_reducible rfl) ?_ | refine skip_u rfl rfl rfl (by with_reducible rfl) ?_); simp only [Act.put, List.setIfInBounds_toArray, List.set_cons_zero, List.set_cons_succ]) | (apply quiet_take; (first | exact want_0 rfl | exact want_b rfl rfl rfl (by with_reducible rfl)); intro wq hwq R hR; (have hcc := (bcell hwq).1; (try simp only [World.size_alloc, World.size_setCell, World.size_drew, World.heap_drewN] at hcc); go_simp; first | exact hR | (first | (go_at_call 26; exact callq hwq (rightR_any _ _ _) hR) | (go_at_call 28; exact callq hwq (holdsIt_any _ _ _ _) hR) | (go_at_call 43; exact callq hwq (last_any _ _ _ hA) hR))); simp only [Act.put, List.setIfInBounds_toArray, List.set_cons_zero, List.set_cons_succ]))
        refine wpQuiet_nil ?_
        intro w1 hw1
        obtain ⟨hcw1, hfw1⟩ := bcell hw1
        have hzw1 := bsize hw1
        (try simp only [World.size_alloc, World.size_setCell, World.size_drew, World.heap_drewN] at hcw1 hfw1 hzw1)
        go_wp2_with fail
        go_ret
        refine ⟨ret_bool (by simp [insR, hA, hB, hC]), Bel.bel (B := _) ?_⟩
        (repeat (first | with_reducible assumption | with_reducible exact Bel.refl _ | with_reducible refine Bel.alloc ?_ _ | with_reducible refine Bel.drewN ?_ _ | with_reducible refine Bel.drew ?_ | (with_reducible refine Bel.setCell0 ?_ ?_ _; rotate_left; (first | omega | (simp; done) | (simp; omega))) | (with_reducible refine Bel.setCell ?_ (p := _) ?_ _; rotate_left; (first | (simp; done) | omega | (simp; omega))) | refine Bel.call ?_ (by assumption) | (refine EX.bel ?_ (by assumption) ?_; rotate_left; (first | omega | (simp; omega)))))
      case true =>
        go_enter Try.func59, Try.ntmps59
        go_wp2_with fail
        refine region_ext (by kernel_rfl) (by kernel_rfl) ?_
        repeat (first | ((first | refine skip_t rfl rfl rfl (by with_reducible rfl) ?_ | refine skip_f rfl rfl rfl (by with_reducible rfl) ?_ | refine skip_u rfl rfl rfl (by with_reducible rfl) ?_); simp only [Act.put, List.setIfInBounds_toArray, List.set_cons_zero, List.set_cons_succ]) | (apply quiet_take; (first | exact want_0 rfl | exact want_b rfl rfl rfl (by with_reducible rfl)); intro wq hwq R hR; (have hcc := (bcell hwq).1; (try simp only [World.size_alloc, World.size_setCell, World.size_drew, World.heap_drewN] at hcc); go_simp; first | exact hR | (first | (go_at_call 26; exact callq hwq (rightR_any _ _ _) hR) | (go_at_call 28; exact callq hwq (holdsIt_any _ _ _ _) hR) | (go_at_call 43; exact callq hwq (last_any _ _ _ hA) hR))); simp only [Act.put, List.setIfInBounds_toArray, List.set_cons_zero, List.set_cons_succ]))
        refine wpQuiet_nil ?_
        intro w1 hw1
        obtain ⟨hcw1, hfw1⟩ := bcell hw1
        have hzw1 := bsize hw1
        (try simp only [World.size_alloc, World.size_setCell, World.size_drew, World.heap_drewN] at hcw1 hfw1 hzw1)
        go_wp2_with fail
        go_ret
        refine ⟨ret_bool (by simp [insR, hA, hB, hC]), Bel.bel (B := _) ?_⟩
        (repeat (first | with_reducible assumption | with_reducible exact Bel.refl _ | with_reducible refine Bel.alloc ?_ _ | with_reducible refine Bel.drewN ?_ _ | with_reducible refine Bel.drew ?_ | (with_reducible refine Bel.setCell0 ?_ ?_ _; rotate_left; (first | omega | (simp; done) | (simp; omega))) | (with_reducible refine Bel.setCell ?_ (p := _) ?_ _; rotate_left; (first | (simp; done) | omega | (simp; omega))) | refine Bel.call ?_ (by assumption) | (refine EX.bel ?_ (by assumption) ?_; rotate_left; (first | omega | (simp; omega)))))
set_option maxHeartbeats 800000 in
theorem meet_any (a l b m : Int) (w : World) :
    Calls Try.prog 39 #[.agg #[.int .i64 a, .int .i64 l], .agg #[.int .i64 b, .int .i64 m]] w fun e w' => e = .returned (.bool (meetB a l b m)) ∧ Ext w w' := by
  cases hA : rightB a l
  case false =>
    go_enter Try.func39, Try.ntmps39
    go_wp2_with fail
    refine region_ext (by kernel_rfl) (by kernel_rfl) ?_
    repeat (first | ((first | refine skip_t rfl rfl rfl (by with_reducible rfl) ?_ | refine skip_f rfl rfl rfl (by with_reducible rfl) ?_ | refine skip_u rfl rfl rfl (by with_reducible rfl) ?_); simp only [Act.put, List.setIfInBounds_toArray, List.set_cons_zero, List.set_cons_succ]) | (apply quiet_take; (first | exact want_0 rfl | exact want_b rfl rfl rfl (by with_reducible rfl)); intro wq hwq R hR; (have hcc := (bcell hwq).1; (try simp only [World.size_alloc, World.size_setCell, World.size_drew, World.heap_drewN] at hcc); go_simp; first | exact hR | (first | (go_at_call 26; exact callq hwq (rightR_any _ _ _) hR))); simp only [Act.put, List.setIfInBounds_toArray, List.set_cons_zero, List.set_cons_succ]))
    refine wpQuiet_nil ?_
    intro w1 hw1
    obtain ⟨hcw1, hfw1⟩ := bcell hw1
    have hzw1 := bsize hw1
    (try simp only [World.size_alloc, World.size_setCell, World.size_drew, World.heap_drewN] at hcw1 hfw1 hzw1)
    go_wp2_with fail
    go_ret
    refine ⟨ret_bool (by simp [meetB, hA]), Bel.bel (B := _) ?_⟩
    (repeat (first | with_reducible assumption | with_reducible exact Bel.refl _ | with_reducible refine Bel.alloc ?_ _ | with_reducible refine Bel.drewN ?_ _ | with_reducible refine Bel.drew ?_ | (with_reducible refine Bel.setCell0 ?_ ?_ _; rotate_left; (first | omega | (simp; done) | (simp; omega))) | (with_reducible refine Bel.setCell ?_ (p := _) ?_ _; rotate_left; (first | (simp; done) | omega | (simp; omega))) | refine Bel.call ?_ (by assumption) | (refine EX.bel ?_ (by assumption) ?_; rotate_left; (first | omega | (simp; omega)))))
  case true =>
    cases hB : rightB b m
    case false =>
      go_enter Try.func39, Try.ntmps39
      go_wp2_with fail
      refine region_ext (by kernel_rfl) (by kernel_rfl) ?_
      repeat (first | ((first | refine skip_t rfl rfl rfl (by with_reducible rfl) ?_ | refine skip_f rfl rfl rfl (by with_reducible rfl) ?_ | refine skip_u rfl rfl rfl (by with_reducible rfl) ?_); simp only [Act.put, List.setIfInBounds_toArray, List.set_cons_zero, List.set_cons_succ]) | (apply quiet_take; (first | exact want_0 rfl | exact want_b rfl rfl rfl (by with_reducible rfl)); intro wq hwq R hR; (have hcc := (bcell hwq).1; (try simp only [World.size_alloc, World.size_setCell, World.size_drew, World.heap_drewN] at hcc); go_simp; first | exact hR | (first | (go_at_call 26; exact callq hwq (rightR_any _ _ _) hR))); simp only [Act.put, List.setIfInBounds_toArray, List.set_cons_zero, List.set_cons_succ]))
      refine wpQuiet_nil ?_
      intro w1 hw1
      obtain ⟨hcw1, hfw1⟩ := bcell hw1
      have hzw1 := bsize hw1
      (try simp only [World.size_alloc, World.size_setCell, World.size_drew, World.heap_drewN] at hcw1 hfw1 hzw1)
      go_wp2_with fail
      go_ret
      refine ⟨ret_bool (by simp [meetB, hA, hB]), Bel.bel (B := _) ?_⟩
      (repeat (first | with_reducible assumption | with_reducible exact Bel.refl _ | with_reducible refine Bel.alloc ?_ _ | with_reducible refine Bel.drewN ?_ _ | with_reducible refine Bel.drew ?_ | (with_reducible refine Bel.setCell0 ?_ ?_ _; rotate_left; (first | omega | (simp; done) | (simp; omega))) | (with_reducible refine Bel.setCell ?_ (p := _) ?_ _; rotate_left; (first | (simp; done) | omega | (simp; omega))) | refine Bel.call ?_ (by assumption) | (refine EX.bel ?_ (by assumption) ?_; rotate_left; (first | omega | (simp; omega)))))
    case true =>
      cases hC : decide (a ≤ lastI b m)
      case false =>
        go_enter Try.func39, Try.ntmps39
        go_wp2_with fail
        refine region_ext (by kernel_rfl) (by kernel_rfl) ?_
        repeat (first | ((first | refine skip_t rfl rfl rfl (by with_reducible rfl) ?_ | refine skip_f rfl rfl rfl (by with_reducible rfl) ?_ | refine skip_u rfl rfl rfl (by with_reducible rfl) ?_); simp only [Act.put, List.setIfInBounds_toArray, List.set_cons_zero, List.set_cons_succ]) | (apply quiet_take; (first | exact want_0 rfl | exact want_b rfl rfl rfl (by with_reducible rfl)); intro wq hwq R hR; (have hcc := (bcell hwq).1; (try simp only [World.size_alloc, World.size_setCell, World.size_drew, World.heap_drewN] at hcc); go_simp; first | exact hR | (first | (go_at_call 26; exact callq hwq (rightR_any _ _ _) hR) | (go_at_call 43; exact callq hwq (last_any _ _ _ (by assumption)) hR))); simp only [Act.put, List.setIfInBounds_toArray, List.set_cons_zero, List.set_cons_succ]))
        refine wpQuiet_nil ?_
        intro w1 hw1
        obtain ⟨hcw1, hfw1⟩ := bcell hw1
        have hzw1 := bsize hw1
        (try simp only [World.size_alloc, World.size_setCell, World.size_drew, World.heap_drewN] at hcw1 hfw1 hzw1)
        go_wp2_with fail
        go_ret
        refine ⟨ret_bool (by simp [meetB, hA, hB, hC]), Bel.bel (B := _) ?_⟩
        (repeat (first | with_reducible assumption | with_reducible exact Bel.refl _ | with_reducible refine Bel.alloc ?_ _ | with_reducible refine Bel.drewN ?_ _ | with_reducible refine Bel.drew ?_ | (with_reducible refine Bel.setCell0 ?_ ?_ _; rotate_left; (first | omega | (simp; done) | (simp; omega))) | (with_reducible refine Bel.setCell ?_ (p := _) ?_ _; rotate_left; (first | (simp; done) | omega | (simp; omega))) | refine Bel.call ?_ (by assumption) | (refine EX.bel ?_ (by assumption) ?_; rotate_left; (first | omega | (simp; omega)))))
      case true =>
        go_enter Try.func39, Try.ntmps39
        go_wp2_with fail
        refine region_ext (by kernel_rfl) (by kernel_rfl) ?_
        repeat (first | ((first | refine skip_t rfl rfl rfl (by with_reducible rfl) ?_ | refine skip_f rfl rfl rfl (by with_reducible rfl) ?_ | refine skip_u rfl rfl rfl (by with_reducible rfl) ?_); simp only [Act.put, List.setIfInBounds_toArray, List.set_cons_zero, List.set_cons_succ]) | (apply quiet_take; (first | exact want_0 rfl | exact want_b rfl rfl rfl (by with_reducible rfl)); intro wq hwq R hR; (have hcc := (bcell hwq).1; (try simp only [World.size_alloc, World.size_setCell, World.size_drew, World.heap_drewN] at hcc); go_simp; first | exact hR | (first | (go_at_call 26; exact callq hwq (rightR_any _ _ _) hR) | (go_at_call 43; exact callq hwq (last_any _ _ _ (by assumption)) hR))); simp only [Act.put, List.setIfInBounds_toArray, List.set_cons_zero, List.set_cons_succ]))
        refine wpQuiet_nil ?_
        intro w1 hw1
        obtain ⟨hcw1, hfw1⟩ := bcell hw1
        have hzw1 := bsize hw1
        (try simp only [World.size_alloc, World.size_setCell, World.size_drew, World.heap_drewN] at hcw1 hfw1 hzw1)
        go_wp2_with fail
        go_ret
        refine ⟨ret_bool (by simp [meetB, hA, hB, hC]), Bel.bel (B := _) ?_⟩
        (repeat (first | with_reducible assumption | with_reducible exact Bel.refl _ | with_reducible refine Bel.alloc ?_ _ | with_reducible refine Bel.drewN ?_ _ | with_reducible refine Bel.drew ?_ | (with_reducible refine Bel.setCell0 ?_ ?_ _; rotate_left; (first | omega | (simp; done) | (simp; omega))) | (with_reducible refine Bel.setCell ?_ (p := _) ?_ _; rotate_left; (first | (simp; done) | omega | (simp; omega))) | refine Bel.call ?_ (by assumption) | (refine EX.bel ?_ (by assumption) ?_; rotate_left; (first | omega | (simp; omega)))))
end Go.Proofs.Ytinnohljknmolaa
namespace Go.Proofs.Ytinnohljknmolaa
open Go Go.RowKit Go.Proofs
set_option maxRecDepth 100000
theorem cellsAt_cons {w : World} {b off : Nat} {c : Value} {cs : List Value} (h : w.cell? ⟨b, off, none⟩ = some c) (hs : cellsAt w b (off + 1) cs) : cellsAt w b off (c :: cs) := by
  intro i hi
  match i with
  | 0 => simpa using h
  | i + 1 => have := hs i (by simpa using hi); simpa [Nat.add_assoc, Nat.add_comm 1 i] using this
theorem cellsAt_nil {w : World} {b off : Nat} : cellsAt w b off [] := fun i hi => absurd hi (by simp)
theorem right1 {w : World} {b : Nat} (a l : Int) (v : Bool) (hv : rightB a l = v) (h0 : w.cell? ⟨b, 0, none⟩ = some (.int .i64 a)) (h1 : w.cell? ⟨b, 1, none⟩ = some (.int .i64 l)) :
    Calls Try.prog 29 #[.slice (some ⟨b, 0, none⟩) 1 1] w fun e w' => e = .returned (.bool v) ∧ Ext w w' := by
  have h : Sl (fun _ => True) w 2 Pfx.R (some ⟨b, 0, none⟩) 1 [(⟨a, l⟩ : Pfx)] := by
    refine ⟨by simp, by omega, fun i hi => ?_⟩
    match i with
    | 0 => exact ⟨b, 0, _, rfl, trivial, rfl, rfl, cellsAt_cons h0 (cellsAt_cons h1 cellsAt_nil)⟩
  refine (right_any h).mono fun e w' hh => ⟨hh.1.trans (ret_bool ?_), hh.2⟩
  rw [← hv]; simp [rightB, Pfx.chk]
theorem right2 {w : World} {b : Nat} (a l c m : Int) (v : Bool) (hv : (rightB a l && rightB c m) = v) (h0 : w.cell? ⟨b, 0, none⟩ = some (.int .i64 a)) (h1 : w.cell? ⟨b, 1, none⟩ = some (.int .i64 l))
    (h2 : w.cell? ⟨b, 2, none⟩ = some (.int .i64 c)) (h3 : w.cell? ⟨b, 3, none⟩ = some (.int .i64 m)) :
    Calls Try.prog 29 #[.slice (some ⟨b, 0, none⟩) 2 2] w fun e w' => e = .returned (.bool v) ∧ Ext w w' := by
  have h : Sl (fun _ => True) w 2 Pfx.R (some ⟨b, 0, none⟩) 2 [(⟨a, l⟩ : Pfx), ⟨c, m⟩] := by
    refine ⟨by simp, by omega, fun i hi => ?_⟩
    match i with
    | 0 => exact ⟨b, 0, _, rfl, trivial, rfl, rfl, cellsAt_cons h0 (cellsAt_cons h1 cellsAt_nil)⟩
    | 1 => exact ⟨b, 0, _, rfl, trivial, rfl, rfl, cellsAt_cons h2 (cellsAt_cons h3 cellsAt_nil)⟩
  refine (right_any h).mono fun e w' hh => ⟨hh.1.trans (ret_bool ?_), hh.2⟩
  rw [← hv]; simp [rightB, Pfx.chk]
theorem bv_andnot (x y : BitVec 64) : (x &&& ~~~y).toNat = x.toNat - (x &&& y).toNat := by
  have h1 : (x &&& ~~~y) &&& (x &&& y) = 0#64 := by
    ext i hi
    simp only [BitVec.getElem_and, BitVec.getElem_not, BitVec.getElem_zero]
    cases x[i] <;> cases y[i] <;> rfl
  have h2 : (x &&& ~~~y) + (x &&& y) = x := by
    rw [BitVec.add_eq_or_of_and_eq_zero _ _ h1]
    ext i hi
    simp only [BitVec.getElem_and, BitVec.getElem_not, BitVec.getElem_or]
    cases x[i] <;> cases y[i] <;> rfl
  have h4 := BitVec.toNat_add_of_and_eq_zero h1
  rw [h2] at h4
  omega
theorem andnot_msk (a l : Int) (h0 : 0 ≤ a) (h1 : a ≤ 65535) (h2 : 0 ≤ l) : bits .andNot .i64 a (msk l) = a - a % szI l := by
  obtain ⟨n, rfl⟩ := Int.eq_ofNat_of_zero_le h0
  have hm := msk_bd l h2
  rw [msk_nat] at hm ⊢
  show IntKind.i64.wrap ((BitVec.ofInt 64 (n : Int) &&& ~~~ BitVec.ofInt 64 _).toNat : Int) = _
  rw [bv_andnot, BitVec.toNat_and, ofInt_i64 n (by omega), ofInt_i64 _ (by omega), Nat.and_two_pow_sub_one_eq_mod, IntKind.wrap_i64]
  have := Nat.mod_le n (2 ^ (16 - l).toNat)
  unfold szI
  have h9 : ((n : Int) % 2 ^ (16 - l).toNat) = ((n % 2 ^ (16 - l).toNat : Nat) : Int) := by simp
  omega
def sizeI (a l : Int) : Int := if rightB a l = true then szI l else 0
set_option maxHeartbeats 400000 in
theorem size_any (a l : Int) (w : World) :
    Calls Try.prog 99 #[.agg #[.int .i64 a, .int .i64 l]] w fun e w' => e = .returned (.int .i64 (sizeI a l)) ∧ Ext w w' := by
  cases hA : rightB a l
  case false =>
    have hs : sizeI a l = 0 := by simp [sizeI, hA]
    rw [hs]
    have hv := Lib.hid hA
    go_enter Try.func99, Try.ntmps99
    go_wp2_with (first | (go_at_call 29; refine (right1 a l _ hv.out ?_ ?_).mono ?_; go_simp; go_simp; rintro e w1 ⟨rfl, hw1⟩))
    go_ret
    refine ⟨rfl, Bel.bel (B := _) ?_⟩
    (repeat (first | with_reducible assumption | with_reducible exact Bel.refl _ | with_reducible refine Bel.alloc ?_ _ | with_reducible refine Bel.drewN ?_ _ | with_reducible refine Bel.drew ?_ | (with_reducible refine Bel.setCell0 ?_ ?_ _; rotate_left; (first | omega | (simp; done) | (simp; omega))) | (with_reducible refine Bel.setCell ?_ (p := _) ?_ _; rotate_left; (first | (simp; done) | omega | (simp; omega))) | refine Bel.call ?_ (by assumption) | (refine EX.bel ?_ (by assumption) ?_; rotate_left; (first | omega | (simp; omega)))))
  case true =>
    have hs : sizeI a l = msk l + 1 := by simp [sizeI, hA, msk, szI]
    rw [hs]
    have hv := Lib.hid hA
    obtain ⟨g1, g2, g3, g4, -⟩ := right_bd hA
    obtain ⟨z1, z2⟩ := msk_bd l g1
    go_enter Try.func99, Try.ntmps99
    go_wp2_with (first | (go_at_call 29; refine (right1 a l _ hv.out ?_ ?_).mono ?_; go_simp; go_simp; rintro e w1 ⟨rfl, hw1⟩; obtain ⟨hcw1, hfw1⟩ := bcell hw1; simp only [World.size_alloc] at hcw1 hfw1) | (go_at_call 30; refine (mask_any _ _ g1 g2).mono ?_; rintro e w2 ⟨rfl, rfl⟩))
    go_ret
    refine ⟨rfl, Bel.bel (B := _) ?_⟩
    (repeat (first | with_reducible assumption | with_reducible exact Bel.refl _ | with_reducible refine Bel.alloc ?_ _ | with_reducible refine Bel.drewN ?_ _ | with_reducible refine Bel.drew ?_ | (with_reducible refine Bel.setCell0 ?_ ?_ _; rotate_left; (first | omega | (simp; done) | (simp; omega))) | (with_reducible refine Bel.setCell ?_ (p := _) ?_ _; rotate_left; (first | (simp; done) | omega | (simp; omega))) | refine Bel.call ?_ (by assumption) | (refine EX.bel ?_ (by assumption) ?_; rotate_left; (first | omega | (simp; omega)))))
end Go.Proofs.Ytinnohljknmolaa
namespace Go.Proofs.Ytinnohljknmolaa
open Go Go.RowKit
section
variable {P : Program} {ops : Array Oper} {Q : Exit → Act → World → Prop}
/-- Whatever order is picked, from every world that extends W. -/
def GO (P : Program) (ops : Array Oper) (Q : Exit → Act → World → Prop) : Nat → Array Bool → Act → World → Prop
  | 0, listed, a, W => Region.ready .any ops listed = [] ∧ ∀ w, Ext W w → Q .normal a w
  | fuel + 1, listed, a, W => ∀ w, Ext W w → (Region.ready .any ops listed = [] → Q .normal a w) ∧
      ∀ i ∈ Region.ready .any ops listed, wpOp P ops Q i (fun a' w' => Ext w w' ∧ GO P ops Q fuel (listed.setIfInBounds i true) a' w') a w
theorem GO.world : ∀ {fuel : Nat} {listed : Array Bool} {a : Act} {W W' : World}, Ext W W' → GO P ops Q fuel listed a W → GO P ops Q fuel listed a W'
  | 0, _, _, _, _, hx, h => ⟨h.1, fun w hw => h.2 w (ext_trans hx hw)⟩
  | _ + 1, _, _, _, _, hx, h => fun w hw => h w (ext_trans hx hw)
theorem GO.any : ∀ {fuel : Nat} {listed : Array Bool} {a : Act} {W : World}, GO P ops Q fuel listed a W → wpAny P .any ops Q fuel listed a W
  | 0, _, _, _, h => ⟨h.1, h.2 _ (Below.refl _ _)⟩
  | _ + 1, _, _, W, h => ⟨(h W (Below.refl _ _)).1, fun i hi => wpOp_mono (fun _ _ h' => GO.any h'.2) ((h W (Below.refl _ _)).2 i hi)⟩
/-- In every world that extends W operation o yields v, and at most extends it. -/
def QY (P : Program) (ops : Array Oper) (W : World) (o : Oper) (v : Value) (a : Act) : Prop :=
  (Region.wanted o (yielded ops a.tmps) = true ∧ ∀ w, Ext W w → o.quietAt P a (Ext w) w v) ∨
  (Region.wanted o (yielded ops a.tmps) = false ∧ v = undef)
theorem QY.world {W W' : World} {o : Oper} {v : Value} {a : Act} (hx : Ext W W') (h : QY P ops W o v a) : QY P ops W' o v a :=
  h.imp (fun ⟨h1, h2⟩ => ⟨h1, fun w hw => h2 w (ext_trans hx hw)⟩) id
theorem QY.of_same {W : World} {o : Oper} {v : Value} {a a' : Act} (hy : QY P ops W o v a) (he : execOp a'.eval o = execOp a.eval o)
    (hw : Region.wanted o (yielded ops a'.tmps) = Region.wanted o (yielded ops a.tmps)) : QY P ops W o v a' := by
  unfold QY Oper.quietAt at *
  rw [he, hw]
  exact hy
theorem QY.wpOp {W : World} {i : Nat} {o : Oper} {v : Value} {a : Act} (hi : ops[i]? = some o) (hy : QY P ops W o v a) {K : Act → World → Prop} {w : World} (hw : Ext W w) (h : ∀ w', Ext w w' → K (a.put o.dst v) w') : wpOp P ops Q i K a w := by
  unfold Go.wpOp
  simp only [hi]
  rcases hy with ⟨hwa, hv⟩ | ⟨hwa, rfl⟩
  · simp only [hwa, if_true]
    left
    exact Oper.wp_of_quiet (C := Ext w) (K := fun a' => a' = a.put o.dst v) (Below.refl _ _) (fun a' w' hw' ha => ha ▸ h w' hw') ⟨v, fun w'' hw'' => by
      have := hv w'' (ext_trans hw hw'')
      unfold Oper.quietAt at *
      generalize (execOp a.eval o).run P w'' = r at *
      cases r with
      | ok n u => cases n <;> simp only [Oper.quietUpon] at this ⊢ <;> first | exact this | exact ⟨this.1, this.2.mono fun _ _ ⟨e1, e2⟩ => ⟨e1, ext_trans hw'' e2⟩⟩
      | halt x u => simp only [Oper.quietUpon] at this, rfl⟩
  · simp only [hwa, Bool.false_eq_true, if_false]
    exact h w (Below.refl _ _)
theorem wpOp_putQ {W : World} {j : Nat} {oi oj : Oper} {v : Value} (hj : ops[j]? = some oj) (hap : oi.apart ops oj = true)
    (hsi : ∀ cs b, oi.op ≠ .select cs b) (hsj : ∀ cs b, oj.op ≠ .select cs b)
    (hQ : ∀ c a w, Q (.panic c) (a.put oi.dst v) w → Q (.panic c) a w) {K : Act → World → Prop} {a : Act} {w : World}
    (hy : QY P ops W oi v a) (h : wpOp P ops Q j K (a.put oi.dst v) w) :
    wpOp P ops Q j (fun a' w' => QY P ops W oi v a' ∧ K (a'.put oi.dst v) w') a w := by
  obtain ⟨h1, h2, h3⟩ := Oper.apart_spec hap
  have keep : ∀ (a : Act), QY P ops W oi v a → ∀ u, QY P ops W oi v (a.put oj.dst u) := fun a hy u =>
    hy.of_same (execOp_put oi hsi a oj.dst u h3) (wanted_put oi a oj.dst u h3)
  have keepD : ∀ d, QY P ops W oi v { a with defers := d :: a.defers } := fun d => hy.of_same rfl rfl
  unfold wpOp at *
  simp only [hj] at *
  rw [wanted_put oj a oi.dst v h1] at h
  split
  · rename_i hw
    simp only [hw, if_true] at h
    rcases h with h | ⟨hasks, hlets⟩
    case inr => exact .inr ⟨by unfold Oper.asks at *; rw [execOp_put oj hsj a oi.dst v h1] at hasks; exact hasks, hlets⟩
    refine .inl ?_
    unfold Oper.wp at *
    rw [execOp_put oj hsj a oi.dst v h1] at h
    generalize (execOp a.eval oj).run P w = r at *
    cases r with
    | ok n w' =>
      cases n <;> simp only [Oper.upon] at h ⊢
      case value u => exact ⟨keep a hy u, by rw [← Act.put_comm a v u h2]; exact h⟩
      case skip => exact ⟨keep a hy _, by rw [← Act.put_comm a v undef h2]; exact h⟩
      case defer d =>
        refine ⟨keep _ (keepD d) _, ?_⟩
        rw [← Act.put_comm _ v undef h2, ← Act.put_defers]
        exact h
      case enter f args =>
        refine Calls.mono h fun e w'' he => ?_
        cases e with
        | returned u => exact ⟨keep a hy u, by rw [← Act.put_comm a v u h2]; exact he⟩
        | panicked c => exact hQ _ _ _ he
        | outgrown => exact he
      case row row args => exact Rows.mono h fun u w'' he => ⟨keep a hy u, by rw [← Act.put_comm a v u h2]; exact he⟩
    | halt x w' =>
      cases x <;> simp only [Oper.upon] at h ⊢
      case panic u => exact hQ _ _ _ h
  · rename_i hw
    simp only [hw] at h
    exact ⟨keep a hy _, by rw [← Act.put_comm a v undef h2]; exact h⟩
theorem GO_first {i : Nat} {oi : Oper} {v : Value} (hi : ops[i]? = some oi) (hsel : ∀ (j : Nat) (o : Oper) cs b, ops[j]? = some o → o.op ≠ .select cs b)
    (hQ : ∀ c a w, Q (.panic c) (a.put oi.dst v) w → Q (.panic c) a w) :
    ∀ (fuel : Nat) (listed : Array Bool) (a : Act) (W : World),
      (∀ j oj, ops[j]? = some oj → j ≠ i → listed.getD j true = false → (∀ e ∈ oj.after, Region.binds .any e = true → e.on ≠ i) → oi.apart ops oj = true) →
      i ∈ Region.ready .any ops listed → QY P ops W oi v a →
      GO P ops Q fuel (listed.setIfInBounds i true) (a.put oi.dst v) W → GO P ops Q (fuel + 1) listed a W := by
  intro fuel
  induction fuel with
  | zero =>
    intro listed a W _ hr hy H w hw
    refine ⟨fun h => (by rw [h] at hr; cases hr), fun j hj => ?_⟩
    by_cases hji : j = i
    · subst hji; exact hy.wpOp hi hw fun w' hw' => ⟨hw', H.world (ext_trans hw hw')⟩
    · have := ready_mono hj hji
      rw [H.1] at this
      cases this
  | succ fuel ih =>
    intro listed a W hfree hr hy H w hw
    refine ⟨fun h => (by rw [h] at hr; cases hr), fun j hj => ?_⟩
    by_cases hji : j = i
    · subst hji; exact hy.wpOp hi hw fun w' hw' => ⟨hw', H.world (ext_trans hw hw')⟩
    · have h1 := (H w hw).2 j (ready_mono hj hji)
      obtain ⟨hjun, oj, hoj, hall⟩ := mem_ready.1 hj
      have hnot : ∀ e ∈ oj.after, Region.binds .any e = true → e.on ≠ i := fun e he hb heq => by
        have h1 := hall e he hb
        have h0 := (mem_ready.1 hr).1
        rw [heq] at h1
        rcases Nat.lt_or_ge i listed.size with h' | h'
        · simp [h'] at h0 h1; rw [h0] at h1; cases h1
        · simp [Array.getElem?_eq_none h'] at h1
      have h2 := wpOp_putQ hoj (hfree j oj hoj hji hjun hnot) (fun cs b => hsel i oi cs b hi) (fun cs b => hsel j oj cs b hoj) hQ (hy.world hw) h1
      have hfree' : ∀ k ok, ops[k]? = some ok → k ≠ i → (listed.setIfInBounds j true).getD k true = false →
          (∀ e ∈ ok.after, Region.binds .any e = true → e.on ≠ i) → oi.apart ops ok = true := fun k ok hk hki hun hno => by
        refine hfree k ok hk hki ?_ hno
        by_cases hjk : j = k
        · subst hjk; exact hjun
        · rw [getD_set_ne true hjk] at hun; exact hun
      refine wpOp_mono (fun a' w' h3 => ⟨h3.2.1, ih (listed.setIfInBounds j true) a' w' hfree' (ready_mono hr (Ne.symm hji)) (h3.1.world h3.2.1) ?_⟩) h2
      rw [Array.setIfInBounds_comm _ _ hji]
      exact h3.2.2
/-- The walk in the order of the text. -/
def wpMix (P : Program) (ops : Array Oper) (Q : Exit → Act → World → Prop) : List Oper → Nat → Array Bool → Act → World → Prop
  | [], _, _, a, W => ∀ w, Ext W w → Q .normal a w
  | o :: rest, k, listed, a, W =>
    (∃ v, QY P ops W o v a ∧ wpMix P ops Q rest (k + 1) (listed.setIfInBounds k true) (a.put o.dst v) W) ∨
    (Region.ready .any ops listed = [k] ∧ Region.wanted o (yielded ops a.tmps) = true ∧ ∀ w, Ext W w → o.wp P a w (fun a' w' => Ext w w' ∧ wpMix P ops Q rest (k + 1) (listed.setIfInBounds k true) a' w') Q)
theorem mix_sound (hs : Region.noSelect ops = true) (hQ : ∀ c a d v w, Q (.panic c) (a.put d v) w → Q (.panic c) a w) : ∀ (l : List Oper) (k : Nat) (listed : Array Bool) (a : Act) (W : World), (∀ j, l[j]? = ops[k + j]?) →
    Region.lexFrom .any ops l.length k listed = true → wpMix P ops Q l k listed a W → GO P ops Q l.length listed a W
  | [], _, _, _, _, _, hB, h => ⟨by simpa [Region.lexFrom] using hB, h⟩
  | o :: l, k, listed, a, W, hl, hB, h => by
    have h0 : ops[k]? = some o := by simpa using (hl 0).symm
    simp only [List.length_cons, Region.lexFrom, Bool.and_eq_true] at hB
    obtain ⟨⟨hr, hf⟩, hB'⟩ := hB
    have hl' : ∀ j, l[j]? = ops[k + 1 + j]? := fun j => by have := hl (j + 1); simpa [Nat.add_assoc, Nat.add_comm 1 j] using this
    rcases h with ⟨v, hy, hK⟩ | ⟨hone, hwa, hK⟩
    · exact GO_first h0 (Region.noSelect_spec hs) (fun c a w => hQ c a _ _ w) l.length listed a W (Region.free_spec h0 hf) (by simpa using hr) hy (mix_sound hs hQ l (k + 1) _ _ _ hl' hB' hK)
    · intro w hw
      refine ⟨fun h => by rw [hone] at h; simp at h, fun i hi => ?_⟩
      rw [hone] at hi
      obtain rfl : i = k := by simpa using hi
      unfold wpOp
      simp only [h0, hwa, if_true]
      left
      exact Oper.wp_mono (fun a' w' h' => ⟨h'.1, mix_sound hs hQ l (i + 1) _ _ _ hl' hB' h'.2⟩) (hK w hw)
theorem region_mix {id : Nat} {a : Act} {w : World} {l : List Oper} (hm : P.follows .mixedOrders = true) (hB : Region.lexB .any l.toArray = true) (hQ : ∀ c a d v w, Q (.panic c) (a.put d v) w → Q (.panic c) a w)
    (h : wpMix P l.toArray Q l 0 (Array.replicate l.length false) a w) : (Code.region id l.toArray true).wp P Q a w := by
  simp only [Region.lexB, Bool.and_eq_true] at hB
  refine wp_region_any hm ?_
  have h2 := mix_sound hB.1 hQ l 0 (Array.replicate l.length false) a w (by simp) (by simpa using hB.2) h
  have h3 := (h2.world ((Below.refl _ _).drew : Ext w w.drew)).any
  simpa using h3
section
variable {o : Oper} {rest : List Oper} {k : Nat} {listed : Array Bool} {a : Act} {W : World}
theorem mix_nil (h : ∀ w, Ext W w → Q .normal a w) : wpMix P ops Q [] k listed a W := h
theorem mix_skip (hw : Region.wanted o (yielded ops a.tmps) = false) (hn : wpMix P ops Q rest (k + 1) (listed.setIfInBounds k true) (a.put o.dst undef) W) : wpMix P ops Q (o :: rest) k listed a W :=
  .inl ⟨undef, .inr ⟨hw, rfl⟩, hn⟩
theorem mix_skip_t {j d : Nat} {v : Value} (hg : o.guard = some (j, true)) (hd : (ops[j]?).bind (·.dst) = some d) (hv : a.tmps.toList[d]? = some v) (hb : v = .bool false) (hn : wpMix P ops Q rest (k + 1) (listed.setIfInBounds k true) (a.put o.dst undef) W) : wpMix P ops Q (o :: rest) k listed a W :=
  mix_skip (by simp [Region.wanted, hg, yields_bool hd hv hb]) hn
theorem mix_skip_f {j d : Nat} {v : Value} (hg : o.guard = some (j, false)) (hd : (ops[j]?).bind (·.dst) = some d) (hv : a.tmps.toList[d]? = some v) (hb : v = .bool true) (hn : wpMix P ops Q rest (k + 1) (listed.setIfInBounds k true) (a.put o.dst undef) W) : wpMix P ops Q (o :: rest) k listed a W :=
  mix_skip (by simp [Region.wanted, hg, yields_bool hd hv hb]) hn
theorem mix_skip_u {j d : Nat} {v : Value} {b : Bool} (hg : o.guard = some (j, b)) (hd : (ops[j]?).bind (·.dst) = some d) (hv : a.tmps.toList[d]? = some v) (hb : v = undef) (hn : wpMix P ops Q rest (k + 1) (listed.setIfInBounds k true) (a.put o.dst undef) W) : wpMix P ops Q (o :: rest) k listed a W :=
  mix_skip (by simp [Region.wanted, hg, yields_undef hd hv hb]) hn
theorem mix_take {v : Value} (hw : Region.wanted o (yielded ops a.tmps) = true) (h : ∀ w, Ext W w → ∀ R : Value → Prop, R v → qUp P w w R ((execOp a.eval o).run P w))
    (hn : wpMix P ops Q rest (k + 1) (listed.setIfInBounds k true) (a.put o.dst v) W) : wpMix P ops Q (o :: rest) k listed a W :=
  .inl ⟨v, .inl ⟨hw, fun w hw => qUp_quiet (h w hw)⟩, hn⟩
theorem mix_alone (hr : Region.ready .any ops listed = [k]) (hw : Region.wanted o (yielded ops a.tmps) = true)
    (h : ∀ w, Ext W w → ∀ K : Act → World → Prop, (∀ a' w', Ext w w' → wpMix P ops Q rest (k + 1) (listed.setIfInBounds k true) a' w' → K a' w') → o.wp P a w K Q) : wpMix P ops Q (o :: rest) k listed a W :=
  .inr ⟨hr, hw, fun w hw => h w hw _ fun _ _ h1 h2 => ⟨h1, h2⟩⟩
end
theorem mcall {f : FuncId} {args : Array Value} {w : World} {R : Value → Prop} {v : Value} (h : Calls P f args w fun e w' => e = .returned v ∧ Ext w w') (hR : R v) : Calls P f args w (qPost w R) :=
  h.mono fun _ _ ⟨he, hx⟩ => ⟨⟨v, he, hR⟩, hx⟩
theorem mcall_same {f : FuncId} {args : Array Value} {w : World} {R : Value → Prop} {v : Value} (h : Calls P f args w fun e w' => e = .returned v ∧ w = w') (hR : R v) : Calls P f args w (qPost w R) :=
  h.mono fun _ _ ⟨he, hx⟩ => ⟨⟨v, he, hR⟩, hx ▸ Below.refl _ _⟩
end
end Go.Proofs.Ytinnohljknmolaa
namespace Go.Proofs.Ytinnohljknmolaa
open Go Go.RowKit Go.Proofs
set_option maxRecDepth 100000
def insP (a l b m : Int) : Bool := rightB a l && rightB b m && decide (m ≤ l) && (a - a % szI m == b)
set_option maxHeartbeats 1000000 in
theorem inside_any (a l b m : Int) (w : World) :
    Calls Try.prog 84 #[.agg #[.int .i64 a, .int .i64 l], .agg #[.int .i64 b, .int .i64 m]] w fun e w' => e = .returned (.bool (insP a l b m)) ∧ Ext w w' := by
  cases hA : (rightB a l && rightB b m)
  case false =>
    have hs : insP a l b m = false := by simp [insP, hA]
    rw [hs]
    have hv := Lib.hid hA
    clear hA hs
    go_enter Try.func84, Try.ntmps84
    go_wp2_with fail
    refine region_mix (by kernel_rfl) (by kernel_rfl) (fun _ _ d _ _ h => by cases d <;> exact h) ?_
    repeat (first | ((first | refine mix_skip_t rfl rfl rfl (by with_reducible rfl) ?_ | refine mix_skip_f rfl rfl rfl (by with_reducible rfl) ?_ | refine mix_skip_u rfl rfl rfl (by with_reducible rfl) ?_); simp only [Act.put, List.setIfInBounds_toArray, List.set_cons_zero, List.set_cons_succ]) | (apply mix_take; (first | exact want_0 rfl | exact want_b rfl rfl rfl (by with_reducible rfl)); intro wq hwq R hR; ((have hcc := (bcell hwq).1; (try simp only [World.size_alloc, World.size_setCell, World.size_drew, World.heap_drewN] at hcc)); go_simp; first | exact hR | (fail)); simp only [Act.put, List.setIfInBounds_toArray, List.set_cons_zero, List.set_cons_succ]))
    refine mix_alone (by kernel_rfl) (by first | exact want_0 rfl | exact want_b rfl rfl rfl (by with_reducible rfl)) (fun w1 hw1 K hK => ?_)
    obtain ⟨hcw1, hfw1⟩ := bcell hw1
    have hzw1 := bsize hw1
    (try simp only [World.size_alloc, World.size_setCell, World.size_drew, World.heap_drewN] at hcw1 hfw1 hzw1)
    (try have l0w1 : w.heap.size ≤ w1.heap.size := by omega)
    (try have l1w1 : w.heap.size < w1.heap.size := by omega)
    (try have l2w1 : w.heap.size + 1 < w1.heap.size := by omega)
    go_simp
    refine hK _ _ (Bel.bel (B := _) ?_) ?_
    · (repeat (first | with_reducible assumption | with_reducible exact Bel.refl _ | with_reducible refine Bel.alloc ?_ _ | with_reducible refine Bel.drewN ?_ _ | with_reducible refine Bel.drew ?_ | (with_reducible refine Bel.setCell0 ?_ ?_ _; rotate_left; (first | omega | (simp; done) | (simp; omega))) | (with_reducible refine Bel.setCell ?_ (p := _) ?_ _; rotate_left; (first | (simp; done) | omega | (simp; omega))) | refine Bel.call ?_ (by assumption) | (refine EX.bel ?_ (by assumption) ?_; rotate_left; (first | omega | (simp; omega)))))
    clear hK K
    repeat (first | ((first | refine mix_skip_t rfl rfl rfl (by with_reducible rfl) ?_ | refine mix_skip_f rfl rfl rfl (by with_reducible rfl) ?_ | refine mix_skip_u rfl rfl rfl (by with_reducible rfl) ?_); simp only [Act.put, List.setIfInBounds_toArray, List.set_cons_zero, List.set_cons_succ]) | (apply mix_take; (first | exact want_0 rfl | exact want_b rfl rfl rfl (by with_reducible rfl)); intro wq hwq R hR; ((have hcc := (bcell hwq).1; (try simp only [World.size_alloc, World.size_setCell, World.size_drew, World.heap_drewN] at hcc)); go_simp; first | exact hR | ((go_at_call 29; refine mcall (right2 a l b m _ hv.out ?_ ?_ ?_ ?_) hR; go_simp; go_simp; go_simp; go_simp))); simp only [Act.put, List.setIfInBounds_toArray, List.set_cons_zero, List.set_cons_succ]))
    refine mix_nil ?_
    intro w2 hw2
    obtain ⟨hcw2, hfw2⟩ := bcell hw2
    have hzw2 := bsize hw2
    (try simp only [World.size_alloc, World.size_setCell, World.size_drew, World.heap_drewN] at hcw2 hfw2 hzw2)
    go_wp2_with fail
    go_ret
    refine ⟨rfl, Bel.bel (B := _) ?_⟩
    (repeat (first | with_reducible assumption | with_reducible exact Bel.refl _ | with_reducible refine Bel.alloc ?_ _ | with_reducible refine Bel.drewN ?_ _ | with_reducible refine Bel.drew ?_ | (with_reducible refine Bel.setCell0 ?_ ?_ _; rotate_left; (first | omega | (simp; done) | (simp; omega))) | (with_reducible refine Bel.setCell ?_ (p := _) ?_ _; rotate_left; (first | (simp; done) | omega | (simp; omega))) | refine Bel.call ?_ (by assumption) | (refine EX.bel ?_ (by assumption) ?_; rotate_left; (first | omega | (simp; omega)))))
  case true =>
    have hA' := hA
    simp only [Bool.and_eq_true] at hA'
    obtain ⟨g1, g2, g3, g4, -⟩ := right_bd hA'.1
    obtain ⟨k1, k2, k3, k4, -⟩ := right_bd hA'.2
    obtain ⟨z1, z2⟩ := msk_bd m k1
    have hv := Lib.hid hA
    by_cases hm : m ≤ l
    · have hs : insP a l b m = (a - a % szI m == b) := by simp [insP, hA, hm]
      rw [hs]
      have han := andnot_msk a m g3 g4 k1
      have hmI : decide (m ≤ l) = true := by simp [hm]
      clear hA hA' hs hm
      cases hE : (a - a % szI m == b)
      all_goals
        go_enter Try.func84, Try.ntmps84
        go_wp2_with fail
        refine region_mix (by kernel_rfl) (by kernel_rfl) (fun _ _ d _ _ h => by cases d <;> exact h) ?_
        repeat (first | ((first | refine mix_skip_t rfl rfl rfl (by with_reducible rfl) ?_ | refine mix_skip_f rfl rfl rfl (by with_reducible rfl) ?_ | refine mix_skip_u rfl rfl rfl (by with_reducible rfl) ?_); simp only [Act.put, List.setIfInBounds_toArray, List.set_cons_zero, List.set_cons_succ]) | (apply mix_take; (first | exact want_0 rfl | exact want_b rfl rfl rfl (by with_reducible rfl)); intro wq hwq R hR; ((have hcc := (bcell hwq).1; (try simp only [World.size_alloc, World.size_setCell, World.size_drew, World.heap_drewN] at hcc)); go_simp; first | exact hR | (fail)); simp only [Act.put, List.setIfInBounds_toArray, List.set_cons_zero, List.set_cons_succ]))
        refine mix_alone (by kernel_rfl) (by first | exact want_0 rfl | exact want_b rfl rfl rfl (by with_reducible rfl)) (fun w1 hw1 K hK => ?_)
        obtain ⟨hcw1, hfw1⟩ := bcell hw1
        have hzw1 := bsize hw1
        (try simp only [World.size_alloc, World.size_setCell, World.size_drew, World.heap_drewN] at hcw1 hfw1 hzw1)
        (try have l0w1 : w.heap.size ≤ w1.heap.size := by omega)
        (try have l1w1 : w.heap.size < w1.heap.size := by omega)
        (try have l2w1 : w.heap.size + 1 < w1.heap.size := by omega)
        go_simp
        refine hK _ _ (Bel.bel (B := _) ?_) ?_
        · (repeat (first | with_reducible assumption | with_reducible exact Bel.refl _ | with_reducible refine Bel.alloc ?_ _ | with_reducible refine Bel.drewN ?_ _ | with_reducible refine Bel.drew ?_ | (with_reducible refine Bel.setCell0 ?_ ?_ _; rotate_left; (first | omega | (simp; done) | (simp; omega))) | (with_reducible refine Bel.setCell ?_ (p := _) ?_ _; rotate_left; (first | (simp; done) | omega | (simp; omega))) | refine Bel.call ?_ (by assumption) | (refine EX.bel ?_ (by assumption) ?_; rotate_left; (first | omega | (simp; omega)))))
        clear hK K
        repeat (first | ((first | refine mix_skip_t rfl rfl rfl (by with_reducible rfl) ?_ | refine mix_skip_f rfl rfl rfl (by with_reducible rfl) ?_ | refine mix_skip_u rfl rfl rfl (by with_reducible rfl) ?_); simp only [Act.put, List.setIfInBounds_toArray, List.set_cons_zero, List.set_cons_succ]) | (apply mix_take; (first | exact want_0 rfl | exact want_b rfl rfl rfl (by with_reducible rfl)); intro wq hwq R hR; ((have hcc := (bcell hwq).1; (try simp only [World.size_alloc, World.size_setCell, World.size_drew, World.heap_drewN] at hcc)); go_simp; first | exact hR | (first | (go_at_call 29; refine mcall (right2 a l b m _ hv.out ?_ ?_ ?_ ?_) hR; go_simp; go_simp; go_simp; go_simp) | (go_at_call 30; exact mcall_same (mask_any _ _ k1 k2) hR))); simp only [Act.put, List.setIfInBounds_toArray, List.set_cons_zero, List.set_cons_succ]))
        refine mix_nil ?_
        intro w2 hw2
        obtain ⟨hcw2, hfw2⟩ := bcell hw2
        have hzw2 := bsize hw2
        (try simp only [World.size_alloc, World.size_setCell, World.size_drew, World.heap_drewN] at hcw2 hfw2 hzw2)
        go_wp2_with fail
        go_ret
        refine ⟨rfl, Bel.bel (B := _) ?_⟩
        (repeat (first | with_reducible assumption | with_reducible exact Bel.refl _ | with_reducible refine Bel.alloc ?_ _ | with_reducible refine Bel.drewN ?_ _ | with_reducible refine Bel.drew ?_ | (with_reducible refine Bel.setCell0 ?_ ?_ _; rotate_left; (first | omega | (simp; done) | (simp; omega))) | (with_reducible refine Bel.setCell ?_ (p := _) ?_ _; rotate_left; (first | (simp; done) | omega | (simp; omega))) | refine Bel.call ?_ (by assumption) | (refine EX.bel ?_ (by assumption) ?_; rotate_left; (first | omega | (simp; omega)))))
    · have hs : insP a l b m = false := by simp [insP, hA, hm]
      rw [hs]
      have hmI : decide (m ≤ l) = false := by simp [hm]
      clear hA hA' hs hm
      go_enter Try.func84, Try.ntmps84
      go_wp2_with fail
      refine region_mix (by kernel_rfl) (by kernel_rfl) (fun _ _ d _ _ h => by cases d <;> exact h) ?_
      repeat (first | ((first | refine mix_skip_t rfl rfl rfl (by with_reducible rfl) ?_ | refine mix_skip_f rfl rfl rfl (by with_reducible rfl) ?_ | refine mix_skip_u rfl rfl rfl (by with_reducible rfl) ?_); simp only [Act.put, List.setIfInBounds_toArray, List.set_cons_zero, List.set_cons_succ]) | (apply mix_take; (first | exact want_0 rfl | exact want_b rfl rfl rfl (by with_reducible rfl)); intro wq hwq R hR; ((have hcc := (bcell hwq).1; (try simp only [World.size_alloc, World.size_setCell, World.size_drew, World.heap_drewN] at hcc)); go_simp; first | exact hR | (fail)); simp only [Act.put, List.setIfInBounds_toArray, List.set_cons_zero, List.set_cons_succ]))
      refine mix_alone (by kernel_rfl) (by first | exact want_0 rfl | exact want_b rfl rfl rfl (by with_reducible rfl)) (fun w1 hw1 K hK => ?_)
      obtain ⟨hcw1, hfw1⟩ := bcell hw1
      have hzw1 := bsize hw1
      (try simp only [World.size_alloc, World.size_setCell, World.size_drew, World.heap_drewN] at hcw1 hfw1 hzw1)
      (try have l0w1 : w.heap.size ≤ w1.heap.size := by omega)
      (try have l1w1 : w.heap.size < w1.heap.size := by omega)
      (try have l2w1 : w.heap.size + 1 < w1.heap.size := by omega)
      go_simp
      refine hK _ _ (Bel.bel (B := _) ?_) ?_
      · (repeat (first | with_reducible assumption | with_reducible exact Bel.refl _ | with_reducible refine Bel.alloc ?_ _ | with_reducible refine Bel.drewN ?_ _ | with_reducible refine Bel.drew ?_ | (with_reducible refine Bel.setCell0 ?_ ?_ _; rotate_left; (first | omega | (simp; done) | (simp; omega))) | (with_reducible refine Bel.setCell ?_ (p := _) ?_ _; rotate_left; (first | (simp; done) | omega | (simp; omega))) | refine Bel.call ?_ (by assumption) | (refine EX.bel ?_ (by assumption) ?_; rotate_left; (first | omega | (simp; omega)))))
      clear hK K
      repeat (first | ((first | refine mix_skip_t rfl rfl rfl (by with_reducible rfl) ?_ | refine mix_skip_f rfl rfl rfl (by with_reducible rfl) ?_ | refine mix_skip_u rfl rfl rfl (by with_reducible rfl) ?_); simp only [Act.put, List.setIfInBounds_toArray, List.set_cons_zero, List.set_cons_succ]) | (apply mix_take; (first | exact want_0 rfl | exact want_b rfl rfl rfl (by with_reducible rfl)); intro wq hwq R hR; ((have hcc := (bcell hwq).1; (try simp only [World.size_alloc, World.size_setCell, World.size_drew, World.heap_drewN] at hcc)); go_simp; first | exact hR | ((go_at_call 29; refine mcall (right2 a l b m _ hv.out ?_ ?_ ?_ ?_) hR; go_simp; go_simp; go_simp; go_simp))); simp only [Act.put, List.setIfInBounds_toArray, List.set_cons_zero, List.set_cons_succ]))
      refine mix_nil ?_
      intro w2 hw2
      obtain ⟨hcw2, hfw2⟩ := bcell hw2
      have hzw2 := bsize hw2
      (try simp only [World.size_alloc, World.size_setCell, World.size_drew, World.heap_drewN] at hcw2 hfw2 hzw2)
      go_wp2_with fail
      go_ret
      refine ⟨rfl, Bel.bel (B := _) ?_⟩
      (repeat (first | with_reducible assumption | with_reducible exact Bel.refl _ | with_reducible refine Bel.alloc ?_ _ | with_reducible refine Bel.drewN ?_ _ | with_reducible refine Bel.drew ?_ | (with_reducible refine Bel.setCell0 ?_ ?_ _; rotate_left; (first | omega | (simp; done) | (simp; omega))) | (with_reducible refine Bel.setCell ?_ (p := _) ?_ _; rotate_left; (first | (simp; done) | omega | (simp; omega))) | refine Bel.call ?_ (by assumption) | (refine EX.bel ?_ (by assumption) ?_; rotate_left; (first | omega | (simp; omega)))))
end Go.Proofs.Ytinnohljknmolaa
namespace Go.Proofs.Ytinnohljknmolaa
open Go Go.RowKit Go.Proofs
set_option maxRecDepth 100000
def holdP (a l x : Int) : Bool := rightB a l && (decide (0 ≤ x) && (decide (x ≤ 65535) && (x - x % szI l == a)))
set_option maxHeartbeats 1000000 in
theorem holds_any (a l x : Int) (w : World) :
    Calls Try.prog 14 #[.agg #[.int .i64 a, .int .i64 l], .int .i64 x] w fun e w' => e = .returned (.bool (holdP a l x)) ∧ Ext w w' := by
  cases hA : rightB a l
  case false =>
    have hs : holdP a l x = false := by simp [holdP, hA]
    rw [hs]
    have hv := Lib.hid hA
    clear hA hs
    go_enter Try.func14, Try.ntmps14
    go_wp2_with fail
    refine region_mix (by kernel_rfl) (by kernel_rfl) (fun _ _ d _ _ h => by cases d <;> exact h) ?_
    repeat (first | ((first | refine mix_skip_t rfl rfl rfl (by with_reducible rfl) ?_ | refine mix_skip_f rfl rfl rfl (by with_reducible rfl) ?_ | refine mix_skip_u rfl rfl rfl (by with_reducible rfl) ?_); simp only [Act.put, List.setIfInBounds_toArray, List.set_cons_zero, List.set_cons_succ]) | (apply mix_take; (first | exact want_0 rfl | exact want_b rfl rfl rfl (by with_reducible rfl)); intro wq hwq R hR; ((have hcc := (bcell hwq).1; (try simp only [World.size_alloc, World.size_setCell, World.size_drew, World.heap_drewN] at hcc)); go_simp; first | exact hR | (fail)); simp only [Act.put, List.setIfInBounds_toArray, List.set_cons_zero, List.set_cons_succ]))
    refine mix_alone (by kernel_rfl) (by first | exact want_0 rfl | exact want_b rfl rfl rfl (by with_reducible rfl)) (fun w1 hw1 K hK => ?_)
    obtain ⟨hcw1, hfw1⟩ := bcell hw1
    have hzw1 := bsize hw1
    (try simp only [World.size_alloc, World.size_setCell, World.size_drew, World.heap_drewN] at hcw1 hfw1 hzw1)
    (try have l0w1 : w.heap.size ≤ w1.heap.size := by omega)
    (try have l1w1 : w.heap.size < w1.heap.size := by omega)
    (try have l2w1 : w.heap.size + 1 < w1.heap.size := by omega)
    go_simp
    refine hK _ _ (Bel.bel (B := _) ?_) ?_
    · (repeat (first | with_reducible assumption | with_reducible exact Bel.refl _ | with_reducible refine Bel.alloc ?_ _ | with_reducible refine Bel.drewN ?_ _ | with_reducible refine Bel.drew ?_ | (with_reducible refine Bel.setCell0 ?_ ?_ _; rotate_left; (first | omega | (simp; done) | (simp; omega))) | (with_reducible refine Bel.setCell ?_ (p := _) ?_ _; rotate_left; (first | (simp; done) | omega | (simp; omega))) | refine Bel.call ?_ (by assumption) | (refine EX.bel ?_ (by assumption) ?_; rotate_left; (first | omega | (simp; omega)))))
    clear hK K
    repeat (first | ((first | refine mix_skip_t rfl rfl rfl (by with_reducible rfl) ?_ | refine mix_skip_f rfl rfl rfl (by with_reducible rfl) ?_ | refine mix_skip_u rfl rfl rfl (by with_reducible rfl) ?_); simp only [Act.put, List.setIfInBounds_toArray, List.set_cons_zero, List.set_cons_succ]) | (apply mix_take; (first | exact want_0 rfl | exact want_b rfl rfl rfl (by with_reducible rfl)); intro wq hwq R hR; ((have hcc := (bcell hwq).1; (try simp only [World.size_alloc, World.size_setCell, World.size_drew, World.heap_drewN] at hcc)); go_simp; first | exact hR | ((go_at_call 29; refine mcall (right1 a l _ hv.out ?_ ?_) hR; go_simp; go_simp))); simp only [Act.put, List.setIfInBounds_toArray, List.set_cons_zero, List.set_cons_succ]))
    refine mix_nil ?_
    intro w2 hw2
    obtain ⟨hcw2, hfw2⟩ := bcell hw2
    have hzw2 := bsize hw2
    (try simp only [World.size_alloc, World.size_setCell, World.size_drew, World.heap_drewN] at hcw2 hfw2 hzw2)
    go_wp2_with fail
    go_ret
    refine ⟨rfl, Bel.bel (B := _) ?_⟩
    (repeat (first | with_reducible assumption | with_reducible exact Bel.refl _ | with_reducible refine Bel.alloc ?_ _ | with_reducible refine Bel.drewN ?_ _ | with_reducible refine Bel.drew ?_ | (with_reducible refine Bel.setCell0 ?_ ?_ _; rotate_left; (first | omega | (simp; done) | (simp; omega))) | (with_reducible refine Bel.setCell ?_ (p := _) ?_ _; rotate_left; (first | (simp; done) | omega | (simp; omega))) | refine Bel.call ?_ (by assumption) | (refine EX.bel ?_ (by assumption) ?_; rotate_left; (first | omega | (simp; omega)))))
  case true =>
    obtain ⟨g1, g2, g3, g4, -⟩ := right_bd hA
    obtain ⟨z1, z2⟩ := msk_bd l g1
    have hv := Lib.hid hA
    by_cases h0 : 0 ≤ x
    · by_cases h1 : x ≤ 65535
      · have hs : holdP a l x = (x - x % szI l == a) := by simp [holdP, hA, h0, h1]
        rw [hs]
        have han := andnot_msk x l h0 h1 g1
        have h0I : decide (0 ≤ x) = true := by simp [h0]
        have h1I : decide (x ≤ 65535) = true := by simp [h1]
        clear hA hs
        cases hE : (x - x % szI l == a)
        all_goals
          go_enter Try.func14, Try.ntmps14
          go_wp2_with fail
          refine region_mix (by kernel_rfl) (by kernel_rfl) (fun _ _ d _ _ h => by cases d <;> exact h) ?_
          repeat (first | ((first | refine mix_skip_t rfl rfl rfl (by with_reducible rfl) ?_ | refine mix_skip_f rfl rfl rfl (by with_reducible rfl) ?_ | refine mix_skip_u rfl rfl rfl (by with_reducible rfl) ?_); simp only [Act.put, List.setIfInBounds_toArray, List.set_cons_zero, List.set_cons_succ]) | (apply mix_take; (first | exact want_0 rfl | exact want_b rfl rfl rfl (by with_reducible rfl)); intro wq hwq R hR; ((have hcc := (bcell hwq).1; (try simp only [World.size_alloc, World.size_setCell, World.size_drew, World.heap_drewN] at hcc)); go_simp; first | exact hR | (fail)); simp only [Act.put, List.setIfInBounds_toArray, List.set_cons_zero, List.set_cons_succ]))
          refine mix_alone (by kernel_rfl) (by first | exact want_0 rfl | exact want_b rfl rfl rfl (by with_reducible rfl)) (fun w1 hw1 K hK => ?_)
          obtain ⟨hcw1, hfw1⟩ := bcell hw1
          have hzw1 := bsize hw1
          (try simp only [World.size_alloc, World.size_setCell, World.size_drew, World.heap_drewN] at hcw1 hfw1 hzw1)
          (try have l0w1 : w.heap.size ≤ w1.heap.size := by omega)
          (try have l1w1 : w.heap.size < w1.heap.size := by omega)
          (try have l2w1 : w.heap.size + 1 < w1.heap.size := by omega)
          go_simp
          refine hK _ _ (Bel.bel (B := _) ?_) ?_
          · (repeat (first | with_reducible assumption | with_reducible exact Bel.refl _ | with_reducible refine Bel.alloc ?_ _ | with_reducible refine Bel.drewN ?_ _ | with_reducible refine Bel.drew ?_ | (with_reducible refine Bel.setCell0 ?_ ?_ _; rotate_left; (first | omega | (simp; done) | (simp; omega))) | (with_reducible refine Bel.setCell ?_ (p := _) ?_ _; rotate_left; (first | (simp; done) | omega | (simp; omega))) | refine Bel.call ?_ (by assumption) | (refine EX.bel ?_ (by assumption) ?_; rotate_left; (first | omega | (simp; omega)))))
          clear hK K
          repeat (first | ((first | refine mix_skip_t rfl rfl rfl (by with_reducible rfl) ?_ | refine mix_skip_f rfl rfl rfl (by with_reducible rfl) ?_ | refine mix_skip_u rfl rfl rfl (by with_reducible rfl) ?_); simp only [Act.put, List.setIfInBounds_toArray, List.set_cons_zero, List.set_cons_succ]) | (apply mix_take; (first | exact want_0 rfl | exact want_b rfl rfl rfl (by with_reducible rfl)); intro wq hwq R hR; ((have hcc := (bcell hwq).1; (try simp only [World.size_alloc, World.size_setCell, World.size_drew, World.heap_drewN] at hcc)); go_simp; first | exact hR | (first | (go_at_call 29; refine mcall (right1 a l _ hv.out ?_ ?_) hR; go_simp; go_simp) | (go_at_call 30; exact mcall_same (mask_any _ _ g1 g2) hR))); simp only [Act.put, List.setIfInBounds_toArray, List.set_cons_zero, List.set_cons_succ]))
          refine mix_nil ?_
          intro w2 hw2
          obtain ⟨hcw2, hfw2⟩ := bcell hw2
          have hzw2 := bsize hw2
          (try simp only [World.size_alloc, World.size_setCell, World.size_drew, World.heap_drewN] at hcw2 hfw2 hzw2)
          go_wp2_with fail
          go_ret
          refine ⟨rfl, Bel.bel (B := _) ?_⟩
          (repeat (first | with_reducible assumption | with_reducible exact Bel.refl _ | with_reducible refine Bel.alloc ?_ _ | with_reducible refine Bel.drewN ?_ _ | with_reducible refine Bel.drew ?_ | (with_reducible refine Bel.setCell0 ?_ ?_ _; rotate_left; (first | omega | (simp; done) | (simp; omega))) | (with_reducible refine Bel.setCell ?_ (p := _) ?_ _; rotate_left; (first | (simp; done) | omega | (simp; omega))) | refine Bel.call ?_ (by assumption) | (refine EX.bel ?_ (by assumption) ?_; rotate_left; (first | omega | (simp; omega)))))
      · have hs : holdP a l x = false := by simp [holdP, h1]
        rw [hs]
        have h0I : decide (0 ≤ x) = true := by simp [h0]
        have h1I : decide (x ≤ 65535) = false := by simp [h1]
        clear hA hs h1
        go_enter Try.func14, Try.ntmps14
        go_wp2_with fail
        refine region_mix (by kernel_rfl) (by kernel_rfl) (fun _ _ d _ _ h => by cases d <;> exact h) ?_
        repeat (first | ((first | refine mix_skip_t rfl rfl rfl (by with_reducible rfl) ?_ | refine mix_skip_f rfl rfl rfl (by with_reducible rfl) ?_ | refine mix_skip_u rfl rfl rfl (by with_reducible rfl) ?_); simp only [Act.put, List.setIfInBounds_toArray, List.set_cons_zero, List.set_cons_succ]) | (apply mix_take; (first | exact want_0 rfl | exact want_b rfl rfl rfl (by with_reducible rfl)); intro wq hwq R hR; ((have hcc := (bcell hwq).1; (try simp only [World.size_alloc, World.size_setCell, World.size_drew, World.heap_drewN] at hcc)); go_simp; first | exact hR | (fail)); simp only [Act.put, List.setIfInBounds_toArray, List.set_cons_zero, List.set_cons_succ]))
        refine mix_alone (by kernel_rfl) (by first | exact want_0 rfl | exact want_b rfl rfl rfl (by with_reducible rfl)) (fun w1 hw1 K hK => ?_)
        obtain ⟨hcw1, hfw1⟩ := bcell hw1
        have hzw1 := bsize hw1
        (try simp only [World.size_alloc, World.size_setCell, World.size_drew, World.heap_drewN] at hcw1 hfw1 hzw1)
        (try have l0w1 : w.heap.size ≤ w1.heap.size := by omega)
        (try have l1w1 : w.heap.size < w1.heap.size := by omega)
        (try have l2w1 : w.heap.size + 1 < w1.heap.size := by omega)
        go_simp
        refine hK _ _ (Bel.bel (B := _) ?_) ?_
        · (repeat (first | with_reducible assumption | with_reducible exact Bel.refl _ | with_reducible refine Bel.alloc ?_ _ | with_reducible refine Bel.drewN ?_ _ | with_reducible refine Bel.drew ?_ | (with_reducible refine Bel.setCell0 ?_ ?_ _; rotate_left; (first | omega | (simp; done) | (simp; omega))) | (with_reducible refine Bel.setCell ?_ (p := _) ?_ _; rotate_left; (first | (simp; done) | omega | (simp; omega))) | refine Bel.call ?_ (by assumption) | (refine EX.bel ?_ (by assumption) ?_; rotate_left; (first | omega | (simp; omega)))))
        clear hK K
        repeat (first | ((first | refine mix_skip_t rfl rfl rfl (by with_reducible rfl) ?_ | refine mix_skip_f rfl rfl rfl (by with_reducible rfl) ?_ | refine mix_skip_u rfl rfl rfl (by with_reducible rfl) ?_); simp only [Act.put, List.setIfInBounds_toArray, List.set_cons_zero, List.set_cons_succ]) | (apply mix_take; (first | exact want_0 rfl | exact want_b rfl rfl rfl (by with_reducible rfl)); intro wq hwq R hR; ((have hcc := (bcell hwq).1; (try simp only [World.size_alloc, World.size_setCell, World.size_drew, World.heap_drewN] at hcc)); go_simp; first | exact hR | ((go_at_call 29; refine mcall (right1 a l _ hv.out ?_ ?_) hR; go_simp; go_simp))); simp only [Act.put, List.setIfInBounds_toArray, List.set_cons_zero, List.set_cons_succ]))
        refine mix_nil ?_
        intro w2 hw2
        obtain ⟨hcw2, hfw2⟩ := bcell hw2
        have hzw2 := bsize hw2
        (try simp only [World.size_alloc, World.size_setCell, World.size_drew, World.heap_drewN] at hcw2 hfw2 hzw2)
        go_wp2_with fail
        go_ret
        refine ⟨rfl, Bel.bel (B := _) ?_⟩
        (repeat (first | with_reducible assumption | with_reducible exact Bel.refl _ | with_reducible refine Bel.alloc ?_ _ | with_reducible refine Bel.drewN ?_ _ | with_reducible refine Bel.drew ?_ | (with_reducible refine Bel.setCell0 ?_ ?_ _; rotate_left; (first | omega | (simp; done) | (simp; omega))) | (with_reducible refine Bel.setCell ?_ (p := _) ?_ _; rotate_left; (first | (simp; done) | omega | (simp; omega))) | refine Bel.call ?_ (by assumption) | (refine EX.bel ?_ (by assumption) ?_; rotate_left; (first | omega | (simp; omega)))))
    · have hs : holdP a l x = false := by simp [holdP, h0]
      rw [hs]
      have h0I : decide (0 ≤ x) = false := by simp [h0]
      clear hA hs h0
      go_enter Try.func14, Try.ntmps14
      go_wp2_with fail
      refine region_mix (by kernel_rfl) (by kernel_rfl) (fun _ _ d _ _ h => by cases d <;> exact h) ?_
      repeat (first | ((first | refine mix_skip_t rfl rfl rfl (by with_reducible rfl) ?_ | refine mix_skip_f rfl rfl rfl (by with_reducible rfl) ?_ | refine mix_skip_u rfl rfl rfl (by with_reducible rfl) ?_); simp only [Act.put, List.setIfInBounds_toArray, List.set_cons_zero, List.set_cons_succ]) | (apply mix_take; (first | exact want_0 rfl | exact want_b rfl rfl rfl (by with_reducible rfl)); intro wq hwq R hR; ((have hcc := (bcell hwq).1; (try simp only [World.size_alloc, World.size_setCell, World.size_drew, World.heap_drewN] at hcc)); go_simp; first | exact hR | (fail)); simp only [Act.put, List.setIfInBounds_toArray, List.set_cons_zero, List.set_cons_succ]))
      refine mix_alone (by kernel_rfl) (by first | exact want_0 rfl | exact want_b rfl rfl rfl (by with_reducible rfl)) (fun w1 hw1 K hK => ?_)
      obtain ⟨hcw1, hfw1⟩ := bcell hw1
      have hzw1 := bsize hw1
      (try simp only [World.size_alloc, World.size_setCell, World.size_drew, World.heap_drewN] at hcw1 hfw1 hzw1)
      (try have l0w1 : w.heap.size ≤ w1.heap.size := by omega)
      (try have l1w1 : w.heap.size < w1.heap.size := by omega)
      (try have l2w1 : w.heap.size + 1 < w1.heap.size := by omega)
      go_simp
      refine hK _ _ (Bel.bel (B := _) ?_) ?_
      · (repeat (first | with_reducible assumption | with_reducible exact Bel.refl _ | with_reducible refine Bel.alloc ?_ _ | with_reducible refine Bel.drewN ?_ _ | with_reducible refine Bel.drew ?_ | (with_reducible refine Bel.setCell0 ?_ ?_ _; rotate_left; (first | omega | (simp; done) | (simp; omega))) | (with_reducible refine Bel.setCell ?_ (p := _) ?_ _; rotate_left; (first | (simp; done) | omega | (simp; omega))) | refine Bel.call ?_ (by assumption) | (refine EX.bel ?_ (by assumption) ?_; rotate_left; (first | omega | (simp; omega)))))
      clear hK K
      repeat (first | ((first | refine mix_skip_t rfl rfl rfl (by with_reducible rfl) ?_ | refine mix_skip_f rfl rfl rfl (by with_reducible rfl) ?_ | refine mix_skip_u rfl rfl rfl (by with_reducible rfl) ?_); simp only [Act.put, List.setIfInBounds_toArray, List.set_cons_zero, List.set_cons_succ]) | (apply mix_take; (first | exact want_0 rfl | exact want_b rfl rfl rfl (by with_reducible rfl)); intro wq hwq R hR; ((have hcc := (bcell hwq).1; (try simp only [World.size_alloc, World.size_setCell, World.size_drew, World.heap_drewN] at hcc)); go_simp; first | exact hR | ((go_at_call 29; refine mcall (right1 a l _ hv.out ?_ ?_) hR; go_simp; go_simp))); simp only [Act.put, List.setIfInBounds_toArray, List.set_cons_zero, List.set_cons_succ]))
      refine mix_nil ?_
      intro w2 hw2
      obtain ⟨hcw2, hfw2⟩ := bcell hw2
      have hzw2 := bsize hw2
      (try simp only [World.size_alloc, World.size_setCell, World.size_drew, World.heap_drewN] at hcw2 hfw2 hzw2)
      go_wp2_with fail
      go_ret
      refine ⟨rfl, Bel.bel (B := _) ?_⟩
      (repeat (first | with_reducible assumption | with_reducible exact Bel.refl _ | with_reducible refine Bel.alloc ?_ _ | with_reducible refine Bel.drewN ?_ _ | with_reducible refine Bel.drew ?_ | (with_reducible refine Bel.setCell0 ?_ ?_ _; rotate_left; (first | omega | (simp; done) | (simp; omega))) | (with_reducible refine Bel.setCell ?_ (p := _) ?_ _; rotate_left; (first | (simp; done) | omega | (simp; omega))) | refine Bel.call ?_ (by assumption) | (refine EX.bel ?_ (by assumption) ?_; rotate_left; (first | omega | (simp; omega)))))
def meetP (a l b m : Int) : Bool := insP a l b m || insP b m a l
set_option maxHeartbeats 1000000 in
theorem meets_any (a l b m : Int) (w : World) :
    Calls Try.prog 92 #[.agg #[.int .i64 a, .int .i64 l], .agg #[.int .i64 b, .int .i64 m]] w fun e w' => e = .returned (.bool (meetP a l b m)) ∧ Ext w w' := by
  unfold meetP
  cases hA : insP a l b m
  case true =>
    have hc := inside_any a l b m
    rw [hA] at hc
    replace hc := Lib.hid hc
    clear hA
    go_enter Try.func92, Try.ntmps92
    go_wp2_with fail
    refine (hc.out _).mono ?_
    rintro e w1 ⟨rfl, hw1⟩
    obtain ⟨hcw1, hfw1⟩ := bcell hw1
    have hzw1 := bsize hw1
    (try simp only [World.size_alloc, World.size_setCell, World.size_drew, World.heap_drewN] at hcw1 hfw1 hzw1)
    go_wp2_with fail
    go_ret
    refine ⟨rfl, Bel.bel (B := _) ?_⟩
    (repeat (first | with_reducible assumption | with_reducible exact Bel.refl _ | with_reducible refine Bel.alloc ?_ _ | with_reducible refine Bel.drewN ?_ _ | with_reducible refine Bel.drew ?_ | (with_reducible refine Bel.setCell0 ?_ ?_ _; rotate_left; (first | omega | (simp; done) | (simp; omega))) | (with_reducible refine Bel.setCell ?_ (p := _) ?_ _; rotate_left; (first | (simp; done) | omega | (simp; omega))) | refine Bel.call ?_ (by assumption) | (refine EX.bel ?_ (by assumption) ?_; rotate_left; (first | omega | (simp; omega)))))
  case false =>
    have hc := inside_any a l b m
    rw [hA] at hc
    replace hc := Lib.hid hc
    clear hA
    obtain ⟨r, hr⟩ : ∃ r, r = insP b m a l := ⟨_, rfl⟩
    have hd := inside_any b m a l
    rw [← hr] at hd ⊢
    clear hr
    replace hd := Lib.hid hd
    go_enter Try.func92, Try.ntmps92
    go_wp2_with fail
    refine (hc.out _).mono ?_
    rintro e w1 ⟨rfl, hw1⟩
    obtain ⟨hcw1, hfw1⟩ := bcell hw1
    have hzw1 := bsize hw1
    (try simp only [World.size_alloc, World.size_setCell, World.size_drew, World.heap_drewN] at hcw1 hfw1 hzw1)
    go_wp2_with fail
    refine (hd.out _).mono ?_
    rintro e w2 ⟨rfl, hw2⟩
    obtain ⟨hcw2, hfw2⟩ := bcell hw2
    have hzw2 := bsize hw2
    (try simp only [World.size_alloc, World.size_setCell, World.size_drew, World.heap_drewN] at hcw2 hfw2 hzw2)
    go_wp2_with fail
    go_ret
    refine ⟨rfl, Bel.bel (B := _) ?_⟩
    (repeat (first | with_reducible assumption | with_reducible exact Bel.refl _ | with_reducible refine Bel.alloc ?_ _ | with_reducible refine Bel.drewN ?_ _ | with_reducible refine Bel.drew ?_ | (with_reducible refine Bel.setCell0 ?_ ?_ _; rotate_left; (first | omega | (simp; done) | (simp; omega))) | (with_reducible refine Bel.setCell ?_ (p := _) ?_ _; rotate_left; (first | (simp; done) | omega | (simp; omega))) | refine Bel.call ?_ (by assumption) | (refine EX.bel ?_ (by assumption) ?_; rotate_left; (first | omega | (simp; omega)))))
end Go.Proofs.Ytinnohljknmolaa
namespace Go.Proofs.Ytinnohljknmolaa
open Go Go.RowKit
theorem check_p (p : Pfx) : PSpec Try.prog 24 [.agg (encP p)] (.v (.int .i64 (chk p.at_ p.len))) := pspec_flat (fnok_of Try.func24 (by kernel_rfl) rfl) (by intro d hd; simp at hd; (repeat (first | (obtain rfl := hd; rfl) | (rcases hd with rfl | hd; · rfl)))) rfl rfl (fun w => check_any _ _ _)
theorem size_p (p : Pfx) : PSpec Try.prog 99 [.agg (encP p)] (.v (.int .i64 (sizeI p.at_ p.len))) := pspec_flat (fnok_of Try.func99 (by kernel_rfl) rfl) (by intro d hd; simp at hd; (repeat (first | (obtain rfl := hd; rfl) | (rcases hd with rfl | hd; · rfl)))) rfl rfl (fun w => size_any _ _ _)
theorem inside_p (p q : Pfx) : PSpec Try.prog 84 [.agg (encP p), .agg (encP q)] (.v (.bool (insP p.at_ p.len q.at_ q.len))) := pspec_flat (fnok_of Try.func84 (by kernel_rfl) rfl) (by intro d hd; simp at hd; (repeat (first | (obtain rfl := hd; rfl) | (rcases hd with rfl | hd; · rfl)))) rfl rfl (fun w => inside_any _ _ _ _ _)
theorem meets_p (p q : Pfx) : PSpec Try.prog 92 [.agg (encP p), .agg (encP q)] (.v (.bool (meetP p.at_ p.len q.at_ q.len))) := pspec_flat (fnok_of Try.func92 (by kernel_rfl) rfl) (by intro d hd; simp at hd; (repeat (first | (obtain rfl := hd; rfl) | (rcases hd with rfl | hd; · rfl)))) rfl rfl (fun w => meets_any _ _ _ _ _)
theorem rightR_p (p : Pfx) : PSpec Try.prog 26 [.agg (encP p)] (.v (.bool (rightB p.at_ p.len))) := pspec_flat (fnok_of Try.func26 (by kernel_rfl) rfl) (by intro d hd; simp at hd; (repeat (first | (obtain rfl := hd; rfl) | (rcases hd with rfl | hd; · rfl)))) rfl rfl (fun w => rightR_any _ _ _)
theorem last_p (p : Pfx) (h : rightB p.at_ p.len = true) : PSpec Try.prog 43 [.agg (encP p)] (.v (.int .i64 (lastI p.at_ p.len))) := pspec_flat (fnok_of Try.func43 (by kernel_rfl) rfl) (by intro d hd; simp at hd; (repeat (first | (obtain rfl := hd; rfl) | (rcases hd with rfl | hd; · rfl)))) rfl rfl (fun w => last_any _ _ _ h)
theorem holdsIt_p (p : Pfx) (x : Int) : PSpec Try.prog 28 [.agg (encP p), .v (.int .i64 x)] (.v (.bool (holdB p.at_ p.len x))) := pspec_flat (fnok_of Try.func28 (by kernel_rfl) rfl) (by intro d hd; simp at hd; (repeat (first | (obtain rfl := hd; rfl) | (rcases hd with rfl | hd; · rfl)))) rfl rfl (fun w => holdsIt_any _ _ _ _)
theorem insideOf_p (p q : Pfx) : PSpec Try.prog 59 [.agg (encP p), .agg (encP q)] (.v (.bool (insR p.at_ p.len q.at_ q.len))) := pspec_flat (fnok_of Try.func59 (by kernel_rfl) rfl) (by intro d hd; simp at hd; (repeat (first | (obtain rfl := hd; rfl) | (rcases hd with rfl | hd; · rfl)))) rfl rfl (fun w => insideOf_any _ _ _ _ _)
theorem meet_p (p q : Pfx) : PSpec Try.prog 39 [.agg (encP p), .agg (encP q)] (.v (.bool (meetB p.at_ p.len q.at_ q.len))) := pspec_flat (fnok_of Try.func39 (by kernel_rfl) rfl) (by intro d hd; simp at hd; (repeat (first | (obtain rfl := hd; rfl) | (rcases hd with rfl | hd; · rfl)))) rfl rfl (fun w => meet_any _ _ _ _ _)
end Go.Proofs.Ytinnohljknmolaa
namespace Go.Proofs.Ytinnohljknmolaa
open Go Go.RowKit Go.Proofs
def Pfx.meets (p q : Pfx) : Bool := meetP p.at_ p.len q.at_ q.len
def Pfx.right (p : Pfx) : Bool := rightB p.at_ p.len
def Pfx.v (p : Pfx) : Value := .agg #[.int .i64 p.at_, .int .i64 p.len]
theorem szI_half {l : Int} (h0 : 0 ≤ l) (h1 : l < 16) : szI l = 2 * szI (l + 1) := by
  unfold szI
  have : (16 - l).toNat = (16 - (l + 1)).toNat + 1 := by omega
  rw [this, Int.pow_succ]
  omega
theorem szI_dvd {l m : Int} (h0 : 0 ≤ m) (h1 : m ≤ l) (h2 : l ≤ 16) : ∃ k : Int, szI m = szI l * k ∧ 1 ≤ k := by
  refine ⟨2 ^ (l - m).toNat, ?_, ?_⟩
  · unfold szI
    rw [← Int.pow_add]
    congr 1
    omega
  · have h3 := Nat.one_le_two_pow (n := (l - m).toNat)
    have h4 : ((2 ^ (l - m).toNat : Nat) : Int) = (2 : Int) ^ (l - m).toNat := by simp
    omega
theorem right_fit {a l : Int} (h : rightB a l = true) : a + szI l ≤ 65536 := by
  obtain ⟨g1, g2, g3, g4, g5⟩ := right_bd h
  obtain ⟨k, hk, hk1⟩ := szI_dvd (Int.le_refl 0) g1 g2
  have h0 : szI 0 = 65536 := by decide
  rw [h0] at hk
  have hs := szI_bd g1
  have hd : szI l ∣ 65536 - a := by
    refine Int.dvd_sub ⟨k, hk⟩ (Int.dvd_of_emod_eq_zero g5)
  have := Int.le_of_dvd (by omega) hd
  omega
def insQ (p q : Pfx) : Bool := insP p.at_ p.len q.at_ q.len
/-- Behind a prefix's last address. -/
def Pfx.hi (p : Pfx) : Int := p.at_ + szI p.len
theorem Pfx.bd {p : Pfx} (h : p.right = true) : 0 ≤ p.len ∧ p.len ≤ 16 ∧ 0 ≤ p.at_ ∧ p.at_ ≤ 65535 ∧ p.at_ % szI p.len = 0 := right_bd h
theorem Pfx.hi_bd {p : Pfx} (h : p.right = true) : p.at_ < p.hi ∧ p.hi ≤ 65536 := by
  have h1 := right_fit h
  obtain ⟨g1, -⟩ := p.bd h
  have h2 := szI_bd g1
  unfold Pfx.hi; omega
/-- An address lies in an aligned block just if its block begins there. -/
theorem blk_iff {s a b : Int} (hs : 0 < s) (hb : b % s = 0) : a - a % s = b ↔ b ≤ a ∧ a < b + s := by
  have h1 := Int.emod_nonneg a (b := s) (by omega)
  have h2 := Int.emod_lt_of_pos a hs
  constructor
  · intro h; omega
  · intro ⟨h3, h4⟩
    have h5 : (a - b) % s = a % s := by rw [Int.sub_emod, hb, Int.sub_zero, Int.emod_emod]
    rw [Int.emod_eq_of_lt (by omega) (by omega)] at h5
    omega
theorem dvd_step {s x : Int} (hs : 0 < s) (hx : 0 < x) (hd : s ∣ x) : s ≤ x := Int.le_of_dvd hx hd
/-- Two right prefixes, the second no longer: they meet just if the first lies in the second. -/
theorem nest {p q : Pfx} (hp : p.right = true) (hq : q.right = true) (hl : q.len ≤ p.len) (h1 : p.at_ < q.hi) (h2 : q.at_ < p.hi) : q.at_ ≤ p.at_ ∧ p.hi ≤ q.hi := by
  obtain ⟨a1, a2, a3, a4, a5⟩ := p.bd hp
  obtain ⟨b1, b2, b3, b4, b5⟩ := q.bd hq
  obtain ⟨k, hk, hk1⟩ := szI_dvd b1 hl a2
  have s1 := szI_bd a1
  have s2 := szI_bd b1
  unfold Pfx.hi at *
  have dq : szI p.len ∣ q.at_ := Int.dvd_trans ⟨k, hk⟩ (Int.dvd_of_emod_eq_zero b5)
  have dp : szI p.len ∣ p.at_ := Int.dvd_of_emod_eq_zero a5
  have dm : szI p.len ∣ szI q.len := ⟨k, hk⟩
  refine ⟨?_, ?_⟩
  · rcases Int.lt_or_le p.at_ q.at_ with h | h
    · have := dvd_step (by omega) (show 0 < q.at_ - p.at_ by omega) (Int.dvd_sub dq dp)
      omega
    · exact h
  · have := dvd_step (by omega) (show 0 < q.at_ + szI q.len - p.at_ by omega) (Int.dvd_sub (Int.dvd_add dq dm) dp)
    omega
theorem insQ_iff {p q : Pfx} : insQ p q = true ↔ p.right = true ∧ q.right = true ∧ q.len ≤ p.len ∧ q.at_ ≤ p.at_ ∧ p.at_ < q.hi := by
  unfold insQ insP Pfx.right
  constructor
  · intro h
    simp only [Bool.and_eq_true, decide_eq_true_eq, beq_iff_eq] at h
    obtain ⟨⟨⟨h1, h2⟩, h3⟩, h4⟩ := h
    obtain ⟨b1, b2, b3, b4, b5⟩ := right_bd h2
    have := (blk_iff (by have := szI_bd b1; omega) b5).1 h4
    exact ⟨h1, h2, h3, this.1, this.2⟩
  · intro ⟨h1, h2, h3, h4, h5⟩
    obtain ⟨b1, b2, b3, b4, b5⟩ := right_bd h2
    simp only [Bool.and_eq_true, decide_eq_true_eq, beq_iff_eq]
    exact ⟨⟨⟨h1, h2⟩, h3⟩, (blk_iff (by have := szI_bd b1; omega) b5).2 ⟨h4, h5⟩⟩
theorem le_mul1 {s k : Int} (hs : 0 ≤ s) (hk : 1 ≤ k) : s ≤ s * k := by
  have := Int.mul_le_mul_of_nonneg_left hk hs
  rwa [Int.mul_one] at this
theorem szI_le {l m : Int} (h0 : 0 ≤ m) (h2 : l ≤ 16) (h3 : 0 ≤ l) (hm : m ≤ 16) : szI l ≤ szI m ↔ m ≤ l := by
  constructor
  · intro h
    rcases Int.lt_or_le l m with hlt | hle
    · obtain ⟨k, hk, hk1⟩ := szI_dvd (l := m) (m := l + 1) (by omega) (by omega) hm
      have e := szI_half h3 (by omega)
      have s1 := szI_bd h0
      have : szI m ≤ szI (l + 1) := by rw [hk]; exact le_mul1 (by have := szI_bd (n := l + 1) (by omega); omega) hk1
      omega
    · exact hle
  · intro h
    obtain ⟨k, hk, hk1⟩ := szI_dvd h0 h h2
    rw [hk]
    exact le_mul1 (by have := szI_bd h3; omega) hk1
theorem insQ_hi {p q : Pfx} : insQ p q = true ↔ p.right = true ∧ q.right = true ∧ q.at_ ≤ p.at_ ∧ p.hi ≤ q.hi := by
  rw [insQ_iff]
  constructor
  · intro ⟨h1, h2, h3, h4, h5⟩
    exact ⟨h1, h2, nest h1 h2 h3 h5 (by have := p.hi_bd h1; omega)⟩
  · intro ⟨h1, h2, h3, h4⟩
    have hp := p.hi_bd h1
    obtain ⟨a1, a2, -⟩ := p.bd h1
    obtain ⟨b1, b2, -⟩ := q.bd h2
    exact ⟨h1, h2, (szI_le b1 a2 a1 b2).1 (by unfold Pfx.hi at *; omega), h3, by omega⟩
/-- The reference's inside is the program's. -/
theorem insR_eq (p q : Pfx) : insR p.at_ p.len q.at_ q.len = insQ p q := by
  rw [Bool.eq_iff_iff, insQ_hi]
  unfold insR holdB within lastI Pfx.right Pfx.hi
  simp only [Bool.and_eq_true, decide_eq_true_eq]
  constructor
  · intro ⟨⟨⟨h1, h2⟩, h3⟩, h4⟩
    exact ⟨h1, h2, h3.2.1, by omega⟩
  · intro ⟨h1, h2, h3, h4⟩
    obtain ⟨a1, -⟩ := right_bd h1
    have s1 := szI_bd a1
    exact ⟨⟨⟨h1, h2⟩, ⟨h2, h3, by omega⟩⟩, ⟨h2, by omega, by omega⟩⟩
theorem meets_iff {p q : Pfx} : p.meets q = true ↔ p.right = true ∧ q.right = true ∧ p.at_ < q.hi ∧ q.at_ < p.hi := by
  have e : p.meets q = (insQ p q || insQ q p) := rfl
  rw [e, Bool.or_eq_true, insQ_iff, insQ_iff]
  constructor
  · rintro (⟨h1, h2, h3, h4, h5⟩ | ⟨h1, h2, h3, h4, h5⟩)
    · exact ⟨h1, h2, h5, by have := p.hi_bd h1; omega⟩
    · exact ⟨h2, h1, by have := q.hi_bd h1; omega, h5⟩
  · intro ⟨h1, h2, h3, h4⟩
    rcases Int.le_total q.len p.len with hl | hl
    · exact .inl ⟨h1, h2, hl, (nest h1 h2 hl h3 h4).1, h3⟩
    · exact .inr ⟨h2, h1, hl, (nest h2 h1 hl h4 h3).1, h4⟩
theorem meetB_eq (p q : Pfx) : meetB p.at_ p.len q.at_ q.len = p.meets q := by
  rw [Bool.eq_iff_iff, meets_iff]
  unfold meetB lastI Pfx.right Pfx.hi
  simp only [Bool.and_eq_true, decide_eq_true_eq]
  constructor
  · intro ⟨⟨⟨h1, h2⟩, h3⟩, h4⟩; exact ⟨h1, h2, by omega, by omega⟩
  · intro ⟨h1, h2, h3, h4⟩; exact ⟨⟨⟨h1, h2⟩, by omega⟩, by omega⟩
theorem meets_comm (p q : Pfx) : p.meets q = q.meets p := by
  rw [Bool.eq_iff_iff, meets_iff, meets_iff]
  constructor <;> (intro ⟨h1, h2, h3, h4⟩; exact ⟨h2, h1, h4, h3⟩)
theorem holdB_iff {p : Pfx} {x : Int} : holdB p.at_ p.len x = true ↔ p.right = true ∧ p.at_ ≤ x ∧ x < p.hi := by
  unfold holdB within lastI Pfx.right Pfx.hi
  simp only [Bool.and_eq_true, decide_eq_true_eq]
  constructor
  · intro ⟨h1, h2, h3⟩; exact ⟨h1, h2, by omega⟩
  · intro ⟨h1, h2, h3⟩; exact ⟨h1, h2, by omega⟩
theorem holdP_eq (p : Pfx) (x : Int) : holdP p.at_ p.len x = holdB p.at_ p.len x := by
  rw [Bool.eq_iff_iff, holdB_iff]
  unfold holdP Pfx.right
  simp only [Bool.and_eq_true, decide_eq_true_eq, beq_iff_eq]
  constructor
  · intro ⟨h1, h2, h3, h4⟩
    obtain ⟨b1, b2, b3, b4, b5⟩ := right_bd h1
    have := (blk_iff (by have := szI_bd b1; omega) b5).1 h4
    exact ⟨h1, this.1, this.2⟩
  · intro ⟨h1, h2, h3⟩
    obtain ⟨b1, b2, b3, b4, b5⟩ := right_bd h1
    have hf := p.hi_bd h1
    exact ⟨h1, by omega, by omega, (blk_iff (by have := szI_bd b1; omega) b5).2 ⟨h2, h3⟩⟩
theorem sizeI_right {a l : Int} (h : rightB a l = true) : sizeI a l = szI l := by unfold sizeI; rw [if_pos h]
end Go.Proofs.Ytinnohljknmolaa
namespace Go.Proofs.Ytinnohljknmolaa
open Go Go.RowKit
/-- May it be a pool's or a network's number? -/
def idOK (n : Int) : Bool := decide (1 ≤ n) && decide (n ≤ 65536)
theorem vids_p (n : Int) : PSpec Try.prog 63 [.v (.int .i64 n)] (.v (.bool (idOK n))) := by
  cases e1 : decide (n ≥ 1) with
  | true =>
    have h1 : decide (1 ≤ n) = true := e1
    refine ps_i tab_ok mixed Try.func63 rfl Try.ntmps63 Try.results63 (by kernel_rfl) ?_
    repeat' (first | (with_reducible refine And.intro ?_ ?_) | (with_reducible refine gK_i (fun _ => ?_) (fun _ => ?_)) | (with_reducible refine condS_i (fun _ => ?_) (fun _ => ?_)) | (with_reducible refine drw_i (by kernel_rfl)) | simp -dsimp only [go_sem, seval, *, e1] | ((with_reducible refine opK_c ?_); simp -dsimp only [go_sem, seval, e1]; first | refine callK_r (by first | assumption | fail) (by first | exact .inl rfl | exact .inr rfl) ?_ | (refine callK_i (by assumption) ?_ ?_ ?_; (solve | (repeat (first | exact DLe.refl _ | exact DLe.nil _ | (refine DLe.tup ?_) | (refine DLe.agg ?_ rfl) | exact trivial | (refine And.intro ?_ ?_)))); (solve | exact .inl rfl | exact .inr rfl))) | fail | omega | exact decide_eq_true (by omega) | exact DLe.refl _)
    all_goals (unfold idOK; rw [h1]; exact DLe.refl _)
  | false =>
    have h1 : decide (1 ≤ n) = false := e1
    refine ps_i tab_ok mixed Try.func63 rfl Try.ntmps63 Try.results63 (by kernel_rfl) ?_
    repeat' (first | (with_reducible refine And.intro ?_ ?_) | (with_reducible refine gK_i (fun _ => ?_) (fun _ => ?_)) | (with_reducible refine condS_i (fun _ => ?_) (fun _ => ?_)) | (with_reducible refine drw_i (by kernel_rfl)) | simp -dsimp only [go_sem, seval, *, e1] | ((with_reducible refine opK_c ?_); simp -dsimp only [go_sem, seval, e1]; first | refine callK_r (by first | assumption | fail) (by first | exact .inl rfl | exact .inr rfl) ?_ | (refine callK_i (by assumption) ?_ ?_ ?_; (solve | (repeat (first | exact DLe.refl _ | exact DLe.nil _ | (refine DLe.tup ?_) | (refine DLe.agg ?_ rfl) | exact trivial | (refine And.intro ?_ ?_)))); (solve | exact .inl rfl | exact .inr rfl))) | fail | omega | exact decide_eq_true (by omega) | exact DLe.refl _)
    all_goals (unfold idOK; rw [h1]; exact DLe.refl _)
theorem dle_b {x y : Bool} (h : x = y) : DLe (.v (.bool x)) (.v (.bool y)) := h ▸ DLe.refl _
theorem dle_n {x y : Int} (h : x = y) : DLe (.v (.int .i64 x)) (.v (.int .i64 y)) := h ▸ DLe.refl _
/-- More than there may be. -/
def manyF (f : Fce) : Bool := decide ((f.addrs.length : Int) > 4)
def manyN (s : Sbn) : Bool := decide ((s.faces.length : Int) > 8) || s.faces.any manyF
def manyV (v : Vpc) : Bool := decide ((v.ranges.length : Int) > 4) || (decide ((v.subs.length : Int) > 6) || v.subs.any manyN)
theorem many11_p (f : Fce) : PSpec Try.prog 81 [.agg (encF f)] (.v (.bool (manyF f))) := by
  refine ps_i tab_ok mixed Try.func81 rfl Try.ntmps81 Try.results81 (by kernel_rfl) ?_
  repeat' (first | (with_reducible refine And.intro ?_ ?_) | (with_reducible refine gK_i (fun _ => ?_) (fun _ => ?_)) | (with_reducible refine condS_i (fun _ => ?_) (fun _ => ?_)) | (with_reducible refine drw_i (by kernel_rfl)) | simp -dsimp only [go_sem, seval, *, encF] | ((with_reducible refine opK_c ?_); simp -dsimp only [go_sem, seval, encF]; first | refine callK_r (by first | assumption | fail) (by first | exact .inl rfl | exact .inr rfl) ?_ | (refine callK_i (by assumption) ?_ ?_ ?_; (solve | (repeat (first | exact DLe.refl _ | exact DLe.nil _ | (refine DLe.tup ?_) | (refine DLe.agg ?_ rfl) | exact trivial | (refine And.intro ?_ ?_)))); (solve | exact .inl rfl | exact .inr rfl))) | fail | omega | exact decide_eq_true (by omega) | exact DLe.refl _)
  all_goals exact DLe.refl _
theorem many1_p (s : Sbn) : PSpec Try.prog 79 [.agg (encN s)] (.v (.bool (manyN s))) := by
  unfold manyN
  by_cases h : s.faces.length > 8
  · have h1 : decide ((s.faces.length : Int) > 8) = true := by simp; omega
    rw [h1]
    refine ps_i tab_ok mixed Try.func79 rfl Try.ntmps79 Try.results79 (by kernel_rfl) ?_
    repeat' (first | (with_reducible refine And.intro ?_ ?_) | (with_reducible refine gK_i (fun _ => ?_) (fun _ => ?_)) | (with_reducible refine condS_i (fun _ => ?_) (fun _ => ?_)) | (with_reducible refine drw_i (by kernel_rfl)) | simp -dsimp only [go_sem, seval, *, encN, h1, undef] | ((with_reducible refine opK_c ?_); simp -dsimp only [go_sem, seval, encN, h1, undef]; first | refine callK_r (by first | assumption | fail) (by first | exact .inl rfl | exact .inr rfl) ?_ | (refine callK_i (by assumption) ?_ ?_ ?_; (solve | (repeat (first | exact DLe.refl _ | exact DLe.nil _ | (refine DLe.tup ?_) | (refine DLe.agg ?_ rfl) | exact trivial | (refine And.intro ?_ ?_)))); (solve | exact .inl rfl | exact .inr rfl))) | fail | omega | exact decide_eq_true (by omega) | exact DLe.refl _)
    all_goals exact DLe.refl _
  · have h1 : decide ((s.faces.length : Int) > 8) = false := by simp; omega
    have hc := cntf_Face encF_len manyF s.faces 81 [] (by omega) (fun f _ => many11_p f)
    rw [h1]
    refine ps_i tab_ok mixed Try.func79 rfl Try.ntmps79 Try.results79 (by kernel_rfl) ?_
    repeat' (first | (with_reducible refine And.intro ?_ ?_) | (with_reducible refine gK_i (fun _ => ?_) (fun _ => ?_)) | (with_reducible refine condS_i (fun _ => ?_) (fun _ => ?_)) | (with_reducible refine drw_i (by kernel_rfl)) | simp -dsimp only [go_sem, seval, *, encN, h1, undef] | ((with_reducible refine opK_c ?_); simp -dsimp only [go_sem, seval, encN, h1, undef]; first | refine callK_r (by first | assumption | exact hc) (by first | exact .inl rfl | exact .inr rfl) ?_ | (refine callK_i (by assumption) ?_ ?_ ?_; (solve | (repeat (first | exact DLe.refl _ | exact DLe.nil _ | (refine DLe.tup ?_) | (refine DLe.agg ?_ rfl) | exact trivial | (refine And.intro ?_ ?_)))); (solve | exact .inl rfl | exact .inr rfl))) | fail | omega | exact decide_eq_true (by omega) | exact DLe.refl _)
    all_goals exact DLe.refl _
theorem many_p (v : Vpc) : PSpec Try.prog 62 [.agg (encV v)] (.v (.bool (manyV v))) := by
  unfold manyV
  cases h1 : decide ((v.ranges.length : Int) > 4) with
  | true =>
    refine ps_i tab_ok mixed Try.func62 rfl Try.ntmps62 Try.results62 (by kernel_rfl) ?_
    repeat' (first | (with_reducible refine And.intro ?_ ?_) | (with_reducible refine gK_i (fun _ => ?_) (fun _ => ?_)) | (with_reducible refine condS_i (fun _ => ?_) (fun _ => ?_)) | (with_reducible refine drw_i (by kernel_rfl)) | simp -dsimp only [go_sem, seval, *, encV, h1, undef] | ((with_reducible refine opK_c ?_); simp -dsimp only [go_sem, seval, encV, h1, undef]; first | refine callK_r (by first | assumption | fail) (by first | exact .inl rfl | exact .inr rfl) ?_ | (refine callK_i (by assumption) ?_ ?_ ?_; (solve | (repeat (first | exact DLe.refl _ | exact DLe.nil _ | (refine DLe.tup ?_) | (refine DLe.agg ?_ rfl) | exact trivial | (refine And.intro ?_ ?_)))); (solve | exact .inl rfl | exact .inr rfl))) | fail | omega | exact decide_eq_true (by omega) | exact DLe.refl _)
    all_goals exact DLe.refl _
  | false =>
    cases h2 : decide ((v.subs.length : Int) > 6) with
    | true =>
      refine ps_i tab_ok mixed Try.func62 rfl Try.ntmps62 Try.results62 (by kernel_rfl) ?_
      repeat' (first | (with_reducible refine And.intro ?_ ?_) | (with_reducible refine gK_i (fun _ => ?_) (fun _ => ?_)) | (with_reducible refine condS_i (fun _ => ?_) (fun _ => ?_)) | (with_reducible refine drw_i (by kernel_rfl)) | simp -dsimp only [go_sem, seval, *, encV, h1, h2, undef] | ((with_reducible refine opK_c ?_); simp -dsimp only [go_sem, seval, encV, h1, h2, undef]; first | refine callK_r (by first | assumption | fail) (by first | exact .inl rfl | exact .inr rfl) ?_ | (refine callK_i (by assumption) ?_ ?_ ?_; (solve | (repeat (first | exact DLe.refl _ | exact DLe.nil _ | (refine DLe.tup ?_) | (refine DLe.agg ?_ rfl) | exact trivial | (refine And.intro ?_ ?_)))); (solve | exact .inl rfl | exact .inr rfl))) | fail | omega | exact decide_eq_true (by omega) | exact DLe.refl _)
      all_goals exact DLe.refl _
    | false =>
      have hl : v.subs.length ≤ 6 := by simp at h2; omega
      have hc := cntf_Sub encN_len manyN v.subs 79 [] (by omega) (fun f _ => many1_p f)
      refine ps_i tab_ok mixed Try.func62 rfl Try.ntmps62 Try.results62 (by kernel_rfl) ?_
      repeat' (first | (with_reducible refine And.intro ?_ ?_) | (with_reducible refine gK_i (fun _ => ?_) (fun _ => ?_)) | (with_reducible refine condS_i (fun _ => ?_) (fun _ => ?_)) | (with_reducible refine drw_i (by kernel_rfl)) | simp -dsimp only [go_sem, seval, *, encV, h1, h2, undef] | ((with_reducible refine opK_c ?_); simp -dsimp only [go_sem, seval, encV, h1, h2, undef]; first | refine callK_r (by first | assumption | exact hc) (by first | exact .inl rfl | exact .inr rfl) ?_ | (refine callK_i (by assumption) ?_ ?_ ?_; (solve | (repeat (first | exact DLe.refl _ | exact DLe.nil _ | (refine DLe.tup ?_) | (refine DLe.agg ?_ rfl) | exact trivial | (refine And.intro ?_ ?_)))); (solve | exact .inl rfl | exact .inr rfl))) | fail | omega | exact decide_eq_true (by omega) | exact DLe.refl _)
      all_goals exact DLe.refl _
theorem manyV_ok {v : Vpc} (h : manyV v = false) : v.ranges.length ≤ 4 ∧ v.subs.length ≤ 6 ∧ ∀ s ∈ v.subs, s.faces.length ≤ 8 ∧ ∀ f ∈ s.faces, f.addrs.length ≤ 4 := by
  simp only [manyV, manyN, manyF, Bool.or_eq_false_iff, decide_eq_false_iff_not, List.any_eq_false] at h
  refine ⟨by omega, by omega, fun s hs => ?_⟩
  have h1 := h.2.2 s hs
  simp only [Bool.not_eq_true, Bool.or_eq_false_iff, decide_eq_false_iff_not, List.any_eq_false, decide_eq_true_eq] at h1
  exact ⟨by omega, fun f hf => by have h2 := h1.2 f hf; revert h2; simp [manyF]; omega⟩
/-- Is a prefix inside of a range? -/
def holdsV (v : Vpc) (p : Pfx) : Bool := v.ranges.any fun r => insQ p r.at_
theorem holds1_p (r : Rng) (p : Pfx) : PSpec Try.prog 83 [.agg (encG r), .ept (encP p)] (.v (.bool (insQ p r.at_))) := by
  have hi : PSpec Try.prog 84 [.agg (encP p), .agg (encP r.at_)] (.v (.bool (insQ p r.at_))) := inside_p p r.at_
  refine ps_i tab_ok mixed Try.func83 rfl Try.ntmps83 Try.results83 (by kernel_rfl) ?_
  repeat' (first | (with_reducible refine And.intro ?_ ?_) | (with_reducible refine gK_i (fun _ => ?_) (fun _ => ?_)) | (with_reducible refine condS_i (fun _ => ?_) (fun _ => ?_)) | (with_reducible refine drw_i (by kernel_rfl)) | simp -dsimp only [go_sem, seval, *, encG, encP] | ((with_reducible refine opK_c ?_); simp -dsimp only [go_sem, seval, encG, encP]; first | refine callK_r (by first | assumption | exact hi) (by first | exact .inl rfl | exact .inr rfl) ?_ | (refine callK_i (by assumption) ?_ ?_ ?_; (solve | (repeat (first | exact DLe.refl _ | exact DLe.nil _ | (refine DLe.tup ?_) | (refine DLe.agg ?_ rfl) | exact trivial | (refine And.intro ?_ ?_)))); (solve | exact .inl rfl | exact .inr rfl))) | fail | omega | exact decide_eq_true (by omega) | exact DLe.refl _)
theorem vholds_p (v : Vpc) (p : Pfx) (hl : v.ranges.length ≤ 1000000000) : PSpec Try.prog 68 [.agg (encV v), .agg (encP p)] (.v (.bool (holdsV v p))) := by
  have hc := cntf_Range encG_len (fun r => insQ p r.at_) v.ranges 83 [.ept (encP p)] hl (fun r _ => holds1_p r p)
  refine ps_i tab_ok mixed Try.func68 rfl Try.ntmps68 Try.results68 (by kernel_rfl) ?_
  repeat' (first | (with_reducible refine And.intro ?_ ?_) | (with_reducible refine gK_i (fun _ => ?_) (fun _ => ?_)) | (with_reducible refine condS_i (fun _ => ?_) (fun _ => ?_)) | (with_reducible refine drw_i (by kernel_rfl)) | simp -dsimp only [go_sem, seval, *, encV, encP] | ((with_reducible refine opK_c ?_); simp -dsimp only [go_sem, seval, encV, encP]; first | refine callK_r (by first | assumption | exact hc) (by first | exact .inl rfl | exact .inr rfl) ?_ | (refine callK_i (by assumption) ?_ ?_ ?_; (solve | (repeat (first | exact DLe.refl _ | exact DLe.nil _ | (refine DLe.tup ?_) | (refine DLe.agg ?_ rfl) | exact trivial | (refine And.intro ?_ ?_)))); (solve | exact .inl rfl | exact .inr rfl))) | fail | omega | exact decide_eq_true (by omega) | exact DLe.refl _)
theorem holds_p (p : Pfx) (x : Int) : PSpec Try.prog 14 [.agg (encP p), .v (.int .i64 x)] (.v (.bool (holdP p.at_ p.len x))) := pspec_flat (fnok_of Try.func14 (by kernel_rfl) rfl) (by intro d hd; simp at hd; (repeat (first | (obtain rfl := hd; rfl) | (rcases hd with rfl | hd; · rfl)))) rfl rfl (fun w => holds_any _ _ _ _)
/-- May a face have an address? -/
def innB (p : Pfx) (x : Int) : Bool := holdP p.at_ p.len x && (decide (x > p.at_) && decide (x < p.at_ + szI p.len - 1))
set_option maxRecDepth 100000 in
theorem inner_p (p : Pfx) (x : Int) : PSpec Try.prog 87 [.agg (encP p), .v (.int .i64 x)] (.v (.bool (innB p x))) := by
  have hh := holds_p p x
  unfold innB
  cases h1 : holdP p.at_ p.len x with
  | false =>
    rw [h1] at hh
    refine ps_i tab_ok mixed Try.func87 rfl Try.ntmps87 Try.results87 (by kernel_rfl) ?_
    repeat' (first | (with_reducible refine And.intro ?_ ?_) | (with_reducible refine gK_i (fun _ => ?_) (fun _ => ?_)) | (with_reducible refine condS_i (fun _ => ?_) (fun _ => ?_)) | (with_reducible refine drw_i (by kernel_rfl)) | simp -dsimp only [go_sem, seval, *, encP, undef] | ((with_reducible refine opK_c ?_); simp -dsimp only [go_sem, seval, encP, undef]; first | refine callK_r (by first | assumption | exact hh) (by first | exact .inl rfl | exact .inr rfl) ?_ | (refine callK_i (by assumption) ?_ ?_ ?_; (solve | (repeat (first | exact DLe.refl _ | exact DLe.nil _ | (refine DLe.tup ?_) | (refine DLe.agg ?_ rfl) | exact trivial | (refine And.intro ?_ ?_)))); (solve | exact .inl rfl | exact .inr rfl))) | fail | omega | exact decide_eq_true (by omega) | exact DLe.refl _)
    all_goals exact DLe.refl _
  | true =>
    have hr : p.right = true := (holdB_iff.1 (by rw [← holdP_eq]; exact h1)).1
    obtain ⟨b1, b2, b3, b4, -⟩ := p.bd hr
    have hs := szI_bd b1
    have hsi := size_p p
    rw [sizeI_right hr] at hsi
    have hw1 : IntKind.i64.wrap (p.at_ + szI p.len) = p.at_ + szI p.len := by rw [IntKind.wrap_i64]; omega
    have hw2 : IntKind.i64.wrap (p.at_ + szI p.len - 1) = p.at_ + szI p.len - 1 := by rw [IntKind.wrap_i64]; omega
    rw [h1] at hh
    generalize szI p.len = Z at *
    cases h2 : decide (x > p.at_) with
    | false =>
      refine ps_i tab_ok mixed Try.func87 rfl Try.ntmps87 Try.results87 (by kernel_rfl) ?_
      repeat' (first | (with_reducible refine And.intro ?_ ?_) | (with_reducible refine gK_i (fun _ => ?_) (fun _ => ?_)) | (with_reducible refine condS_i (fun _ => ?_) (fun _ => ?_)) | (with_reducible refine drw_i (by kernel_rfl)) | simp -dsimp only [go_sem, seval, *, encP, h2, undef] | ((with_reducible refine opK_c ?_); simp -dsimp only [go_sem, seval, encP, h2, undef]; first | refine callK_r (by first | assumption | exact hh) (by first | exact .inl rfl | exact .inr rfl) ?_ | (refine callK_i (by assumption) ?_ ?_ ?_; (solve | (repeat (first | exact DLe.refl _ | exact DLe.nil _ | (refine DLe.tup ?_) | (refine DLe.agg ?_ rfl) | exact trivial | (refine And.intro ?_ ?_)))); (solve | exact .inl rfl | exact .inr rfl))) | fail | omega | exact decide_eq_true (by omega) | exact DLe.refl _)
      all_goals exact DLe.refl _
    | true =>
      refine ps_i tab_ok mixed Try.func87 rfl Try.ntmps87 Try.results87 (by kernel_rfl) ?_
      repeat' (first | (with_reducible refine And.intro ?_ ?_) | (with_reducible refine gK_i (fun _ => ?_) (fun _ => ?_)) | (with_reducible refine condS_i (fun _ => ?_) (fun _ => ?_)) | (with_reducible refine drw_i (by kernel_rfl)) | simp -dsimp only [go_sem, seval, *, encP, h2, hw1, hw2, undef] | ((with_reducible refine opK_c ?_); simp -dsimp only [go_sem, seval, encP, h2, hw1, hw2, undef]; first | refine callK_r (by first | assumption | exact hh | exact hsi) (by first | exact .inl rfl | exact .inr rfl) ?_ | (refine callK_i (by assumption) ?_ ?_ ?_; (solve | (repeat (first | exact DLe.refl _ | exact DLe.nil _ | (refine DLe.tup ?_) | (refine DLe.agg ?_ rfl) | exact trivial | (refine And.intro ?_ ?_)))); (solve | exact .inl rfl | exact .inr rfl))) | fail | omega | exact decide_eq_true (by omega) | exact DLe.refl _)
      all_goals exact DLe.refl _
/-- Do these numbers rise? -/
def risB {α : Type} (key : α → Int) : List α → Bool
  | a :: b :: l => decide (key a < key b) && risB key (b :: l)
  | _ => true
theorem risB_at {α : Type} {key : α → Int} : ∀ (l : List α), risB key l = true ↔ ∀ j (h : j + 1 < l.length), key l[j] < key l[j + 1]
  | [] => by simp [risB]
  | [a] => by simp [risB]
  | a :: b :: l => by
    have ih := risB_at (key := key) (b :: l)
    simp only [risB, Bool.and_eq_true, decide_eq_true_eq, ih]
    constructor
    · rintro ⟨h1, h2⟩ j hj
      cases j with
      | zero => exact h1
      | succ j => exact h2 j (by simpa using hj)
    · intro h
      exact ⟨h 0 (by simp), fun j hj => h (j + 1) (by simpa using hj)⟩
theorem risB_pair {α : Type} {key : α → Int} : ∀ (l : List α), risB key l = true ↔ l.Pairwise fun a b => key a < key b
  | [] => by simp [risB]
  | [a] => by simp [risB]
  | a :: b :: l => by
    have ih := risB_pair (key := key) (b :: l)
    simp only [risB, Bool.and_eq_true, decide_eq_true_eq, ih]
    constructor
    · rintro ⟨h1, h2⟩
      refine List.pairwise_cons.2 ⟨fun x hx => ?_, h2⟩
      rcases List.mem_cons.1 hx with rfl | hx
      · exact h1
      · have := (List.pairwise_cons.1 h2).1 x hx; omega
    · intro h
      obtain ⟨h1, h2⟩ := List.pairwise_cons.1 h
      exact ⟨h1 b (by simp), h2⟩
set_option maxHeartbeats 1000000 in
theorem rises_Range {α : Type} {enc : α → List D} (henc : ∀ x, (enc x).length = 3) (key : α → Int) (l : List α) (g : Nat) (hl : l.length ≤ 1000000000) (hc : ∀ x ∈ l, PSpec Try.prog g [.agg (enc x)] (.v (.int .i64 (key x)))) :
    PSpec Try.prog 64 [.sl 3 (l.map enc), .clo g []] (.v (.bool (risB key l))) := by
  refine ps_i tab_ok mixed Try.func64 rfl Try.ntmps64 Try.results64 (by kernel_rfl) ?_
  repeat' (first | (with_reducible refine And.intro ?_ ?_) | (with_reducible refine gK_i (fun _ => ?_) (fun _ => ?_)) | (with_reducible refine condS_i (fun _ => ?_) (fun _ => ?_)) | (with_reducible refine drw_i (by kernel_rfl)) | simp -dsimp only [go_sem, seval, *, bne_self_eq_false] | ((with_reducible refine opK_c ?_); simp -dsimp only [go_sem, seval, bne_self_eq_false]; first | refine callK_r (by first | assumption | fail) (by first | exact .inl rfl | exact .inr rfl) ?_ | (refine callK_i (by assumption) ?_ ?_ ?_; (solve | (repeat (first | exact DLe.refl _ | exact DLe.nil _ | (refine DLe.tup ?_) | (refine DLe.agg ?_ rfl) | exact trivial | (refine And.intro ?_ ?_)))); (solve | exact .inl rfl | exact .inr rfl))) | fail | omega | exact decide_eq_true (by omega) | exact DLe.refl _)
  refine loopG tab_ok mixed (fun m e h => ∃ k : Nat, 1 ≤ k ∧ (∀ j (h : j + 1 < l.length), j + 1 < k → key l[j] < key l[j + 1]) ∧ m = l.length - k ∧ e = [(5, .d (.v (.int .i64 k))), (4, .d (.v (.bool false))), (1, .d (.clo g [])), (0, .d (.sl 3 (l.map enc)))] ∧ h = []) _ _ _ ⟨1, Nat.le_refl _, fun j h h1 => by omega, rfl, rfl, rfl⟩ ?_ ?_
  · exact weak_forget [] (by simp) rfl ⟨rfl, rfl, rfl, rfl, trivial⟩ (by first | rfl | simp only [belowH, belowE, belowC, belowL, belowR, belowP, belowL_d, belowR_d, List.length_cons, List.length_nil, Nat.reduceAdd, Nat.reduceLT, decide_true, Bool.and_self, Bool.and_true]) (by first | rfl | simp only [belowH, belowE, belowC, belowL, belowR, belowP, belowL_d, belowR_d, List.length_cons, List.length_nil, Nat.reduceAdd, Nat.reduceLT, decide_true, Bool.and_self, Bool.and_true])
  · rintro m e h ⟨k, hk1, hok, hm, rfl, rfl⟩ CL hCL
    by_cases hlt : k < l.length
    · obtain ⟨x, hx⟩ : ∃ x, l[k - 1]? = some x := ⟨_, List.getElem?_eq_getElem (by omega)⟩
      obtain ⟨y, hy⟩ : ∃ y, l[k]? = some y := ⟨_, List.getElem?_eq_getElem hlt⟩
      have hltI : (k : Int) < (l.length : Int) := by omega
      have hwr : IntKind.i64.wrap ((k : Int) + 1) = ((k + 1 : Nat) : Int) := by rw [IntKind.wrap_i64]; omega
      have hwm : IntKind.i64.wrap ((k : Int) - 1) = ((k - 1 : Nat) : Int) := by rw [IntKind.wrap_i64]; omega
      have hlx := henc x
      have hly := henc y
      have htx : (enc x).take 3 = enc x := List.take_of_length_le (by omega)
      have hty : (enc y).take 3 = enc y := List.take_of_length_le (by omega)
      have hcx := hc x (List.mem_of_getElem? hx)
      have hcy := hc y (List.mem_of_getElem? hy)
      have hxe : l[k - 1]'(by omega) = x := by rw [List.getElem?_eq_getElem (by omega)] at hx; exact Option.some.inj hx
      have hye : l[k] = y := by rw [List.getElem?_eq_getElem hlt] at hy; exact Option.some.inj hy
      replace hxe := Lib.hid hxe
      replace hye := Lib.hid hye
      replace hm := Lib.hid hm
      cases hge : decide (key x ≥ key y) with
      | true =>
        have hr : risB key l = false := by
          rw [Bool.eq_false_iff, ne_eq, risB_at]
          intro h
          have := h (k - 1) (by omega)
          simp only [show k - 1 + 1 = k by omega, hxe.out, hye.out] at this
          simp at hge; omega
        repeat' (first | (with_reducible refine And.intro ?_ ?_) | (with_reducible refine gK_i (fun _ => ?_) (fun _ => ?_)) | (with_reducible refine condS_i (fun _ => ?_) (fun _ => ?_)) | (with_reducible refine drw_i (by kernel_rfl)) | simp -dsimp only [go_sem, seval, *, hx, hy, hltI, hwm, htx, hty, hlx, hly, hge, vwL_d, tcL_d] | ((with_reducible refine opK_c ?_); simp -dsimp only [go_sem, seval, hx, hy, hltI, hwm, htx, hty, hlx, hly, hge, vwL_d, tcL_d]; first | refine callK_r (by first | assumption | exact hcx | exact hcy) (by first | exact .inl rfl | exact .inr rfl) ?_ | (refine callK_i (by assumption) ?_ ?_ ?_; (solve | (repeat (first | exact DLe.refl _ | exact DLe.nil _ | (refine DLe.tup ?_) | (refine DLe.agg ?_ rfl) | exact trivial | (refine And.intro ?_ ?_)))); (solve | exact .inl rfl | exact .inr rfl))) | fail | omega | exact decide_eq_true (by omega) | exact DLe.refl _)
        all_goals (rw [hr]; exact DLe.refl _)
      | false =>
        repeat' (first | (with_reducible refine And.intro ?_ ?_) | (with_reducible refine gK_i (fun _ => ?_) (fun _ => ?_)) | (with_reducible refine condS_i (fun _ => ?_) (fun _ => ?_)) | (with_reducible refine drw_i (by kernel_rfl)) | simp -dsimp only [go_sem, seval, *, hx, hy, hltI, hwr, hwm, htx, hty, hlx, hly, hge, vwL_d, tcL_d] | ((with_reducible refine opK_c ?_); simp -dsimp only [go_sem, seval, hx, hy, hltI, hwr, hwm, htx, hty, hlx, hly, hge, vwL_d, tcL_d]; first | refine callK_r (by first | assumption | exact hcx | exact hcy) (by first | exact .inl rfl | exact .inr rfl) ?_ | (refine callK_i (by assumption) ?_ ?_ ?_; (solve | (repeat (first | exact DLe.refl _ | exact DLe.nil _ | (refine DLe.tup ?_) | (refine DLe.agg ?_ rfl) | exact trivial | (refine And.intro ?_ ?_)))); (solve | exact .inl rfl | exact .inr rfl))) | fail | omega | exact decide_eq_true (by omega) | exact DLe.refl _)
        refine hCL _ _ _ _ _ ?_ ⟨k + 1, by omega, fun j hj hjk => ?_, rfl, rfl, rfl⟩ (weak_forget [] (by simp) rfl ⟨rfl, rfl, rfl, rfl, trivial⟩ (by first | rfl | simp only [belowH, belowE, belowC, belowL, belowR, belowP, belowL_d, belowR_d, List.length_cons, List.length_nil, Nat.reduceAdd, Nat.reduceLT, decide_true, Bool.and_self, Bool.and_true]) (by first | rfl | simp only [belowH, belowE, belowC, belowL, belowR, belowP, belowL_d, belowR_d, List.length_cons, List.length_nil, Nat.reduceAdd, Nat.reduceLT, decide_true, Bool.and_self, Bool.and_true]))
        · have := hm.out; omega
        · rcases Nat.lt_or_ge (j + 1) k with h | h
          · exact hok j hj h
          · obtain rfl : j = k - 1 := by omega
            simp only [show k - 1 + 1 = k by omega, hxe.out, hye.out]
            simp at hge; omega
    · have hltI : decide ((k : Int) < (l.length : Int)) = false := by simp; omega
      have hr : risB key l = true := (risB_at l).2 fun j hj => hok j hj (by omega)
      replace hm := Lib.hid hm
      repeat' (first | (with_reducible refine And.intro ?_ ?_) | (with_reducible refine gK_i (fun _ => ?_) (fun _ => ?_)) | (with_reducible refine condS_i (fun _ => ?_) (fun _ => ?_)) | (with_reducible refine drw_i (by kernel_rfl)) | simp -dsimp only [go_sem, seval, *, hltI] | ((with_reducible refine opK_c ?_); simp -dsimp only [go_sem, seval, hltI]; first | refine callK_r (by first | assumption | fail) (by first | exact .inl rfl | exact .inr rfl) ?_ | (refine callK_i (by assumption) ?_ ?_ ?_; (solve | (repeat (first | exact DLe.refl _ | exact DLe.nil _ | (refine DLe.tup ?_) | (refine DLe.agg ?_ rfl) | exact trivial | (refine And.intro ?_ ?_)))); (solve | exact .inl rfl | exact .inr rfl))) | fail | omega | exact decide_eq_true (by omega) | exact DLe.refl _)
      all_goals (rw [hr]; exact DLe.refl _)
set_option maxHeartbeats 1000000 in
theorem rises_Sub {α : Type} {enc : α → List D} (henc : ∀ x, (enc x).length = 4) (key : α → Int) (l : List α) (g : Nat) (hl : l.length ≤ 1000000000) (hc : ∀ x ∈ l, PSpec Try.prog g [.agg (enc x)] (.v (.int .i64 (key x)))) :
    PSpec Try.prog 66 [.sl 4 (l.map enc), .clo g []] (.v (.bool (risB key l))) := by
  refine ps_i tab_ok mixed Try.func66 rfl Try.ntmps66 Try.results66 (by kernel_rfl) ?_
  repeat' (first | (with_reducible refine And.intro ?_ ?_) | (with_reducible refine gK_i (fun _ => ?_) (fun _ => ?_)) | (with_reducible refine condS_i (fun _ => ?_) (fun _ => ?_)) | (with_reducible refine drw_i (by kernel_rfl)) | simp -dsimp only [go_sem, seval, *, bne_self_eq_false] | ((with_reducible refine opK_c ?_); simp -dsimp only [go_sem, seval, bne_self_eq_false]; first | refine callK_r (by first | assumption | fail) (by first | exact .inl rfl | exact .inr rfl) ?_ | (refine callK_i (by assumption) ?_ ?_ ?_; (solve | (repeat (first | exact DLe.refl _ | exact DLe.nil _ | (refine DLe.tup ?_) | (refine DLe.agg ?_ rfl) | exact trivial | (refine And.intro ?_ ?_)))); (solve | exact .inl rfl | exact .inr rfl))) | fail | omega | exact decide_eq_true (by omega) | exact DLe.refl _)
  refine loopG tab_ok mixed (fun m e h => ∃ k : Nat, 1 ≤ k ∧ (∀ j (h : j + 1 < l.length), j + 1 < k → key l[j] < key l[j + 1]) ∧ m = l.length - k ∧ e = [(5, .d (.v (.int .i64 k))), (4, .d (.v (.bool false))), (1, .d (.clo g [])), (0, .d (.sl 4 (l.map enc)))] ∧ h = []) _ _ _ ⟨1, Nat.le_refl _, fun j h h1 => by omega, rfl, rfl, rfl⟩ ?_ ?_
  · exact weak_forget [] (by simp) rfl ⟨rfl, rfl, rfl, rfl, trivial⟩ (by first | rfl | simp only [belowH, belowE, belowC, belowL, belowR, belowP, belowL_d, belowR_d, List.length_cons, List.length_nil, Nat.reduceAdd, Nat.reduceLT, decide_true, Bool.and_self, Bool.and_true]) (by first | rfl | simp only [belowH, belowE, belowC, belowL, belowR, belowP, belowL_d, belowR_d, List.length_cons, List.length_nil, Nat.reduceAdd, Nat.reduceLT, decide_true, Bool.and_self, Bool.and_true])
  · rintro m e h ⟨k, hk1, hok, hm, rfl, rfl⟩ CL hCL
    by_cases hlt : k < l.length
    · obtain ⟨x, hx⟩ : ∃ x, l[k - 1]? = some x := ⟨_, List.getElem?_eq_getElem (by omega)⟩
      obtain ⟨y, hy⟩ : ∃ y, l[k]? = some y := ⟨_, List.getElem?_eq_getElem hlt⟩
      have hltI : (k : Int) < (l.length : Int) := by omega
      have hwr : IntKind.i64.wrap ((k : Int) + 1) = ((k + 1 : Nat) : Int) := by rw [IntKind.wrap_i64]; omega
      have hwm : IntKind.i64.wrap ((k : Int) - 1) = ((k - 1 : Nat) : Int) := by rw [IntKind.wrap_i64]; omega
      have hlx := henc x
      have hly := henc y
      have htx : (enc x).take 4 = enc x := List.take_of_length_le (by omega)
      have hty : (enc y).take 4 = enc y := List.take_of_length_le (by omega)
      have hcx := hc x (List.mem_of_getElem? hx)
      have hcy := hc y (List.mem_of_getElem? hy)
      have hxe : l[k - 1]'(by omega) = x := by rw [List.getElem?_eq_getElem (by omega)] at hx; exact Option.some.inj hx
      have hye : l[k] = y := by rw [List.getElem?_eq_getElem hlt] at hy; exact Option.some.inj hy
      replace hxe := Lib.hid hxe
      replace hye := Lib.hid hye
      replace hm := Lib.hid hm
      cases hge : decide (key x ≥ key y) with
      | true =>
        have hr : risB key l = false := by
          rw [Bool.eq_false_iff, ne_eq, risB_at]
          intro h
          have := h (k - 1) (by omega)
          simp only [show k - 1 + 1 = k by omega, hxe.out, hye.out] at this
          simp at hge; omega
        repeat' (first | (with_reducible refine And.intro ?_ ?_) | (with_reducible refine gK_i (fun _ => ?_) (fun _ => ?_)) | (with_reducible refine condS_i (fun _ => ?_) (fun _ => ?_)) | (with_reducible refine drw_i (by kernel_rfl)) | simp -dsimp only [go_sem, seval, *, hx, hy, hltI, hwm, htx, hty, hlx, hly, hge, vwL_d, tcL_d] | ((with_reducible refine opK_c ?_); simp -dsimp only [go_sem, seval, hx, hy, hltI, hwm, htx, hty, hlx, hly, hge, vwL_d, tcL_d]; first | refine callK_r (by first | assumption | exact hcx | exact hcy) (by first | exact .inl rfl | exact .inr rfl) ?_ | (refine callK_i (by assumption) ?_ ?_ ?_; (solve | (repeat (first | exact DLe.refl _ | exact DLe.nil _ | (refine DLe.tup ?_) | (refine DLe.agg ?_ rfl) | exact trivial | (refine And.intro ?_ ?_)))); (solve | exact .inl rfl | exact .inr rfl))) | fail | omega | exact decide_eq_true (by omega) | exact DLe.refl _)
        all_goals (rw [hr]; exact DLe.refl _)
      | false =>
        repeat' (first | (with_reducible refine And.intro ?_ ?_) | (with_reducible refine gK_i (fun _ => ?_) (fun _ => ?_)) | (with_reducible refine condS_i (fun _ => ?_) (fun _ => ?_)) | (with_reducible refine drw_i (by kernel_rfl)) | simp -dsimp only [go_sem, seval, *, hx, hy, hltI, hwr, hwm, htx, hty, hlx, hly, hge, vwL_d, tcL_d] | ((with_reducible refine opK_c ?_); simp -dsimp only [go_sem, seval, hx, hy, hltI, hwr, hwm, htx, hty, hlx, hly, hge, vwL_d, tcL_d]; first | refine callK_r (by first | assumption | exact hcx | exact hcy) (by first | exact .inl rfl | exact .inr rfl) ?_ | (refine callK_i (by assumption) ?_ ?_ ?_; (solve | (repeat (first | exact DLe.refl _ | exact DLe.nil _ | (refine DLe.tup ?_) | (refine DLe.agg ?_ rfl) | exact trivial | (refine And.intro ?_ ?_)))); (solve | exact .inl rfl | exact .inr rfl))) | fail | omega | exact decide_eq_true (by omega) | exact DLe.refl _)
        refine hCL _ _ _ _ _ ?_ ⟨k + 1, by omega, fun j hj hjk => ?_, rfl, rfl, rfl⟩ (weak_forget [] (by simp) rfl ⟨rfl, rfl, rfl, rfl, trivial⟩ (by first | rfl | simp only [belowH, belowE, belowC, belowL, belowR, belowP, belowL_d, belowR_d, List.length_cons, List.length_nil, Nat.reduceAdd, Nat.reduceLT, decide_true, Bool.and_self, Bool.and_true]) (by first | rfl | simp only [belowH, belowE, belowC, belowL, belowR, belowP, belowL_d, belowR_d, List.length_cons, List.length_nil, Nat.reduceAdd, Nat.reduceLT, decide_true, Bool.and_self, Bool.and_true]))
        · have := hm.out; omega
        · rcases Nat.lt_or_ge (j + 1) k with h | h
          · exact hok j hj h
          · obtain rfl : j = k - 1 := by omega
            simp only [show k - 1 + 1 = k by omega, hxe.out, hye.out]
            simp at hge; omega
    · have hltI : decide ((k : Int) < (l.length : Int)) = false := by simp; omega
      have hr : risB key l = true := (risB_at l).2 fun j hj => hok j hj (by omega)
      replace hm := Lib.hid hm
      repeat' (first | (with_reducible refine And.intro ?_ ?_) | (with_reducible refine gK_i (fun _ => ?_) (fun _ => ?_)) | (with_reducible refine condS_i (fun _ => ?_) (fun _ => ?_)) | (with_reducible refine drw_i (by kernel_rfl)) | simp -dsimp only [go_sem, seval, *, hltI] | ((with_reducible refine opK_c ?_); simp -dsimp only [go_sem, seval, hltI]; first | refine callK_r (by first | assumption | fail) (by first | exact .inl rfl | exact .inr rfl) ?_ | (refine callK_i (by assumption) ?_ ?_ ?_; (solve | (repeat (first | exact DLe.refl _ | exact DLe.nil _ | (refine DLe.tup ?_) | (refine DLe.agg ?_ rfl) | exact trivial | (refine And.intro ?_ ?_)))); (solve | exact .inl rfl | exact .inr rfl))) | fail | omega | exact decide_eq_true (by omega) | exact DLe.refl _)
      all_goals (rw [hr]; exact DLe.refl _)
set_option maxHeartbeats 1000000 in
theorem rises_Face {α : Type} {enc : α → List D} (henc : ∀ x, (enc x).length = 2) (key : α → Int) (l : List α) (g : Nat) (hl : l.length ≤ 1000000000) (hc : ∀ x ∈ l, PSpec Try.prog g [.agg (enc x)] (.v (.int .i64 (key x)))) :
    PSpec Try.prog 88 [.sl 2 (l.map enc), .clo g []] (.v (.bool (risB key l))) := by
  refine ps_i tab_ok mixed Try.func88 rfl Try.ntmps88 Try.results88 (by kernel_rfl) ?_
  repeat' (first | (with_reducible refine And.intro ?_ ?_) | (with_reducible refine gK_i (fun _ => ?_) (fun _ => ?_)) | (with_reducible refine condS_i (fun _ => ?_) (fun _ => ?_)) | (with_reducible refine drw_i (by kernel_rfl)) | simp -dsimp only [go_sem, seval, *, bne_self_eq_false] | ((with_reducible refine opK_c ?_); simp -dsimp only [go_sem, seval, bne_self_eq_false]; first | refine callK_r (by first | assumption | fail) (by first | exact .inl rfl | exact .inr rfl) ?_ | (refine callK_i (by assumption) ?_ ?_ ?_; (solve | (repeat (first | exact DLe.refl _ | exact DLe.nil _ | (refine DLe.tup ?_) | (refine DLe.agg ?_ rfl) | exact trivial | (refine And.intro ?_ ?_)))); (solve | exact .inl rfl | exact .inr rfl))) | fail | omega | exact decide_eq_true (by omega) | exact DLe.refl _)
  refine loopG tab_ok mixed (fun m e h => ∃ k : Nat, 1 ≤ k ∧ (∀ j (h : j + 1 < l.length), j + 1 < k → key l[j] < key l[j + 1]) ∧ m = l.length - k ∧ e = [(5, .d (.v (.int .i64 k))), (4, .d (.v (.bool false))), (1, .d (.clo g [])), (0, .d (.sl 2 (l.map enc)))] ∧ h = []) _ _ _ ⟨1, Nat.le_refl _, fun j h h1 => by omega, rfl, rfl, rfl⟩ ?_ ?_
  · exact weak_forget [] (by simp) rfl ⟨rfl, rfl, rfl, rfl, trivial⟩ (by first | rfl | simp only [belowH, belowE, belowC, belowL, belowR, belowP, belowL_d, belowR_d, List.length_cons, List.length_nil, Nat.reduceAdd, Nat.reduceLT, decide_true, Bool.and_self, Bool.and_true]) (by first | rfl | simp only [belowH, belowE, belowC, belowL, belowR, belowP, belowL_d, belowR_d, List.length_cons, List.length_nil, Nat.reduceAdd, Nat.reduceLT, decide_true, Bool.and_self, Bool.and_true])
  · rintro m e h ⟨k, hk1, hok, hm, rfl, rfl⟩ CL hCL
    by_cases hlt : k < l.length
    · obtain ⟨x, hx⟩ : ∃ x, l[k - 1]? = some x := ⟨_, List.getElem?_eq_getElem (by omega)⟩
      obtain ⟨y, hy⟩ : ∃ y, l[k]? = some y := ⟨_, List.getElem?_eq_getElem hlt⟩
      have hltI : (k : Int) < (l.length : Int) := by omega
      have hwr : IntKind.i64.wrap ((k : Int) + 1) = ((k + 1 : Nat) : Int) := by rw [IntKind.wrap_i64]; omega
      have hwm : IntKind.i64.wrap ((k : Int) - 1) = ((k - 1 : Nat) : Int) := by rw [IntKind.wrap_i64]; omega
      have hlx := henc x
      have hly := henc y
      have htx : (enc x).take 2 = enc x := List.take_of_length_le (by omega)
      have hty : (enc y).take 2 = enc y := List.take_of_length_le (by omega)
      have hcx := hc x (List.mem_of_getElem? hx)
      have hcy := hc y (List.mem_of_getElem? hy)
      have hxe : l[k - 1]'(by omega) = x := by rw [List.getElem?_eq_getElem (by omega)] at hx; exact Option.some.inj hx
      have hye : l[k] = y := by rw [List.getElem?_eq_getElem hlt] at hy; exact Option.some.inj hy
      replace hxe := Lib.hid hxe
      replace hye := Lib.hid hye
      replace hm := Lib.hid hm
      cases hge : decide (key x ≥ key y) with
      | true =>
        have hr : risB key l = false := by
          rw [Bool.eq_false_iff, ne_eq, risB_at]
          intro h
          have := h (k - 1) (by omega)
          simp only [show k - 1 + 1 = k by omega, hxe.out, hye.out] at this
          simp at hge; omega
        repeat' (first | (with_reducible refine And.intro ?_ ?_) | (with_reducible refine gK_i (fun _ => ?_) (fun _ => ?_)) | (with_reducible refine condS_i (fun _ => ?_) (fun _ => ?_)) | (with_reducible refine drw_i (by kernel_rfl)) | simp -dsimp only [go_sem, seval, *, hx, hy, hltI, hwm, htx, hty, hlx, hly, hge, vwL_d, tcL_d] | ((with_reducible refine opK_c ?_); simp -dsimp only [go_sem, seval, hx, hy, hltI, hwm, htx, hty, hlx, hly, hge, vwL_d, tcL_d]; first | refine callK_r (by first | assumption | exact hcx | exact hcy) (by first | exact .inl rfl | exact .inr rfl) ?_ | (refine callK_i (by assumption) ?_ ?_ ?_; (solve | (repeat (first | exact DLe.refl _ | exact DLe.nil _ | (refine DLe.tup ?_) | (refine DLe.agg ?_ rfl) | exact trivial | (refine And.intro ?_ ?_)))); (solve | exact .inl rfl | exact .inr rfl))) | fail | omega | exact decide_eq_true (by omega) | exact DLe.refl _)
        all_goals (rw [hr]; exact DLe.refl _)
      | false =>
        repeat' (first | (with_reducible refine And.intro ?_ ?_) | (with_reducible refine gK_i (fun _ => ?_) (fun _ => ?_)) | (with_reducible refine condS_i (fun _ => ?_) (fun _ => ?_)) | (with_reducible refine drw_i (by kernel_rfl)) | simp -dsimp only [go_sem, seval, *, hx, hy, hltI, hwr, hwm, htx, hty, hlx, hly, hge, vwL_d, tcL_d] | ((with_reducible refine opK_c ?_); simp -dsimp only [go_sem, seval, hx, hy, hltI, hwr, hwm, htx, hty, hlx, hly, hge, vwL_d, tcL_d]; first | refine callK_r (by first | assumption | exact hcx | exact hcy) (by first | exact .inl rfl | exact .inr rfl) ?_ | (refine callK_i (by assumption) ?_ ?_ ?_; (solve | (repeat (first | exact DLe.refl _ | exact DLe.nil _ | (refine DLe.tup ?_) | (refine DLe.agg ?_ rfl) | exact trivial | (refine And.intro ?_ ?_)))); (solve | exact .inl rfl | exact .inr rfl))) | fail | omega | exact decide_eq_true (by omega) | exact DLe.refl _)
        refine hCL _ _ _ _ _ ?_ ⟨k + 1, by omega, fun j hj hjk => ?_, rfl, rfl, rfl⟩ (weak_forget [] (by simp) rfl ⟨rfl, rfl, rfl, rfl, trivial⟩ (by first | rfl | simp only [belowH, belowE, belowC, belowL, belowR, belowP, belowL_d, belowR_d, List.length_cons, List.length_nil, Nat.reduceAdd, Nat.reduceLT, decide_true, Bool.and_self, Bool.and_true]) (by first | rfl | simp only [belowH, belowE, belowC, belowL, belowR, belowP, belowL_d, belowR_d, List.length_cons, List.length_nil, Nat.reduceAdd, Nat.reduceLT, decide_true, Bool.and_self, Bool.and_true]))
        · have := hm.out; omega
        · rcases Nat.lt_or_ge (j + 1) k with h | h
          · exact hok j hj h
          · obtain rfl : j = k - 1 := by omega
            simp only [show k - 1 + 1 = k by omega, hxe.out, hye.out]
            simp at hge; omega
    · have hltI : decide ((k : Int) < (l.length : Int)) = false := by simp; omega
      have hr : risB key l = true := (risB_at l).2 fun j hj => hok j hj (by omega)
      replace hm := Lib.hid hm
      repeat' (first | (with_reducible refine And.intro ?_ ?_) | (with_reducible refine gK_i (fun _ => ?_) (fun _ => ?_)) | (with_reducible refine condS_i (fun _ => ?_) (fun _ => ?_)) | (with_reducible refine drw_i (by kernel_rfl)) | simp -dsimp only [go_sem, seval, *, hltI] | ((with_reducible refine opK_c ?_); simp -dsimp only [go_sem, seval, hltI]; first | refine callK_r (by first | assumption | fail) (by first | exact .inl rfl | exact .inr rfl) ?_ | (refine callK_i (by assumption) ?_ ?_ ?_; (solve | (repeat (first | exact DLe.refl _ | exact DLe.nil _ | (refine DLe.tup ?_) | (refine DLe.agg ?_ rfl) | exact trivial | (refine And.intro ?_ ?_)))); (solve | exact .inl rfl | exact .inr rfl))) | fail | omega | exact decide_eq_true (by omega) | exact DLe.refl _)
      all_goals (rw [hr]; exact DLe.refl _)
set_option maxHeartbeats 1000000 in
theorem rises_int (l : List Int) (g : Nat) (hl : l.length ≤ 1000000000) (hc : ∀ x, PSpec Try.prog g [.v (.int .i64 x)] (.v (.int .i64 x))) :
    PSpec Try.prog 85 [.sl 1 (l.map encA), .clo g []] (.v (.bool (risB (fun x => x) l))) := by
  refine ps_i tab_ok mixed Try.func85 rfl Try.ntmps85 Try.results85 (by kernel_rfl) ?_
  repeat' (first | (with_reducible refine And.intro ?_ ?_) | (with_reducible refine gK_i (fun _ => ?_) (fun _ => ?_)) | (with_reducible refine condS_i (fun _ => ?_) (fun _ => ?_)) | (with_reducible refine drw_i (by kernel_rfl)) | simp -dsimp only [go_sem, seval, *, bne_self_eq_false] | ((with_reducible refine opK_c ?_); simp -dsimp only [go_sem, seval, bne_self_eq_false]; first | refine callK_r (by first | assumption | fail) (by first | exact .inl rfl | exact .inr rfl) ?_ | (refine callK_i (by assumption) ?_ ?_ ?_; (solve | (repeat (first | exact DLe.refl _ | exact DLe.nil _ | (refine DLe.tup ?_) | (refine DLe.agg ?_ rfl) | exact trivial | (refine And.intro ?_ ?_)))); (solve | exact .inl rfl | exact .inr rfl))) | fail | omega | exact decide_eq_true (by omega) | exact DLe.refl _)
  refine loopG tab_ok mixed (fun m e h => ∃ k : Nat, 1 ≤ k ∧ (∀ j (h : j + 1 < l.length), j + 1 < k → l[j] < l[j + 1]) ∧ m = l.length - k ∧ e = [(5, .d (.v (.int .i64 k))), (4, .d (.v (.bool false))), (1, .d (.clo g [])), (0, .d (.sl 1 (l.map encA)))] ∧ h = []) _ _ _ ⟨1, Nat.le_refl _, fun j h h1 => by omega, rfl, rfl, rfl⟩ ?_ ?_
  · exact weak_forget [] (by simp) rfl ⟨rfl, rfl, rfl, rfl, trivial⟩ (by first | rfl | simp only [belowH, belowE, belowC, belowL, belowR, belowP, belowL_d, belowR_d, List.length_cons, List.length_nil, Nat.reduceAdd, Nat.reduceLT, decide_true, Bool.and_self, Bool.and_true]) (by first | rfl | simp only [belowH, belowE, belowC, belowL, belowR, belowP, belowL_d, belowR_d, List.length_cons, List.length_nil, Nat.reduceAdd, Nat.reduceLT, decide_true, Bool.and_self, Bool.and_true])
  · rintro m e h ⟨k, hk1, hok, hm, rfl, rfl⟩ CL hCL
    by_cases hlt : k < l.length
    · obtain ⟨x, hx⟩ : ∃ x, l[k - 1]? = some x := ⟨_, List.getElem?_eq_getElem (by omega)⟩
      obtain ⟨y, hy⟩ : ∃ y, l[k]? = some y := ⟨_, List.getElem?_eq_getElem hlt⟩
      have hltI : (k : Int) < (l.length : Int) := by omega
      have hwr : IntKind.i64.wrap ((k : Int) + 1) = ((k + 1 : Nat) : Int) := by rw [IntKind.wrap_i64]; omega
      have hwm : IntKind.i64.wrap ((k : Int) - 1) = ((k - 1 : Nat) : Int) := by rw [IntKind.wrap_i64]; omega
      have hcx := hc x
      have hcy := hc y
      have hxe : l[k - 1]'(by omega) = x := by rw [List.getElem?_eq_getElem (by omega)] at hx; exact Option.some.inj hx
      have hye : l[k] = y := by rw [List.getElem?_eq_getElem hlt] at hy; exact Option.some.inj hy
      replace hxe := Lib.hid hxe
      replace hye := Lib.hid hye
      replace hm := Lib.hid hm
      cases hge : decide (x ≥ y) with
      | true =>
        have hr : risB (fun x => x) l = false := by
          rw [Bool.eq_false_iff, ne_eq, risB_at]
          intro h
          have := h (k - 1) (by omega)
          simp only [show k - 1 + 1 = k by omega, hxe.out, hye.out] at this
          simp at hge; omega
        repeat' (first | (with_reducible refine And.intro ?_ ?_) | (with_reducible refine gK_i (fun _ => ?_) (fun _ => ?_)) | (with_reducible refine condS_i (fun _ => ?_) (fun _ => ?_)) | (with_reducible refine drw_i (by kernel_rfl)) | simp -dsimp only [go_sem, seval, *, encA, hx, hy, hltI, hwm, hge] | ((with_reducible refine opK_c ?_); simp -dsimp only [go_sem, seval, encA, hx, hy, hltI, hwm, hge]; first | refine callK_r (by first | assumption | exact hcx | exact hcy) (by first | exact .inl rfl | exact .inr rfl) ?_ | (refine callK_i (by assumption) ?_ ?_ ?_; (solve | (repeat (first | exact DLe.refl _ | exact DLe.nil _ | (refine DLe.tup ?_) | (refine DLe.agg ?_ rfl) | exact trivial | (refine And.intro ?_ ?_)))); (solve | exact .inl rfl | exact .inr rfl))) | fail | omega | exact decide_eq_true (by omega) | exact DLe.refl _)
        all_goals (rw [hr]; exact DLe.refl _)
      | false =>
        repeat' (first | (with_reducible refine And.intro ?_ ?_) | (with_reducible refine gK_i (fun _ => ?_) (fun _ => ?_)) | (with_reducible refine condS_i (fun _ => ?_) (fun _ => ?_)) | (with_reducible refine drw_i (by kernel_rfl)) | simp -dsimp only [go_sem, seval, *, encA, hx, hy, hltI, hwr, hwm, hge] | ((with_reducible refine opK_c ?_); simp -dsimp only [go_sem, seval, encA, hx, hy, hltI, hwr, hwm, hge]; first | refine callK_r (by first | assumption | exact hcx | exact hcy) (by first | exact .inl rfl | exact .inr rfl) ?_ | (refine callK_i (by assumption) ?_ ?_ ?_; (solve | (repeat (first | exact DLe.refl _ | exact DLe.nil _ | (refine DLe.tup ?_) | (refine DLe.agg ?_ rfl) | exact trivial | (refine And.intro ?_ ?_)))); (solve | exact .inl rfl | exact .inr rfl))) | fail | omega | exact decide_eq_true (by omega) | exact DLe.refl _)
        refine hCL _ _ _ _ _ ?_ ⟨k + 1, by omega, fun j hj hjk => ?_, rfl, rfl, rfl⟩ (weak_forget [] (by simp) rfl ⟨rfl, rfl, rfl, rfl, trivial⟩ (by first | rfl | simp only [belowH, belowE, belowC, belowL, belowR, belowP, belowL_d, belowR_d, List.length_cons, List.length_nil, Nat.reduceAdd, Nat.reduceLT, decide_true, Bool.and_self, Bool.and_true]) (by first | rfl | simp only [belowH, belowE, belowC, belowL, belowR, belowP, belowL_d, belowR_d, List.length_cons, List.length_nil, Nat.reduceAdd, Nat.reduceLT, decide_true, Bool.and_self, Bool.and_true]))
        · have := hm.out; omega
        · rcases Nat.lt_or_ge (j + 1) k with h | h
          · exact hok j hj h
          · obtain rfl : j = k - 1 := by omega
            simp only [show k - 1 + 1 = k by omega, hxe.out, hye.out]
            simp at hge; omega
    · have hltI : decide ((k : Int) < (l.length : Int)) = false := by simp; omega
      have hr : risB (fun x => x) l = true := (risB_at l).2 fun j hj => hok j hj (by omega)
      replace hm := Lib.hid hm
      repeat' (first | (with_reducible refine And.intro ?_ ?_) | (with_reducible refine gK_i (fun _ => ?_) (fun _ => ?_)) | (with_reducible refine condS_i (fun _ => ?_) (fun _ => ?_)) | (with_reducible refine drw_i (by kernel_rfl)) | simp -dsimp only [go_sem, seval, *, hltI] | ((with_reducible refine opK_c ?_); simp -dsimp only [go_sem, seval, hltI]; first | refine callK_r (by first | assumption | fail) (by first | exact .inl rfl | exact .inr rfl) ?_ | (refine callK_i (by assumption) ?_ ?_ ?_; (solve | (repeat (first | exact DLe.refl _ | exact DLe.nil _ | (refine DLe.tup ?_) | (refine DLe.agg ?_ rfl) | exact trivial | (refine And.intro ?_ ?_)))); (solve | exact .inl rfl | exact .inr rfl))) | fail | omega | exact decide_eq_true (by omega) | exact DLe.refl _)
      all_goals (rw [hr]; exact DLe.refl _)
/-- Does no prefix meet another one? -/
def apaF : List Pfx → List Pfx → Bool
  | _, [] => true
  | pre, p :: l => !(pre.any p.meets) && apaF (pre ++ [p]) l
theorem apart1_p (q p : Pfx) : PSpec Try.prog 91 [.agg (encP q), .ept (encP p)] (.v (.bool (p.meets q))) := by
  have hm : PSpec Try.prog 92 [.agg (encP p), .agg (encP q)] (.v (.bool (p.meets q))) := meets_p p q
  refine ps_i tab_ok mixed Try.func91 rfl Try.ntmps91 Try.results91 (by kernel_rfl) ?_
  repeat' (first | (with_reducible refine And.intro ?_ ?_) | (with_reducible refine gK_i (fun _ => ?_) (fun _ => ?_)) | (with_reducible refine condS_i (fun _ => ?_) (fun _ => ?_)) | (with_reducible refine drw_i (by kernel_rfl)) | simp -dsimp only [go_sem, seval, *, encP] | ((with_reducible refine opK_c ?_); simp -dsimp only [go_sem, seval, encP]; first | refine callK_r (by first | assumption | exact hm) (by first | exact .inl rfl | exact .inr rfl) ?_ | (refine callK_i (by assumption) ?_ ?_ ?_; (solve | (repeat (first | exact DLe.refl _ | exact DLe.nil _ | (refine DLe.tup ?_) | (refine DLe.agg ?_ rfl) | exact trivial | (refine And.intro ?_ ?_)))); (solve | exact .inl rfl | exact .inr rfl))) | fail | omega | exact decide_eq_true (by omega) | exact DLe.refl _)
theorem drop_get {α : Type} {l : List α} {k : Nat} {x : α} (h : l[k]? = some x) : l.drop k = x :: l.drop (k + 1) := by
  obtain ⟨hk, rfl⟩ := List.getElem?_eq_some_iff.1 h
  exact List.drop_eq_getElem_cons hk
set_option maxHeartbeats 1000000 in
theorem apart_p (l : List Pfx) (hl : l.length ≤ 1000000000) : PSpec Try.prog 70 [.sl 2 (l.map encP)] (.v (.bool (apaF [] l))) := by
  refine ps_i tab_ok mixed Try.func70 rfl Try.ntmps70 Try.results70 (by kernel_rfl) ?_
  repeat' (first | (with_reducible refine And.intro ?_ ?_) | (with_reducible refine gK_i (fun _ => ?_) (fun _ => ?_)) | (with_reducible refine condS_i (fun _ => ?_) (fun _ => ?_)) | (with_reducible refine drw_i (by kernel_rfl)) | simp -dsimp only [go_sem, seval, *, bne_self_eq_false] | ((with_reducible refine opK_c ?_); simp -dsimp only [go_sem, seval, bne_self_eq_false]; first | refine callK_r (by first | assumption | fail) (by first | exact .inl rfl | exact .inr rfl) ?_ | (refine callK_i (by assumption) ?_ ?_ ?_; (solve | (repeat (first | exact DLe.refl _ | exact DLe.nil _ | (refine DLe.tup ?_) | (refine DLe.agg ?_ rfl) | exact trivial | (refine And.intro ?_ ?_)))); (solve | exact .inl rfl | exact .inr rfl))) | fail | omega | exact decide_eq_true (by omega) | exact DLe.refl _)
  refine loopL tab_ok mixed l (fun k => apaF [] l = apaF (l.take k) (l.drop k)) (fun k => [(7, .d (.v (.int .i64 k))), (6, .d (.v (.int .i64 l.length))), (5, .d (.sl 2 (l.map encP))), (2, .d (.v (.bool false))), (0, .d (.sl 2 (l.map encP)))]) (fun _ => []) rfl (weak_forget [] (by simp) rfl ⟨rfl, rfl, rfl, rfl, rfl, trivial⟩ (by first | rfl | simp only [belowH, belowE, belowC, belowL, belowR, belowP, belowL_d, belowR_d, List.length_cons, List.length_nil, Nat.reduceAdd, Nat.reduceLT, decide_true, Bool.and_self, Bool.and_true]) (by first | rfl | simp only [belowH, belowE, belowC, belowL, belowR, belowP, belowL_d, belowR_d, List.length_cons, List.length_nil, Nat.reduceAdd, Nat.reduceLT, decide_true, Bool.and_self, Bool.and_true])) ?_ ?_
  · intro k p hp hk hI C hC
    have hkI : (k : Int) < (l.length : Int) := by omega
    have hwr : IntKind.i64.wrap ((k : Int) + 1) = ((k + 1 : Nat) : Int) := by rw [IntKind.wrap_i64]; omega
    have hcn := cntf_Prefix encP_len p.meets (l.take k) 91 [.ept (encP p)] (by rw [List.length_take]; omega) (fun q _ => apart1_p q p)
    rw [List.map_take] at hcn
    rw [drop_get hp] at hI
    simp only [apaF, ← take_snoc hp] at hI
    replace hI := Lib.hid hI
    have hkl : k ≤ l.length := by omega
    cases ha : (l.take k).any p.meets with
    | true =>
      rw [ha] at hcn
      repeat' (first | (with_reducible refine And.intro ?_ ?_) | (with_reducible refine gK_i (fun _ => ?_) (fun _ => ?_)) | (with_reducible refine condS_i (fun _ => ?_) (fun _ => ?_)) | (with_reducible refine drw_i (by kernel_rfl)) | simp -dsimp only [go_sem, seval, *, encP, hkI, hwr, hp, hkl] | ((with_reducible refine opK_c ?_); simp -dsimp only [go_sem, seval, encP, hkI, hwr, hp, hkl]; first | refine callK_r (by first | assumption | exact hcn) (by first | exact .inl rfl | exact .inr rfl) ?_ | (refine callK_i (by assumption) ?_ ?_ ?_; (solve | (repeat (first | exact DLe.refl _ | exact DLe.nil _ | (refine DLe.tup ?_) | (refine DLe.agg ?_ rfl) | exact trivial | (refine And.intro ?_ ?_)))); (solve | exact .inl rfl | exact .inr rfl))) | fail | omega | exact decide_eq_true (by omega) | exact DLe.refl _)
      all_goals (rw [hI.out, ha]; exact DLe.refl _)
    | false =>
      rw [ha] at hcn
      repeat' (first | (with_reducible refine And.intro ?_ ?_) | (with_reducible refine gK_i (fun _ => ?_) (fun _ => ?_)) | (with_reducible refine condS_i (fun _ => ?_) (fun _ => ?_)) | (with_reducible refine drw_i (by kernel_rfl)) | simp -dsimp only [go_sem, seval, *, encP, hkI, hwr, hp, hkl] | ((with_reducible refine opK_c ?_); simp -dsimp only [go_sem, seval, encP, hkI, hwr, hp, hkl]; first | refine callK_r (by first | assumption | exact hcn) (by first | exact .inl rfl | exact .inr rfl) ?_ | (refine callK_i (by assumption) ?_ ?_ ?_; (solve | (repeat (first | exact DLe.refl _ | exact DLe.nil _ | (refine DLe.tup ?_) | (refine DLe.agg ?_ rfl) | exact trivial | (refine And.intro ?_ ?_)))); (solve | exact .inl rfl | exact .inr rfl))) | fail | omega | exact decide_eq_true (by omega) | exact DLe.refl _)
      exact hC _ _ (by rw [hI.out, ha]; rfl) (weak_forget _ (by simp) (by (try simp only [encP]); rfl) (by (repeat' (first | exact trivial | (refine ⟨rfl, ?_⟩)))) (by first | rfl | simp only [belowH, belowE, belowC, belowL, belowR, belowP, belowL_d, belowR_d, List.length_cons, List.length_nil, Nat.reduceAdd, Nat.reduceLT, decide_true, Bool.and_self, Bool.and_true]) (by first | rfl | simp only [belowH, belowE, belowC, belowL, belowR, belowP, belowL_d, belowR_d, List.length_cons, List.length_nil, Nat.reduceAdd, Nat.reduceLT, decide_true, Bool.and_self, Bool.and_true]))
  · intro hI C
    rw [List.drop_length] at hI
    replace hI := Lib.hid hI
    repeat' (first | (with_reducible refine And.intro ?_ ?_) | (with_reducible refine gK_i (fun _ => ?_) (fun _ => ?_)) | (with_reducible refine condS_i (fun _ => ?_) (fun _ => ?_)) | (with_reducible refine drw_i (by kernel_rfl)) | simp -dsimp only [go_sem, seval, *, Int.lt_irrefl] | ((with_reducible refine opK_c ?_); simp -dsimp only [go_sem, seval, Int.lt_irrefl]; first | refine callK_r (by first | assumption | fail) (by first | exact .inl rfl | exact .inr rfl) ?_ | (refine callK_i (by assumption) ?_ ?_ ?_; (solve | (repeat (first | exact DLe.refl _ | exact DLe.nil _ | (refine DLe.tup ?_) | (refine DLe.agg ?_ rfl) | exact trivial | (refine And.intro ?_ ?_)))); (solve | exact .inl rfl | exact .inr rfl))) | fail | omega | exact decide_eq_true (by omega) | exact DLe.refl _)
    all_goals (rw [hI.out]; exact DLe.refl _)
end Go.Proofs.Ytinnohljknmolaa
namespace Go.Proofs.Ytinnohljknmolaa
open Go Go.RowKit
/-- A subnet's faces, may they be? -/
def faceB (at_ : Pfx) (f : Fce) : Bool := idOK f.id && (!((f.addrs.length : Int) == 0) && (risB (fun x => x) f.addrs && f.addrs.all (innB at_)))
def facesB (s : Sbn) : Bool := s.faces.all (faceB s.at_) && (decide (s.faces.flatMap (·.addrs)).Nodup && risB (·.id) s.faces)
theorem faces1_p (n : Int) : PSpec Try.prog 86 [.v (.int .i64 n)] (.v (.int .i64 n)) := by
  refine ps_i tab_ok mixed Try.func86 rfl Try.ntmps86 Try.results86 (by kernel_rfl) ?_
  repeat' (first | (with_reducible refine And.intro ?_ ?_) | (with_reducible refine gK_i (fun _ => ?_) (fun _ => ?_)) | (with_reducible refine condS_i (fun _ => ?_) (fun _ => ?_)) | (with_reducible refine drw_i (by kernel_rfl)) | simp -dsimp only [go_sem, seval, *, encA] | ((with_reducible refine opK_c ?_); simp -dsimp only [go_sem, seval, encA]; first | refine callK_r (by first | assumption | fail) (by first | exact .inl rfl | exact .inr rfl) ?_ | (refine callK_i (by assumption) ?_ ?_ ?_; (solve | (repeat (first | exact DLe.refl _ | exact DLe.nil _ | (refine DLe.tup ?_) | (refine DLe.agg ?_ rfl) | exact trivial | (refine And.intro ?_ ?_)))); (solve | exact .inl rfl | exact .inr rfl))) | fail | omega | exact decide_eq_true (by omega) | exact DLe.refl _)
theorem faces2_p (f : Fce) : PSpec Try.prog 89 [.agg (encF f)] (.v (.int .i64 f.id)) := by
  refine ps_i tab_ok mixed Try.func89 rfl Try.ntmps89 Try.results89 (by kernel_rfl) ?_
  repeat' (first | (with_reducible refine And.intro ?_ ?_) | (with_reducible refine gK_i (fun _ => ?_) (fun _ => ?_)) | (with_reducible refine condS_i (fun _ => ?_) (fun _ => ?_)) | (with_reducible refine drw_i (by kernel_rfl)) | simp -dsimp only [go_sem, seval, *, encF] | ((with_reducible refine opK_c ?_); simp -dsimp only [go_sem, seval, encF]; first | refine callK_r (by first | assumption | fail) (by first | exact .inl rfl | exact .inr rfl) ?_ | (refine callK_i (by assumption) ?_ ?_ ?_; (solve | (repeat (first | exact DLe.refl _ | exact DLe.nil _ | (refine DLe.tup ?_) | (refine DLe.agg ?_ rfl) | exact trivial | (refine And.intro ?_ ?_)))); (solve | exact .inl rfl | exact .inr rfl))) | fail | omega | exact decide_eq_true (by omega) | exact DLe.refl _)
/-- A map that counts, where each is once at most. -/
def Cnt (ents : List (List Int × Int)) (done : List Int) : Prop := ∀ a, lkE ents [a] = if a ∈ done then some 1 else none
theorem cnt_nil : Cnt [] [] := fun a => by simp [lkE]
theorem cnt_snoc {ents : List (List Int × Int)} {done : List Int} (h : Cnt ents done) {a : Int} (ha : a ∉ done) : Cnt (upE ents [a] 1) (done ++ [a]) := by
  intro b
  rw [lkE_up, h b]
  by_cases hb : a = b
  · subst hb; simp
  · have hb' : ¬ b = a := fun e => hb e.symm
    simp [hb, hb']
theorem nodup_snoc {l : List Int} {a : Int} : (l ++ [a]).Nodup ↔ l.Nodup ∧ a ∉ l := by
  rw [List.nodup_append]
  simp
  intro _
  constructor
  · intro h hm; exact h a hm rfl
  · intro h b hb e; subst e; exact h hb
set_option maxRecDepth 100000 in
set_option maxHeartbeats 4000000 in
theorem faces_p (s : Sbn) (h8 : s.faces.length ≤ 8) (h4 : ∀ f ∈ s.faces, f.addrs.length ≤ 4) : PSpec Try.prog 69 [.agg (encN s)] (.v (.bool (facesB s))) := by
  have hri := rises_Face encF_len (·.id) s.faces 89 (by omega) (fun f _ => faces2_p f)
  refine ps_i tab_ok mixed Try.func69 rfl Try.ntmps69 Try.results69 (by kernel_rfl) ?_
  repeat' (first | (with_reducible refine And.intro ?_ ?_) | (with_reducible refine gK_i (fun _ => ?_) (fun _ => ?_)) | (with_reducible refine condS_i (fun _ => ?_) (fun _ => ?_)) | (with_reducible refine drw_i (by kernel_rfl)) | simp -dsimp only [go_sem, seval, *, encN] | ((with_reducible refine opK_c ?_); simp -dsimp only [go_sem, seval, encN]; first | refine callK_r (by first | assumption | fail) (by first | exact .inl rfl | exact .inr rfl) ?_ | (refine callK_i (by assumption) ?_ ?_ ?_; (solve | (repeat (first | exact DLe.refl _ | exact DLe.nil _ | (refine DLe.tup ?_) | (refine DLe.agg ?_ rfl) | exact trivial | (refine And.intro ?_ ?_)))); (solve | exact .inl rfl | exact .inr rfl))) | fail | omega | exact decide_eq_true (by omega) | exact DLe.refl _)
  refine loopG tab_ok mixed (fun m e h => ∃ (k : Nat) (ents : List (List Int × Int)), k ≤ s.faces.length ∧ Cnt ents ((s.faces.take k).flatMap (·.addrs)) ∧ ((s.faces.take k).flatMap (·.addrs)).Nodup ∧ (∀ f ∈ s.faces.take k, faceB s.at_ f = true) ∧ m = s.faces.length - k ∧
    e = [(12, .d (.v (.int .i64 k))), (11, .d (.v (.int .i64 s.faces.length))), (10, .d (.sl 2 (s.faces.map encF))), (3, .mref 1), (2, .d (.v (.bool false))), (1, .ptr 0 0)] ∧ h = [.box 86 ((encN s).map .d), .mp 1 false ents]) _ _ _ ⟨0, [], Nat.zero_le _, cnt_nil, List.nodup_nil, fun f h => by simp at h, rfl, rfl, rfl⟩ (weak_forget _ (by simp) (by (try simp only [encN]); rfl) (by (repeat' (first | exact trivial | (refine ⟨rfl, ?_⟩)))) (by first | rfl | simp only [belowH, belowE, belowC, belowL, belowR, belowP, belowL_d, belowR_d, List.length_cons, List.length_nil, Nat.reduceAdd, Nat.reduceLT, decide_true, Bool.and_self, Bool.and_true]) (by first | rfl | simp only [belowH, belowE, belowC, belowL, belowR, belowP, belowL_d, belowR_d, List.length_cons, List.length_nil, Nat.reduceAdd, Nat.reduceLT, decide_true, Bool.and_self, Bool.and_true])) ?_
  rintro m e h ⟨k, ents, hk, hcnt, hnd, hall, hm, rfl, rfl⟩ C hC
  by_cases hlt : k < s.faces.length
  · have hkI : (k : Int) < (s.faces.length : Int) := by omega
    have hwr : IntKind.i64.wrap ((k : Int) + 1) = ((k + 1 : Nat) : Int) := by rw [IntKind.wrap_i64]; omega
    obtain ⟨f, hf⟩ : ∃ f, s.faces[k]? = some f := ⟨_, List.getElem?_eq_getElem hlt⟩
    have hfm := List.mem_of_getElem? hf
    have hid := vids_p f.id
    have hrf := rises_int f.addrs 86 (by have := h4 f hfm; omega) faces1_p
    have hfl := h4 f hfm
    have hbad : faceB s.at_ f = false → facesB s = false := fun h => by
      unfold facesB
      rw [Bool.and_eq_false_iff]
      left
      rw [List.all_eq_false]
      exact ⟨f, hfm, by rw [h]; simp⟩
    replace hbad := Lib.hid hbad
    replace hm := Lib.hid hm
    replace hcnt := Lib.hid hcnt
    replace hnd := Lib.hid hnd
    replace hall := Lib.hid hall
    have hfbd : faceB s.at_ f = (idOK f.id && (!((f.addrs.length : Int) == 0) && (risB (fun x => x) f.addrs && f.addrs.all (innB s.at_)))) := rfl
    replace hfbd := Lib.hid hfbd
    cases b1 : idOK f.id with
    | false =>
      rw [b1] at hid
      repeat' (first | (with_reducible refine And.intro ?_ ?_) | (with_reducible refine gK_i (fun _ => ?_) (fun _ => ?_)) | (with_reducible refine condS_i (fun _ => ?_) (fun _ => ?_)) | (with_reducible refine drw_i (by kernel_rfl)) | simp -dsimp only [go_sem, seval, *, encN, encF, hkI, hf, undef] | ((with_reducible refine opK_c ?_); simp -dsimp only [go_sem, seval, encN, encF, hkI, hf, undef]; first | refine callK_r (by first | assumption | exact hid) (by first | exact .inl rfl | exact .inr rfl) ?_ | (refine callK_i (by assumption) ?_ ?_ ?_; (solve | (repeat (first | exact DLe.refl _ | exact DLe.nil _ | (refine DLe.tup ?_) | (refine DLe.agg ?_ rfl) | exact trivial | (refine And.intro ?_ ?_)))); (solve | exact .inl rfl | exact .inr rfl))) | fail | omega | exact decide_eq_true (by omega) | exact DLe.refl _)
      all_goals (rw [hbad.out (by rw [hfbd.out, b1]; rfl)]; exact DLe.refl _)
    | true =>
    rw [b1] at hid
    cases b2 : (f.addrs.length : Int) == 0 with
    | true =>
      repeat' (first | (with_reducible refine And.intro ?_ ?_) | (with_reducible refine gK_i (fun _ => ?_) (fun _ => ?_)) | (with_reducible refine condS_i (fun _ => ?_) (fun _ => ?_)) | (with_reducible refine drw_i (by kernel_rfl)) | simp -dsimp only [go_sem, seval, *, encN, encF, hkI, hf, b2, undef] | ((with_reducible refine opK_c ?_); simp -dsimp only [go_sem, seval, encN, encF, hkI, hf, b2, undef]; first | refine callK_r (by first | assumption | exact hid) (by first | exact .inl rfl | exact .inr rfl) ?_ | (refine callK_i (by assumption) ?_ ?_ ?_; (solve | (repeat (first | exact DLe.refl _ | exact DLe.nil _ | (refine DLe.tup ?_) | (refine DLe.agg ?_ rfl) | exact trivial | (refine And.intro ?_ ?_)))); (solve | exact .inl rfl | exact .inr rfl))) | fail | omega | exact decide_eq_true (by omega) | exact DLe.refl _)
      all_goals (rw [hbad.out (by rw [hfbd.out, b1, b2]; rfl)]; exact DLe.refl _)
    | false =>
    cases b3 : risB (fun x => x) f.addrs with
    | false =>
      rw [b3] at hrf
      repeat' (first | (with_reducible refine And.intro ?_ ?_) | (with_reducible refine gK_i (fun _ => ?_) (fun _ => ?_)) | (with_reducible refine condS_i (fun _ => ?_) (fun _ => ?_)) | (with_reducible refine drw_i (by kernel_rfl)) | simp -dsimp only [go_sem, seval, *, encN, encF, hkI, hf, b2, undef] | ((with_reducible refine opK_c ?_); simp -dsimp only [go_sem, seval, encN, encF, hkI, hf, b2, undef]; first | refine callK_r (by first | assumption | exact hid | exact hrf) (by first | exact .inl rfl | exact .inr rfl) ?_ | (refine callK_i (by assumption) ?_ ?_ ?_; (solve | (repeat (first | exact DLe.refl _ | exact DLe.nil _ | (refine DLe.tup ?_) | (refine DLe.agg ?_ rfl) | exact trivial | (refine And.intro ?_ ?_)))); (solve | exact .inl rfl | exact .inr rfl))) | fail | omega | exact decide_eq_true (by omega) | exact DLe.refl _)
      all_goals (rw [hbad.out (by rw [hfbd.out, b1, b2, b3]; rfl)]; exact DLe.refl _)
    | true =>
    rw [b3] at hrf
    repeat' (first | (with_reducible refine And.intro ?_ ?_) | (with_reducible refine gK_i (fun _ => ?_) (fun _ => ?_)) | (with_reducible refine condS_i (fun _ => ?_) (fun _ => ?_)) | (with_reducible refine drw_i (by kernel_rfl)) | simp -dsimp only [go_sem, seval, *, encN, encF, hkI, hf, b2, undef] | ((with_reducible refine opK_c ?_); simp -dsimp only [go_sem, seval, encN, encF, hkI, hf, b2, undef]; first | refine callK_r (by first | assumption | exact hid | exact hrf) (by first | exact .inl rfl | exact .inr rfl) ?_ | (refine callK_i (by assumption) ?_ ?_ ?_; (solve | (repeat (first | exact DLe.refl _ | exact DLe.nil _ | (refine DLe.tup ?_) | (refine DLe.agg ?_ rfl) | exact trivial | (refine And.intro ?_ ?_)))); (solve | exact .inl rfl | exact .inr rfl))) | fail | omega | exact decide_eq_true (by omega) | exact DLe.refl _)
    refine loopG tab_ok mixed (fun m e h => ∃ (j : Nat) (ents : List (List Int × Int)), j ≤ f.addrs.length ∧ Cnt ents ((s.faces.take k).flatMap (·.addrs) ++ f.addrs.take j) ∧ ((s.faces.take k).flatMap (·.addrs) ++ f.addrs.take j).Nodup ∧ (∀ a ∈ f.addrs.take j, innB s.at_ a = true) ∧ m = f.addrs.length - j ∧
      e = [(35, .d (.v (.int .i64 j))), (34, .d (.v (.int .i64 f.addrs.length))), (33, .d (.sl 1 (f.addrs.map encA))), (12, .d (.v (.int .i64 k))), (11, .d (.v (.int .i64 s.faces.length))), (10, .d (.sl 2 (s.faces.map encF))), (3, .mref 1), (2, .d (.v (.bool false))), (1, .ptr 0 0)] ∧ h = [.box 86 ((encN s).map .d), .mp 1 false ents]) _ _ _ ⟨0, ents, Nat.zero_le _, by simpa using hcnt.out, by simpa using hnd.out, fun f h => by simp at h, rfl, rfl, rfl⟩ (weak_forget _ (by simp) (by (try simp only [encN]); rfl) (by (repeat' (first | exact trivial | (refine ⟨rfl, ?_⟩)))) (by first | rfl | simp only [belowH, belowE, belowC, belowL, belowR, belowP, belowL_d, belowR_d, List.length_cons, List.length_nil, Nat.reduceAdd, Nat.reduceLT, decide_true, Bool.and_self, Bool.and_true]) (by first | rfl | simp only [belowH, belowE, belowC, belowL, belowR, belowP, belowL_d, belowR_d, List.length_cons, List.length_nil, Nat.reduceAdd, Nat.reduceLT, decide_true, Bool.and_self, Bool.and_true])) ?_
    rintro m2 e h ⟨j, en2, hj, hcnt2, hnd2, hall2, hm2, rfl, rfl⟩ C2 hC2
    by_cases hlj : j < f.addrs.length
    · have hjI : (j : Int) < (f.addrs.length : Int) := by omega
      have hwj : IntKind.i64.wrap ((j : Int) + 1) = ((j + 1 : Nat) : Int) := by rw [IntKind.wrap_i64]; omega
      obtain ⟨a, ha⟩ : ∃ a, f.addrs[j]? = some a := ⟨_, List.getElem?_eq_getElem hlj⟩
      have ham := List.mem_of_getElem? ha
      have hin := inner_p s.at_ a
      have hca := hcnt2 a
      have htk : f.addrs.take (j + 1) = f.addrs.take j ++ [a] := take_snoc ha
      replace htk := Lib.hid htk
      replace hm2 := Lib.hid hm2
      replace hall2 := Lib.hid hall2
      replace hnd2 := Lib.hid hnd2
      by_cases hd : a ∈ (s.faces.take k).flatMap (·.addrs) ++ f.addrs.take j
      · rw [if_pos hd] at hca
        have hr : facesB s = false := by
          have : ¬ (s.faces.flatMap (·.addrs)).Nodup := by
            intro hn
            have hsub : ((s.faces.take k).flatMap (·.addrs) ++ f.addrs.take (j + 1)).Sublist (s.faces.flatMap (·.addrs)) := by
              conv => rhs; rw [← List.take_append_drop k s.faces, drop_get hf, List.flatMap_append, List.flatMap_cons]
              exact List.Sublist.append (List.Sublist.refl _) ((List.take_sublist _ _).trans (List.sublist_append_left _ _))
            have := hsub.nodup hn
            rw [htk.out, ← List.append_assoc, nodup_snoc] at this
            exact this.2 hd
          unfold facesB
          simp [this]
        have hup : lkE (upE en2 [a] 2) [a] = some 2 := by rw [lkE_up, if_pos rfl]
        replace hcnt2 := Lib.hid hcnt2
        have hw2 : IntKind.i64.wrap 2 = 2 := by decide
        have hgt : decide ((2 : Int) > 1) = true := rfl
        repeat' (first | (with_reducible refine And.intro ?_ ?_) | (with_reducible refine gK_i (fun _ => ?_) (fun _ => ?_)) | (with_reducible refine condS_i (fun _ => ?_) (fun _ => ?_)) | (with_reducible refine drw_i (by kernel_rfl)) | simp -dsimp only [go_sem, seval, *, encN, encA, hjI, ha, hca, hup, hw2, hgt, undef] | ((with_reducible refine opK_c ?_); simp -dsimp only [go_sem, seval, encN, encA, hjI, ha, hca, hup, hw2, hgt, undef]; first | refine callK_r (by first | assumption | exact hin) (by first | exact .inl rfl | exact .inr rfl) ?_ | (refine callK_i (by assumption) ?_ ?_ ?_; (solve | (repeat (first | exact DLe.refl _ | exact DLe.nil _ | (refine DLe.tup ?_) | (refine DLe.agg ?_ rfl) | exact trivial | (refine And.intro ?_ ?_)))); (solve | exact .inl rfl | exact .inr rfl))) | fail | omega | exact decide_eq_true (by omega) | exact DLe.refl _)
        all_goals (rw [hr]; exact DLe.refl _)
      · rw [if_neg hd] at hca
        have hup : lkE (upE en2 [a] 1) [a] = some 1 := by rw [lkE_up, if_pos rfl]
        have hcs := cnt_snoc hcnt2 hd
        replace hcnt2 := Lib.hid hcnt2
        replace hcs := Lib.hid hcs
        have hw2 : IntKind.i64.wrap 1 = 1 := by decide
        have hgt : decide ((1 : Int) > 1) = false := rfl
        cases b4 : innB s.at_ a with
        | false =>
          rw [b4] at hin
          have hr : facesB s = false := hbad.out (by
            rw [hfbd.out, b1, b2, b3]
            have : f.addrs.all (innB s.at_) = false := by rw [List.all_eq_false]; exact ⟨a, ham, by rw [b4]; simp⟩
            rw [this]; rfl)
          repeat' (first | (with_reducible refine And.intro ?_ ?_) | (with_reducible refine gK_i (fun _ => ?_) (fun _ => ?_)) | (with_reducible refine condS_i (fun _ => ?_) (fun _ => ?_)) | (with_reducible refine drw_i (by kernel_rfl)) | simp -dsimp only [go_sem, seval, *, encN, encA, hjI, ha, hca, hup, hw2, hgt, undef] | ((with_reducible refine opK_c ?_); simp -dsimp only [go_sem, seval, encN, encA, hjI, ha, hca, hup, hw2, hgt, undef]; first | refine callK_r (by first | assumption | exact hin) (by first | exact .inl rfl | exact .inr rfl) ?_ | (refine callK_i (by assumption) ?_ ?_ ?_; (solve | (repeat (first | exact DLe.refl _ | exact DLe.nil _ | (refine DLe.tup ?_) | (refine DLe.agg ?_ rfl) | exact trivial | (refine And.intro ?_ ?_)))); (solve | exact .inl rfl | exact .inr rfl))) | fail | omega | exact decide_eq_true (by omega) | exact DLe.refl _)
          all_goals (rw [hr]; exact DLe.refl _)
        | true =>
          rw [b4] at hin
          repeat' (first | (with_reducible refine And.intro ?_ ?_) | (with_reducible refine gK_i (fun _ => ?_) (fun _ => ?_)) | (with_reducible refine condS_i (fun _ => ?_) (fun _ => ?_)) | (with_reducible refine drw_i (by kernel_rfl)) | simp -dsimp only [go_sem, seval, *, encN, encA, hjI, hwj, ha, hca, hup, hw2, hgt, undef] | ((with_reducible refine opK_c ?_); simp -dsimp only [go_sem, seval, encN, encA, hjI, hwj, ha, hca, hup, hw2, hgt, undef]; first | refine callK_r (by first | assumption | exact hin) (by first | exact .inl rfl | exact .inr rfl) ?_ | (refine callK_i (by assumption) ?_ ?_ ?_; (solve | (repeat (first | exact DLe.refl _ | exact DLe.nil _ | (refine DLe.tup ?_) | (refine DLe.agg ?_ rfl) | exact trivial | (refine And.intro ?_ ?_)))); (solve | exact .inl rfl | exact .inr rfl))) | fail | omega | exact decide_eq_true (by omega) | exact DLe.refl _)
          refine hC2 _ _ _ _ _ ?_ ⟨j + 1, upE en2 [a] 1, hlj, ?_, ?_, ?_, rfl, rfl, rfl⟩ (weak_forget _ (by simp) (by (try simp only [encN]); rfl) (by (repeat' (first | exact trivial | (refine ⟨rfl, ?_⟩)))) (by first | rfl | simp only [belowH, belowE, belowC, belowL, belowR, belowP, belowL_d, belowR_d, List.length_cons, List.length_nil, Nat.reduceAdd, Nat.reduceLT, decide_true, Bool.and_self, Bool.and_true]) (by first | rfl | simp only [belowH, belowE, belowC, belowL, belowR, belowP, belowL_d, belowR_d, List.length_cons, List.length_nil, Nat.reduceAdd, Nat.reduceLT, decide_true, Bool.and_self, Bool.and_true]))
          · have := hm2.out; omega
          · rw [htk.out, ← List.append_assoc]; exact hcs.out
          · rw [htk.out, ← List.append_assoc, nodup_snoc]; exact ⟨hnd2.out, hd⟩
          · intro b hb
            rw [htk.out] at hb
            rcases List.mem_append.1 hb with hb | hb
            · exact hall2.out b hb
            · rw [List.mem_singleton.1 hb]; exact b4
    · obtain rfl : j = f.addrs.length := by omega
      rw [List.take_length] at hcnt2 hnd2 hall2
      have hfl2 : (s.faces.take (k + 1)).flatMap (·.addrs) = (s.faces.take k).flatMap (·.addrs) ++ f.addrs := by rw [take_snoc hf, List.flatMap_append]; simp
      replace hm2 := Lib.hid hm2
      replace hcnt2 := Lib.hid hcnt2
      replace hnd2 := Lib.hid hnd2
      replace hall2 := Lib.hid hall2
      replace hfl2 := Lib.hid hfl2
      repeat' (first | (with_reducible refine And.intro ?_ ?_) | (with_reducible refine gK_i (fun _ => ?_) (fun _ => ?_)) | (with_reducible refine condS_i (fun _ => ?_) (fun _ => ?_)) | (with_reducible refine drw_i (by kernel_rfl)) | simp -dsimp only [go_sem, seval, *, encN, hwr, Int.lt_irrefl, undef] | ((with_reducible refine opK_c ?_); simp -dsimp only [go_sem, seval, encN, hwr, Int.lt_irrefl, undef]; first | refine callK_r (by first | assumption | fail) (by first | exact .inl rfl | exact .inr rfl) ?_ | (refine callK_i (by assumption) ?_ ?_ ?_; (solve | (repeat (first | exact DLe.refl _ | exact DLe.nil _ | (refine DLe.tup ?_) | (refine DLe.agg ?_ rfl) | exact trivial | (refine And.intro ?_ ?_)))); (solve | exact .inl rfl | exact .inr rfl))) | fail | omega | exact decide_eq_true (by omega) | exact DLe.refl _)
      refine hC _ _ _ _ _ ?_ ⟨k + 1, en2, hlt, ?_, ?_, ?_, rfl, rfl, rfl⟩ (weak_forget _ (by simp) (by (try simp only [encN]); rfl) (by (repeat' (first | exact trivial | (refine ⟨rfl, ?_⟩)))) (by first | rfl | simp only [belowH, belowE, belowC, belowL, belowR, belowP, belowL_d, belowR_d, List.length_cons, List.length_nil, Nat.reduceAdd, Nat.reduceLT, decide_true, Bool.and_self, Bool.and_true]) (by first | rfl | simp only [belowH, belowE, belowC, belowL, belowR, belowP, belowL_d, belowR_d, List.length_cons, List.length_nil, Nat.reduceAdd, Nat.reduceLT, decide_true, Bool.and_self, Bool.and_true]))
      · have := hm.out; omega
      · rw [hfl2.out]; exact hcnt2.out
      · rw [hfl2.out]; exact hnd2.out
      · intro g hg
        rw [take_snoc hf] at hg
        rcases List.mem_append.1 hg with hg | hg
        · exact hall.out g hg
        · rw [List.mem_singleton.1 hg, hfbd.out, b1, b2, b3]
          simp only [Bool.true_and, Bool.not_false]
          exact List.all_eq_true.2 hall2.out
  · obtain rfl : k = s.faces.length := by omega
    rw [List.take_length] at hcnt hnd hall
    have hr : facesB s = risB (·.id) s.faces := by
      unfold facesB
      rw [List.all_eq_true.2 hall]
      simp [hnd]
    replace hr := Lib.hid hr
    replace hcnt := Lib.hid hcnt
    replace hnd := Lib.hid hnd
    replace hall := Lib.hid hall
    replace hm := Lib.hid hm
    repeat' (first | (with_reducible refine And.intro ?_ ?_) | (with_reducible refine gK_i (fun _ => ?_) (fun _ => ?_)) | (with_reducible refine condS_i (fun _ => ?_) (fun _ => ?_)) | (with_reducible refine drw_i (by kernel_rfl)) | simp -dsimp only [go_sem, seval, *, encN, Int.lt_irrefl, undef] | ((with_reducible refine opK_c ?_); simp -dsimp only [go_sem, seval, encN, Int.lt_irrefl, undef]; first | refine callK_r (by first | assumption | exact hri) (by first | exact .inl rfl | exact .inr rfl) ?_ | (refine callK_i (by assumption) ?_ ?_ ?_; (solve | (repeat (first | exact DLe.refl _ | exact DLe.nil _ | (refine DLe.tup ?_) | (refine DLe.agg ?_ rfl) | exact trivial | (refine And.intro ?_ ?_)))); (solve | exact .inl rfl | exact .inr rfl))) | fail | omega | exact decide_eq_true (by omega) | exact DLe.refl _)
    all_goals (rw [hr.out]; exact DLe.refl _)
/-- Is a network right? -/
def rangeB (r : Rng) : Bool := idOK r.pool && (chk r.at_.at_ r.at_.len == 0)
def subB (v : Vpc) (s : Sbn) : Bool := idOK s.id && (holdsV v s.at_ && facesB s)
def fineV (v : Vpc) : Bool := (idOK v.id && (risB (·.at_.at_) v.ranges && risB (·.id) v.subs)) && (v.ranges.all rangeB && v.subs.all (subB v))
def chkV (v : Vpc) : Int := if manyV v then 2 else if fineV v && (apaF [] (v.ranges.map (·.at_)) && apaF [] (v.subs.map (·.at_))) then 0 else 1
theorem vcheck1_p (r : Rng) : PSpec Try.prog 65 [.agg (encG r)] (.v (.int .i64 r.at_.at_)) := by
  refine ps_i tab_ok mixed Try.func65 rfl Try.ntmps65 Try.results65 (by kernel_rfl) ?_
  repeat' (first | (with_reducible refine And.intro ?_ ?_) | (with_reducible refine gK_i (fun _ => ?_) (fun _ => ?_)) | (with_reducible refine condS_i (fun _ => ?_) (fun _ => ?_)) | (with_reducible refine drw_i (by kernel_rfl)) | simp -dsimp only [go_sem, seval, *, encG] | ((with_reducible refine opK_c ?_); simp -dsimp only [go_sem, seval, encG]; first | refine callK_r (by first | assumption | fail) (by first | exact .inl rfl | exact .inr rfl) ?_ | (refine callK_i (by assumption) ?_ ?_ ?_; (solve | (repeat (first | exact DLe.refl _ | exact DLe.nil _ | (refine DLe.tup ?_) | (refine DLe.agg ?_ rfl) | exact trivial | (refine And.intro ?_ ?_)))); (solve | exact .inl rfl | exact .inr rfl))) | fail | omega | exact decide_eq_true (by omega) | exact DLe.refl _)
theorem vcheck2_p (s : Sbn) : PSpec Try.prog 67 [.agg (encN s)] (.v (.int .i64 s.id)) := by
  refine ps_i tab_ok mixed Try.func67 rfl Try.ntmps67 Try.results67 (by kernel_rfl) ?_
  repeat' (first | (with_reducible refine And.intro ?_ ?_) | (with_reducible refine gK_i (fun _ => ?_) (fun _ => ?_)) | (with_reducible refine condS_i (fun _ => ?_) (fun _ => ?_)) | (with_reducible refine drw_i (by kernel_rfl)) | simp -dsimp only [go_sem, seval, *, encN] | ((with_reducible refine opK_c ?_); simp -dsimp only [go_sem, seval, encN]; first | refine callK_r (by first | assumption | fail) (by first | exact .inl rfl | exact .inr rfl) ?_ | (refine callK_i (by assumption) ?_ ?_ ?_; (solve | (repeat (first | exact DLe.refl _ | exact DLe.nil _ | (refine DLe.tup ?_) | (refine DLe.agg ?_ rfl) | exact trivial | (refine And.intro ?_ ?_)))); (solve | exact .inl rfl | exact .inr rfl))) | fail | omega | exact decide_eq_true (by omega) | exact DLe.refl _)
theorem all_snoc {α : Type} {p : α → Bool} {l : List α} {k : Nat} {x : α} (h : l[k]? = some x) : (l.take (k + 1)).all p = ((l.take k).all p && p x) := by
  rw [take_snoc h, List.all_append]; simp
set_option maxRecDepth 100000 in
set_option maxHeartbeats 4000000 in
theorem vcheck_p (v : Vpc) : PSpec Try.prog 44 [.agg (encV v)] (.v (.int .i64 (chkV v))) := by
  have hmy := many_p v
  cases hm : manyV v with
  | true =>
    rw [hm] at hmy
    have hr : chkV v = 2 := by unfold chkV; rw [if_pos hm]
    rw [hr]
    refine ps_i tab_ok mixed Try.func44 rfl Try.ntmps44 Try.results44 (by kernel_rfl) ?_
    repeat' (first | (with_reducible refine And.intro ?_ ?_) | (with_reducible refine gK_i (fun _ => ?_) (fun _ => ?_)) | (with_reducible refine condS_i (fun _ => ?_) (fun _ => ?_)) | (with_reducible refine drw_i (by kernel_rfl)) | simp -dsimp only [go_sem, seval, *, encV] | ((with_reducible refine opK_c ?_); simp -dsimp only [go_sem, seval, encV]; first | refine callK_r (by first | assumption | exact hmy) (by first | exact .inl rfl | exact .inr rfl) ?_ | (refine callK_i (by assumption) ?_ ?_ ?_; (solve | (repeat (first | exact DLe.refl _ | exact DLe.nil _ | (refine DLe.tup ?_) | (refine DLe.agg ?_ rfl) | exact trivial | (refine And.intro ?_ ?_)))); (solve | exact .inl rfl | exact .inr rfl))) | fail | omega | exact decide_eq_true (by omega) | exact DLe.refl _)
  | false =>
  obtain ⟨h4, h6, h8⟩ := manyV_ok hm
  rw [hm] at hmy
  have hid := vids_p v.id
  have hr1 := rises_Range encG_len (fun r : Rng => r.at_.at_) v.ranges 65 (by omega) (fun r _ => vcheck1_p r)
  have hr2 := rises_Sub encN_len (fun s : Sbn => s.id) v.subs 67 (by omega) (fun r _ => vcheck2_p r)
  obtain ⟨F0, hF0⟩ : ∃ F0, F0 = (idOK v.id && (risB (·.at_.at_) v.ranges && risB (·.id) v.subs)) := ⟨_, rfl⟩
  have hap1 := apart_p (v.ranges.map (·.at_)) (by rw [List.length_map]; omega)
  have hap2 := apart_p (v.subs.map (·.at_)) (by rw [List.length_map]; omega)
  have hres : chkV v = if (F0 && v.ranges.all rangeB && v.subs.all (subB v)) && (apaF [] (v.ranges.map (·.at_)) && apaF [] (v.subs.map (·.at_))) then 0 else 1 := by
    unfold chkV fineV
    rw [if_neg (by simp [hm]), hF0]
    simp only [Bool.and_assoc]
  rw [hres]
  replace hres := Lib.hid hres
  replace h8 := Lib.hid h8
  replace hm := Lib.hid hm
  replace hmy := Lib.hid hmy
  cases b1 : idOK v.id with
  | false =>
    rw [b1, Bool.false_and] at hF0
    subst hF0
    rw [b1] at hid
    refine ps_i tab_ok mixed Try.func44 rfl Try.ntmps44 Try.results44 (by kernel_rfl) ?_
    repeat' (first | (with_reducible refine And.intro ?_ ?_) | (with_reducible refine gK_i (fun _ => ?_) (fun _ => ?_)) | (with_reducible refine condS_i (fun _ => ?_) (fun _ => ?_)) | (with_reducible refine drw_i (by kernel_rfl)) | simp -dsimp only [go_sem, seval, *, encV, hmy.out, undef] | ((with_reducible refine opK_c ?_); simp -dsimp only [go_sem, seval, encV, hmy.out, undef]; first | refine callK_r (by first | assumption | exact hmy.out | exact hid) (by first | exact .inl rfl | exact .inr rfl) ?_ | (refine callK_i (by assumption) ?_ ?_ ?_; (solve | (repeat (first | exact DLe.refl _ | exact DLe.nil _ | (refine DLe.tup ?_) | (refine DLe.agg ?_ rfl) | exact trivial | (refine And.intro ?_ ?_)))); (solve | exact .inl rfl | exact .inr rfl))) | fail | omega | exact decide_eq_true (by omega) | exact DLe.refl _)
    refine loopG tab_ok mixed (fun m e h => ∃ (k g : Nat) (X : Bool), k ≤ v.ranges.length ∧ X = (false && (v.ranges.take k).all rangeB) ∧ m = v.ranges.length - k ∧ e = [(28, .d (.v (.int .i64 k))), (27, .d (.v (.int .i64 v.ranges.length))), (26, .d (.sl 3 (v.ranges.map encG))), (5, .d (.v (.bool X))), (4, .d (.v (.slice none 0 0))), (3, .own 1 g), (2, .d (.v (.int .i64 0))), (1, .ptr 0 0)] ∧
      h = [.box 47 ((encV v).map .d), .row 34 2 g (dRows (((v.ranges.take k).map (·.at_)).map encP))]) _ _ _ ⟨0, 0, false, Nat.zero_le _, by simp, rfl, rfl, rfl⟩ ((weak_adopt (Nat.zero_le _) 3 34 2 rfl).trans (weak_forget _ (by simp) (by (try simp only [encV]); rfl) (by (repeat' (first | exact trivial | (refine ⟨rfl, ?_⟩)))) (by first | rfl | simp only [belowH, belowE, belowC, belowL, belowR, belowP, belowL_d, belowR_d, List.length_cons, List.length_nil, Nat.reduceAdd, Nat.reduceLT, decide_true, Bool.and_self, Bool.and_true]) (by first | rfl | simp only [belowH, belowE, belowC, belowL, belowR, belowP, belowL_d, belowR_d, List.length_cons, List.length_nil, Nat.reduceAdd, Nat.reduceLT, decide_true, Bool.and_self, Bool.and_true]))) ?_
    rintro m e h ⟨k, g, X, hk, hX, hm0, rfl, rfl⟩ C hC
    by_cases hlt : k < v.ranges.length
    · have hkI : (k : Int) < (v.ranges.length : Int) := by omega
      have hwr : IntKind.i64.wrap ((k : Int) + 1) = ((k + 1 : Nat) : Int) := by rw [IntKind.wrap_i64]; omega
      obtain ⟨r, hr⟩ : ∃ r, v.ranges[k]? = some r := ⟨_, List.getElem?_eq_getElem hlt⟩
      have hrp := vids_p r.pool
      have hrc := check_p r.at_
      have hlk : (List.take k v.ranges).length = k := by rw [List.length_take]; omega
      have hbnd : (k + 1) * 16 ≤ 140737488355328 := by omega
      have hal := all_snoc (p := rangeB) hr
      have hrb : rangeB r = (idOK r.pool && (chk r.at_.at_ r.at_.len == 0)) := rfl
      generalize chk r.at_.at_ r.at_.len = K at *
      generalize idOK r.pool = I at *
      replace hX := Lib.hid hX
      replace hal := Lib.hid hal
      replace hrb := Lib.hid hrb
      replace hm0 := Lib.hid hm0
      replace hr := Lib.hid hr
      have hr1' := hr.out
      repeat' (first | (with_reducible refine And.intro ?_ ?_) | (with_reducible refine gK_i (fun _ => ?_) (fun _ => ?_)) | (with_reducible refine condS_i (fun _ => ?_) (fun _ => ?_)) | (with_reducible refine drw_i (by kernel_rfl)) | simp -dsimp only [go_sem, seval, *, encV, encG, encP, hkI, hwr, hr1', hlk, hbnd, undef] | ((with_reducible refine opK_c ?_); simp -dsimp only [go_sem, seval, encV, encG, encP, hkI, hwr, hr1', hlk, hbnd, undef]; first | refine callK_r (by first | assumption | exact hrp | exact hrc) (by first | exact .inl rfl | exact .inr rfl) ?_ | (refine callK_i (by assumption) ?_ ?_ ?_; (solve | (repeat (first | exact DLe.refl _ | exact DLe.nil _ | (refine DLe.tup ?_) | (refine DLe.agg ?_ rfl) | exact trivial | (refine And.intro ?_ ?_)))); (solve | exact .inl rfl | exact .inr rfl))) | fail | omega | exact decide_eq_true (by omega) | exact DLe.refl _)
      all_goals (refine hC _ _ _ _ _ ?_ ⟨k + 1, g + 1, _, hlt, ?_, rfl, rfl, rfl⟩ (weak_forget _ (by simp) (by rw [take_snoc hr.out]; simp only [encV, List.map_append, List.map_cons, List.map_nil, encP, ← dRows_app]; rfl) (by (repeat' (first | exact trivial | (refine ⟨rfl, ?_⟩)))) (by first | rfl | simp only [belowH, belowE, belowC, belowL, belowR, belowP, belowL_d, belowR_d, List.length_cons, List.length_nil, Nat.reduceAdd, Nat.reduceLT, decide_true, Bool.and_self, Bool.and_true]) (by first | rfl | simp only [belowH, belowE, belowC, belowL, belowR, belowP, belowL_d, belowR_d, List.length_cons, List.length_nil, Nat.reduceAdd, Nat.reduceLT, decide_true, Bool.and_self, Bool.and_true])))
      all_goals first
        | (have := hm0.out; omega)
        | (have h1 := hX.out; have h2 := hal.out; have h3 := hrb.out; clear hap1 hap2 hr1 hr2 hid hrp hrc hC hmy; grind)
    · obtain rfl : k = v.ranges.length := by omega
      rw [List.take_length] at hX ⊢
      replace hX := Lib.hid hX
      replace hm0 := Lib.hid hm0
      repeat' (first | (with_reducible refine And.intro ?_ ?_) | (with_reducible refine gK_i (fun _ => ?_) (fun _ => ?_)) | (with_reducible refine condS_i (fun _ => ?_) (fun _ => ?_)) | (with_reducible refine drw_i (by kernel_rfl)) | simp -dsimp only [go_sem, seval, *, encV, Int.lt_irrefl] | ((with_reducible refine opK_c ?_); simp -dsimp only [go_sem, seval, encV, Int.lt_irrefl]; first | refine callK_r (by first | assumption | fail) (by first | exact .inl rfl | exact .inr rfl) ?_ | (refine callK_i (by assumption) ?_ ?_ ?_; (solve | (repeat (first | exact DLe.refl _ | exact DLe.nil _ | (refine DLe.tup ?_) | (refine DLe.agg ?_ rfl) | exact trivial | (refine And.intro ?_ ?_)))); (solve | exact .inl rfl | exact .inr rfl))) | fail | omega | exact decide_eq_true (by omega) | exact DLe.refl _)
      refine loopG tab_ok mixed (fun m e h => ∃ (k g2 : Nat) (Y : Bool), k ≤ v.subs.length ∧ Y = (X && (v.subs.take k).all (subB v)) ∧ m = v.subs.length - k ∧ e = [(53, .d (.v (.int .i64 k))), (52, .d (.v (.int .i64 v.subs.length))), (51, .d (.sl 4 (v.subs.map encN))), (5, .d (.v (.bool Y))), (4, .own 2 g2), (3, .own 1 g), (2, .d (.v (.int .i64 0))), (1, .ptr 0 0)] ∧
        h = [.box 47 ((encV v).map .d), .row 34 2 g (dRows ((v.ranges.map (·.at_)).map encP)), .row 34 2 g2 (dRows (((v.subs.take k).map (·.at_)).map encP))]) _ _ _ ⟨0, 0, X, Nat.zero_le _, by simp, rfl, rfl, rfl⟩ ((weak_adopt (Nat.zero_le _) 4 34 2 rfl).trans (weak_forget _ (by simp) (by (try simp only [encV]); rfl) (by (repeat' (first | exact trivial | (refine ⟨rfl, ?_⟩)))) (by first | rfl | simp only [belowH, belowE, belowC, belowL, belowR, belowP, belowL_d, belowR_d, List.length_cons, List.length_nil, Nat.reduceAdd, Nat.reduceLT, decide_true, Bool.and_self, Bool.and_true]) (by first | rfl | simp only [belowH, belowE, belowC, belowL, belowR, belowP, belowL_d, belowR_d, List.length_cons, List.length_nil, Nat.reduceAdd, Nat.reduceLT, decide_true, Bool.and_self, Bool.and_true]))) ?_
      rintro m2 e h ⟨k, g2, Y, hk2, hY, hm2, rfl, rfl⟩ C hC
      by_cases hlt : k < v.subs.length
      · have hkI : (k : Int) < (v.subs.length : Int) := by omega
        have hwr : IntKind.i64.wrap ((k : Int) + 1) = ((k + 1 : Nat) : Int) := by rw [IntKind.wrap_i64]; omega
        obtain ⟨s, hs⟩ : ∃ s, v.subs[k]? = some s := ⟨_, List.getElem?_eq_getElem hlt⟩
        have hsm := List.mem_of_getElem? hs
        have hsi := vids_p s.id
        have hsh := vholds_p v s.at_ (by omega)
        have hsf := faces_p s (h8.out s hsm).1 (h8.out s hsm).2
        have hlk : (List.take k v.subs).length = k := by rw [List.length_take]; omega
        have hbnd : (k + 1) * 16 ≤ 140737488355328 := by omega
        have hal := all_snoc (p := subB v) hs
        have hsb : subB v s = (idOK s.id && (holdsV v s.at_ && facesB s)) := rfl
        generalize holdsV v s.at_ = H at *
        generalize idOK s.id = I at *
        generalize facesB s = F at *
        replace hY := Lib.hid hY
        replace hal := Lib.hid hal
        replace hsb := Lib.hid hsb
        replace hm2 := Lib.hid hm2
        replace hs := Lib.hid hs
        have hs1' := hs.out
        repeat' (first | (with_reducible refine And.intro ?_ ?_) | (with_reducible refine gK_i (fun _ => ?_) (fun _ => ?_)) | (with_reducible refine condS_i (fun _ => ?_) (fun _ => ?_)) | (with_reducible refine drw_i (by kernel_rfl)) | simp -dsimp only [go_sem, seval, *, encV, encN, encP, hkI, hwr, hs1', hlk, hbnd, undef] | ((with_reducible refine opK_c ?_); simp -dsimp only [go_sem, seval, encV, encN, encP, hkI, hwr, hs1', hlk, hbnd, undef]; first | refine callK_r (by first | assumption | exact hsi | exact hsh | exact hsf) (by first | exact .inl rfl | exact .inr rfl) ?_ | (refine callK_i (by assumption) ?_ ?_ ?_; (solve | (repeat (first | exact DLe.refl _ | exact DLe.nil _ | (refine DLe.tup ?_) | (refine DLe.agg ?_ rfl) | exact trivial | (refine And.intro ?_ ?_)))); (solve | exact .inl rfl | exact .inr rfl))) | fail | omega | exact decide_eq_true (by omega) | exact DLe.refl _)
        all_goals (refine hC _ _ _ _ _ ?_ ⟨k + 1, g2 + 1, _, hlt, ?_, rfl, rfl, rfl⟩ (weak_forget _ (by simp) (by rw [take_snoc hs.out]; simp only [encV, List.map_append, List.map_cons, List.map_nil, encP, ← dRows_app]; rfl) (by (repeat' (first | exact trivial | (refine ⟨rfl, ?_⟩)))) (by first | rfl | simp only [belowH, belowE, belowC, belowL, belowR, belowP, belowL_d, belowR_d, List.length_cons, List.length_nil, Nat.reduceAdd, Nat.reduceLT, decide_true, Bool.and_self, Bool.and_true]) (by first | rfl | simp only [belowH, belowE, belowC, belowL, belowR, belowP, belowL_d, belowR_d, List.length_cons, List.length_nil, Nat.reduceAdd, Nat.reduceLT, decide_true, Bool.and_self, Bool.and_true])))
        all_goals first
          | (have := hm2.out; omega)
          | (have h1 := hY.out; have h2 := hal.out; have h3 := hsb.out; clear hap1 hap2 hr1 hr2 hid hsi hsh hsf hC hmy; grind)
      · obtain rfl : k = v.subs.length := by omega
        rw [List.take_length] at hY ⊢
        replace hY := Lib.hid hY
        replace hm2 := Lib.hid hm2
        have ha1 : apaF [] (v.ranges.map (·.at_)) = apaF [] (v.ranges.map (·.at_)) := rfl
        generalize hA1 : apaF [] (v.ranges.map (·.at_)) = A1 at *
        generalize hA2 : apaF [] (v.subs.map (·.at_)) = A2 at *
        replace hA1 := Lib.hid hA1
        replace hA2 := Lib.hid hA2
        clear ha1
        repeat' (first | (with_reducible refine And.intro ?_ ?_) | (with_reducible refine gK_i (fun _ => ?_) (fun _ => ?_)) | (with_reducible refine condS_i (fun _ => ?_) (fun _ => ?_)) | (with_reducible refine drw_i (by kernel_rfl)) | simp -dsimp only [go_sem, seval, *, encV, Int.lt_irrefl, undef] | ((with_reducible refine opK_c ?_); simp -dsimp only [go_sem, seval, encV, Int.lt_irrefl, undef]; first | refine callK_r (by first | assumption | exact hap1 | exact hap2) (by first | exact .inl rfl | exact .inr rfl) ?_ | (refine callK_i (by assumption) ?_ ?_ ?_; (solve | (repeat (first | exact DLe.refl _ | exact DLe.nil _ | (refine DLe.tup ?_) | (refine DLe.agg ?_ rfl) | exact trivial | (refine And.intro ?_ ?_)))); (solve | exact .inl rfl | exact .inr rfl))) | fail | omega | exact decide_eq_true (by omega) | exact DLe.refl _)
        all_goals
          have h1 := hX.out
          have h2 := hY.out
          clear hap1 hap2 hr1 hr2 hid hC hmy
          first
            | exact DLe.refl _
            | (rw [if_pos (by grind)]; exact DLe.refl _)
            | (rw [if_neg (by grind)]; exact DLe.refl _)
            | (exfalso; grind)
  | true =>
    rw [b1] at hid
    cases b2 : risB (fun r : Rng => r.at_.at_) v.ranges with
    | false =>
      rw [b1, b2, Bool.false_and, Bool.and_false] at hF0
      subst hF0
      rw [b2] at hr1
      refine ps_i tab_ok mixed Try.func44 rfl Try.ntmps44 Try.results44 (by kernel_rfl) ?_
      repeat' (first | (with_reducible refine And.intro ?_ ?_) | (with_reducible refine gK_i (fun _ => ?_) (fun _ => ?_)) | (with_reducible refine condS_i (fun _ => ?_) (fun _ => ?_)) | (with_reducible refine drw_i (by kernel_rfl)) | simp -dsimp only [go_sem, seval, *, encV, undef] | ((with_reducible refine opK_c ?_); simp -dsimp only [go_sem, seval, encV, undef]; first | refine callK_r (by first | assumption | exact hmy.out | exact hid | exact hr1) (by first | exact .inl rfl | exact .inr rfl) ?_ | (refine callK_i (by assumption) ?_ ?_ ?_; (solve | (repeat (first | exact DLe.refl _ | exact DLe.nil _ | (refine DLe.tup ?_) | (refine DLe.agg ?_ rfl) | exact trivial | (refine And.intro ?_ ?_)))); (solve | exact .inl rfl | exact .inr rfl))) | fail | omega | exact decide_eq_true (by omega) | exact DLe.refl _)
      refine loopG tab_ok mixed (fun m e h => ∃ (k g : Nat) (X : Bool), k ≤ v.ranges.length ∧ X = (false && (v.ranges.take k).all rangeB) ∧ m = v.ranges.length - k ∧ e = [(28, .d (.v (.int .i64 k))), (27, .d (.v (.int .i64 v.ranges.length))), (26, .d (.sl 3 (v.ranges.map encG))), (5, .d (.v (.bool X))), (4, .d (.v (.slice none 0 0))), (3, .own 1 g), (2, .d (.v (.int .i64 0))), (1, .ptr 0 0)] ∧
        h = [.box 47 ((encV v).map .d), .row 34 2 g (dRows (((v.ranges.take k).map (·.at_)).map encP))]) _ _ _ ⟨0, 0, false, Nat.zero_le _, by simp, rfl, rfl, rfl⟩ ((weak_adopt (Nat.zero_le _) 3 34 2 rfl).trans (weak_forget _ (by simp) (by (try simp only [encV]); rfl) (by (repeat' (first | exact trivial | (refine ⟨rfl, ?_⟩)))) (by first | rfl | simp only [belowH, belowE, belowC, belowL, belowR, belowP, belowL_d, belowR_d, List.length_cons, List.length_nil, Nat.reduceAdd, Nat.reduceLT, decide_true, Bool.and_self, Bool.and_true]) (by first | rfl | simp only [belowH, belowE, belowC, belowL, belowR, belowP, belowL_d, belowR_d, List.length_cons, List.length_nil, Nat.reduceAdd, Nat.reduceLT, decide_true, Bool.and_self, Bool.and_true]))) ?_
      rintro m e h ⟨k, g, X, hk, hX, hm0, rfl, rfl⟩ C hC
      by_cases hlt : k < v.ranges.length
      · have hkI : (k : Int) < (v.ranges.length : Int) := by omega
        have hwr : IntKind.i64.wrap ((k : Int) + 1) = ((k + 1 : Nat) : Int) := by rw [IntKind.wrap_i64]; omega
        obtain ⟨r, hr⟩ : ∃ r, v.ranges[k]? = some r := ⟨_, List.getElem?_eq_getElem hlt⟩
        have hrp := vids_p r.pool
        have hrc := check_p r.at_
        have hlk : (List.take k v.ranges).length = k := by rw [List.length_take]; omega
        have hbnd : (k + 1) * 16 ≤ 140737488355328 := by omega
        have hal := all_snoc (p := rangeB) hr
        have hrb : rangeB r = (idOK r.pool && (chk r.at_.at_ r.at_.len == 0)) := rfl
        generalize chk r.at_.at_ r.at_.len = K at *
        generalize idOK r.pool = I at *
        replace hX := Lib.hid hX
        replace hal := Lib.hid hal
        replace hrb := Lib.hid hrb
        replace hm0 := Lib.hid hm0
        replace hr := Lib.hid hr
        have hr1' := hr.out
        repeat' (first | (with_reducible refine And.intro ?_ ?_) | (with_reducible refine gK_i (fun _ => ?_) (fun _ => ?_)) | (with_reducible refine condS_i (fun _ => ?_) (fun _ => ?_)) | (with_reducible refine drw_i (by kernel_rfl)) | simp -dsimp only [go_sem, seval, *, encV, encG, encP, hkI, hwr, hr1', hlk, hbnd, undef] | ((with_reducible refine opK_c ?_); simp -dsimp only [go_sem, seval, encV, encG, encP, hkI, hwr, hr1', hlk, hbnd, undef]; first | refine callK_r (by first | assumption | exact hrp | exact hrc) (by first | exact .inl rfl | exact .inr rfl) ?_ | (refine callK_i (by assumption) ?_ ?_ ?_; (solve | (repeat (first | exact DLe.refl _ | exact DLe.nil _ | (refine DLe.tup ?_) | (refine DLe.agg ?_ rfl) | exact trivial | (refine And.intro ?_ ?_)))); (solve | exact .inl rfl | exact .inr rfl))) | fail | omega | exact decide_eq_true (by omega) | exact DLe.refl _)
        all_goals (refine hC _ _ _ _ _ ?_ ⟨k + 1, g + 1, _, hlt, ?_, rfl, rfl, rfl⟩ (weak_forget _ (by simp) (by rw [take_snoc hr.out]; simp only [encV, List.map_append, List.map_cons, List.map_nil, encP, ← dRows_app]; rfl) (by (repeat' (first | exact trivial | (refine ⟨rfl, ?_⟩)))) (by first | rfl | simp only [belowH, belowE, belowC, belowL, belowR, belowP, belowL_d, belowR_d, List.length_cons, List.length_nil, Nat.reduceAdd, Nat.reduceLT, decide_true, Bool.and_self, Bool.and_true]) (by first | rfl | simp only [belowH, belowE, belowC, belowL, belowR, belowP, belowL_d, belowR_d, List.length_cons, List.length_nil, Nat.reduceAdd, Nat.reduceLT, decide_true, Bool.and_self, Bool.and_true])))
        all_goals first
          | (have := hm0.out; omega)
          | (have h1 := hX.out; have h2 := hal.out; have h3 := hrb.out; clear hap1 hap2 hr1 hr2 hid hrp hrc hC hmy; grind)
      · obtain rfl : k = v.ranges.length := by omega
        rw [List.take_length] at hX ⊢
        replace hX := Lib.hid hX
        replace hm0 := Lib.hid hm0
        repeat' (first | (with_reducible refine And.intro ?_ ?_) | (with_reducible refine gK_i (fun _ => ?_) (fun _ => ?_)) | (with_reducible refine condS_i (fun _ => ?_) (fun _ => ?_)) | (with_reducible refine drw_i (by kernel_rfl)) | simp -dsimp only [go_sem, seval, *, encV, Int.lt_irrefl] | ((with_reducible refine opK_c ?_); simp -dsimp only [go_sem, seval, encV, Int.lt_irrefl]; first | refine callK_r (by first | assumption | fail) (by first | exact .inl rfl | exact .inr rfl) ?_ | (refine callK_i (by assumption) ?_ ?_ ?_; (solve | (repeat (first | exact DLe.refl _ | exact DLe.nil _ | (refine DLe.tup ?_) | (refine DLe.agg ?_ rfl) | exact trivial | (refine And.intro ?_ ?_)))); (solve | exact .inl rfl | exact .inr rfl))) | fail | omega | exact decide_eq_true (by omega) | exact DLe.refl _)
        refine loopG tab_ok mixed (fun m e h => ∃ (k g2 : Nat) (Y : Bool), k ≤ v.subs.length ∧ Y = (X && (v.subs.take k).all (subB v)) ∧ m = v.subs.length - k ∧ e = [(53, .d (.v (.int .i64 k))), (52, .d (.v (.int .i64 v.subs.length))), (51, .d (.sl 4 (v.subs.map encN))), (5, .d (.v (.bool Y))), (4, .own 2 g2), (3, .own 1 g), (2, .d (.v (.int .i64 0))), (1, .ptr 0 0)] ∧
          h = [.box 47 ((encV v).map .d), .row 34 2 g (dRows ((v.ranges.map (·.at_)).map encP)), .row 34 2 g2 (dRows (((v.subs.take k).map (·.at_)).map encP))]) _ _ _ ⟨0, 0, X, Nat.zero_le _, by simp, rfl, rfl, rfl⟩ ((weak_adopt (Nat.zero_le _) 4 34 2 rfl).trans (weak_forget _ (by simp) (by (try simp only [encV]); rfl) (by (repeat' (first | exact trivial | (refine ⟨rfl, ?_⟩)))) (by first | rfl | simp only [belowH, belowE, belowC, belowL, belowR, belowP, belowL_d, belowR_d, List.length_cons, List.length_nil, Nat.reduceAdd, Nat.reduceLT, decide_true, Bool.and_self, Bool.and_true]) (by first | rfl | simp only [belowH, belowE, belowC, belowL, belowR, belowP, belowL_d, belowR_d, List.length_cons, List.length_nil, Nat.reduceAdd, Nat.reduceLT, decide_true, Bool.and_self, Bool.and_true]))) ?_
        rintro m2 e h ⟨k, g2, Y, hk2, hY, hm2, rfl, rfl⟩ C hC
        by_cases hlt : k < v.subs.length
        · have hkI : (k : Int) < (v.subs.length : Int) := by omega
          have hwr : IntKind.i64.wrap ((k : Int) + 1) = ((k + 1 : Nat) : Int) := by rw [IntKind.wrap_i64]; omega
          obtain ⟨s, hs⟩ : ∃ s, v.subs[k]? = some s := ⟨_, List.getElem?_eq_getElem hlt⟩
          have hsm := List.mem_of_getElem? hs
          have hsi := vids_p s.id
          have hsh := vholds_p v s.at_ (by omega)
          have hsf := faces_p s (h8.out s hsm).1 (h8.out s hsm).2
          have hlk : (List.take k v.subs).length = k := by rw [List.length_take]; omega
          have hbnd : (k + 1) * 16 ≤ 140737488355328 := by omega
          have hal := all_snoc (p := subB v) hs
          have hsb : subB v s = (idOK s.id && (holdsV v s.at_ && facesB s)) := rfl
          generalize holdsV v s.at_ = H at *
          generalize idOK s.id = I at *
          generalize facesB s = F at *
          replace hY := Lib.hid hY
          replace hal := Lib.hid hal
          replace hsb := Lib.hid hsb
          replace hm2 := Lib.hid hm2
          replace hs := Lib.hid hs
          have hs1' := hs.out
          repeat' (first | (with_reducible refine And.intro ?_ ?_) | (with_reducible refine gK_i (fun _ => ?_) (fun _ => ?_)) | (with_reducible refine condS_i (fun _ => ?_) (fun _ => ?_)) | (with_reducible refine drw_i (by kernel_rfl)) | simp -dsimp only [go_sem, seval, *, encV, encN, encP, hkI, hwr, hs1', hlk, hbnd, undef] | ((with_reducible refine opK_c ?_); simp -dsimp only [go_sem, seval, encV, encN, encP, hkI, hwr, hs1', hlk, hbnd, undef]; first | refine callK_r (by first | assumption | exact hsi | exact hsh | exact hsf) (by first | exact .inl rfl | exact .inr rfl) ?_ | (refine callK_i (by assumption) ?_ ?_ ?_; (solve | (repeat (first | exact DLe.refl _ | exact DLe.nil _ | (refine DLe.tup ?_) | (refine DLe.agg ?_ rfl) | exact trivial | (refine And.intro ?_ ?_)))); (solve | exact .inl rfl | exact .inr rfl))) | fail | omega | exact decide_eq_true (by omega) | exact DLe.refl _)
          all_goals (refine hC _ _ _ _ _ ?_ ⟨k + 1, g2 + 1, _, hlt, ?_, rfl, rfl, rfl⟩ (weak_forget _ (by simp) (by rw [take_snoc hs.out]; simp only [encV, List.map_append, List.map_cons, List.map_nil, encP, ← dRows_app]; rfl) (by (repeat' (first | exact trivial | (refine ⟨rfl, ?_⟩)))) (by first | rfl | simp only [belowH, belowE, belowC, belowL, belowR, belowP, belowL_d, belowR_d, List.length_cons, List.length_nil, Nat.reduceAdd, Nat.reduceLT, decide_true, Bool.and_self, Bool.and_true]) (by first | rfl | simp only [belowH, belowE, belowC, belowL, belowR, belowP, belowL_d, belowR_d, List.length_cons, List.length_nil, Nat.reduceAdd, Nat.reduceLT, decide_true, Bool.and_self, Bool.and_true])))
          all_goals first
            | (have := hm2.out; omega)
            | (have h1 := hY.out; have h2 := hal.out; have h3 := hsb.out; clear hap1 hap2 hr1 hr2 hid hsi hsh hsf hC hmy; grind)
        · obtain rfl : k = v.subs.length := by omega
          rw [List.take_length] at hY ⊢
          replace hY := Lib.hid hY
          replace hm2 := Lib.hid hm2
          have ha1 : apaF [] (v.ranges.map (·.at_)) = apaF [] (v.ranges.map (·.at_)) := rfl
          generalize hA1 : apaF [] (v.ranges.map (·.at_)) = A1 at *
          generalize hA2 : apaF [] (v.subs.map (·.at_)) = A2 at *
          replace hA1 := Lib.hid hA1
          replace hA2 := Lib.hid hA2
          clear ha1
          repeat' (first | (with_reducible refine And.intro ?_ ?_) | (with_reducible refine gK_i (fun _ => ?_) (fun _ => ?_)) | (with_reducible refine condS_i (fun _ => ?_) (fun _ => ?_)) | (with_reducible refine drw_i (by kernel_rfl)) | simp -dsimp only [go_sem, seval, *, encV, Int.lt_irrefl, undef] | ((with_reducible refine opK_c ?_); simp -dsimp only [go_sem, seval, encV, Int.lt_irrefl, undef]; first | refine callK_r (by first | assumption | exact hap1 | exact hap2) (by first | exact .inl rfl | exact .inr rfl) ?_ | (refine callK_i (by assumption) ?_ ?_ ?_; (solve | (repeat (first | exact DLe.refl _ | exact DLe.nil _ | (refine DLe.tup ?_) | (refine DLe.agg ?_ rfl) | exact trivial | (refine And.intro ?_ ?_)))); (solve | exact .inl rfl | exact .inr rfl))) | fail | omega | exact decide_eq_true (by omega) | exact DLe.refl _)
          all_goals
            have h1 := hX.out
            have h2 := hY.out
            clear hap1 hap2 hr1 hr2 hid hC hmy
            first
              | exact DLe.refl _
              | (rw [if_pos (by grind)]; exact DLe.refl _)
              | (rw [if_neg (by grind)]; exact DLe.refl _)
              | (exfalso; grind)
    | true =>
      rw [b1, b2, Bool.true_and, Bool.true_and] at hF0
      subst hF0
      rw [b2] at hr1
      generalize risB (fun s : Sbn => s.id) v.subs = F0 at *
      refine ps_i tab_ok mixed Try.func44 rfl Try.ntmps44 Try.results44 (by kernel_rfl) ?_
      repeat' (first | (with_reducible refine And.intro ?_ ?_) | (with_reducible refine gK_i (fun _ => ?_) (fun _ => ?_)) | (with_reducible refine condS_i (fun _ => ?_) (fun _ => ?_)) | (with_reducible refine drw_i (by kernel_rfl)) | simp -dsimp only [go_sem, seval, *, encV, undef] | ((with_reducible refine opK_c ?_); simp -dsimp only [go_sem, seval, encV, undef]; first | refine callK_r (by first | assumption | exact hmy.out | exact hid | exact hr1 | exact hr2) (by first | exact .inl rfl | exact .inr rfl) ?_ | (refine callK_i (by assumption) ?_ ?_ ?_; (solve | (repeat (first | exact DLe.refl _ | exact DLe.nil _ | (refine DLe.tup ?_) | (refine DLe.agg ?_ rfl) | exact trivial | (refine And.intro ?_ ?_)))); (solve | exact .inl rfl | exact .inr rfl))) | fail | omega | exact decide_eq_true (by omega) | exact DLe.refl _)
      refine loopG tab_ok mixed (fun m e h => ∃ (k g : Nat) (X : Bool), k ≤ v.ranges.length ∧ X = (F0 && (v.ranges.take k).all rangeB) ∧ m = v.ranges.length - k ∧ e = [(28, .d (.v (.int .i64 k))), (27, .d (.v (.int .i64 v.ranges.length))), (26, .d (.sl 3 (v.ranges.map encG))), (5, .d (.v (.bool X))), (4, .d (.v (.slice none 0 0))), (3, .own 1 g), (2, .d (.v (.int .i64 0))), (1, .ptr 0 0)] ∧
        h = [.box 47 ((encV v).map .d), .row 34 2 g (dRows (((v.ranges.take k).map (·.at_)).map encP))]) _ _ _ ⟨0, 0, F0, Nat.zero_le _, by simp, rfl, rfl, rfl⟩ ((weak_adopt (Nat.zero_le _) 3 34 2 rfl).trans (weak_forget _ (by simp) (by (try simp only [encV]); rfl) (by (repeat' (first | exact trivial | (refine ⟨rfl, ?_⟩)))) (by first | rfl | simp only [belowH, belowE, belowC, belowL, belowR, belowP, belowL_d, belowR_d, List.length_cons, List.length_nil, Nat.reduceAdd, Nat.reduceLT, decide_true, Bool.and_self, Bool.and_true]) (by first | rfl | simp only [belowH, belowE, belowC, belowL, belowR, belowP, belowL_d, belowR_d, List.length_cons, List.length_nil, Nat.reduceAdd, Nat.reduceLT, decide_true, Bool.and_self, Bool.and_true]))) ?_
      rintro m e h ⟨k, g, X, hk, hX, hm0, rfl, rfl⟩ C hC
      by_cases hlt : k < v.ranges.length
      · have hkI : (k : Int) < (v.ranges.length : Int) := by omega
        have hwr : IntKind.i64.wrap ((k : Int) + 1) = ((k + 1 : Nat) : Int) := by rw [IntKind.wrap_i64]; omega
        obtain ⟨r, hr⟩ : ∃ r, v.ranges[k]? = some r := ⟨_, List.getElem?_eq_getElem hlt⟩
        have hrp := vids_p r.pool
        have hrc := check_p r.at_
        have hlk : (List.take k v.ranges).length = k := by rw [List.length_take]; omega
        have hbnd : (k + 1) * 16 ≤ 140737488355328 := by omega
        have hal := all_snoc (p := rangeB) hr
        have hrb : rangeB r = (idOK r.pool && (chk r.at_.at_ r.at_.len == 0)) := rfl
        generalize chk r.at_.at_ r.at_.len = K at *
        generalize idOK r.pool = I at *
        replace hX := Lib.hid hX
        replace hal := Lib.hid hal
        replace hrb := Lib.hid hrb
        replace hm0 := Lib.hid hm0
        replace hr := Lib.hid hr
        have hr1' := hr.out
        repeat' (first | (with_reducible refine And.intro ?_ ?_) | (with_reducible refine gK_i (fun _ => ?_) (fun _ => ?_)) | (with_reducible refine condS_i (fun _ => ?_) (fun _ => ?_)) | (with_reducible refine drw_i (by kernel_rfl)) | simp -dsimp only [go_sem, seval, *, encV, encG, encP, hkI, hwr, hr1', hlk, hbnd, undef] | ((with_reducible refine opK_c ?_); simp -dsimp only [go_sem, seval, encV, encG, encP, hkI, hwr, hr1', hlk, hbnd, undef]; first | refine callK_r (by first | assumption | exact hrp | exact hrc) (by first | exact .inl rfl | exact .inr rfl) ?_ | (refine callK_i (by assumption) ?_ ?_ ?_; (solve | (repeat (first | exact DLe.refl _ | exact DLe.nil _ | (refine DLe.tup ?_) | (refine DLe.agg ?_ rfl) | exact trivial | (refine And.intro ?_ ?_)))); (solve | exact .inl rfl | exact .inr rfl))) | fail | omega | exact decide_eq_true (by omega) | exact DLe.refl _)
        all_goals (refine hC _ _ _ _ _ ?_ ⟨k + 1, g + 1, _, hlt, ?_, rfl, rfl, rfl⟩ (weak_forget _ (by simp) (by rw [take_snoc hr.out]; simp only [encV, List.map_append, List.map_cons, List.map_nil, encP, ← dRows_app]; rfl) (by (repeat' (first | exact trivial | (refine ⟨rfl, ?_⟩)))) (by first | rfl | simp only [belowH, belowE, belowC, belowL, belowR, belowP, belowL_d, belowR_d, List.length_cons, List.length_nil, Nat.reduceAdd, Nat.reduceLT, decide_true, Bool.and_self, Bool.and_true]) (by first | rfl | simp only [belowH, belowE, belowC, belowL, belowR, belowP, belowL_d, belowR_d, List.length_cons, List.length_nil, Nat.reduceAdd, Nat.reduceLT, decide_true, Bool.and_self, Bool.and_true])))
        all_goals first
          | (have := hm0.out; omega)
          | (have h1 := hX.out; have h2 := hal.out; have h3 := hrb.out; clear hap1 hap2 hr1 hr2 hid hrp hrc hC hmy; grind)
      · obtain rfl : k = v.ranges.length := by omega
        rw [List.take_length] at hX ⊢
        replace hX := Lib.hid hX
        replace hm0 := Lib.hid hm0
        repeat' (first | (with_reducible refine And.intro ?_ ?_) | (with_reducible refine gK_i (fun _ => ?_) (fun _ => ?_)) | (with_reducible refine condS_i (fun _ => ?_) (fun _ => ?_)) | (with_reducible refine drw_i (by kernel_rfl)) | simp -dsimp only [go_sem, seval, *, encV, Int.lt_irrefl] | ((with_reducible refine opK_c ?_); simp -dsimp only [go_sem, seval, encV, Int.lt_irrefl]; first | refine callK_r (by first | assumption | fail) (by first | exact .inl rfl | exact .inr rfl) ?_ | (refine callK_i (by assumption) ?_ ?_ ?_; (solve | (repeat (first | exact DLe.refl _ | exact DLe.nil _ | (refine DLe.tup ?_) | (refine DLe.agg ?_ rfl) | exact trivial | (refine And.intro ?_ ?_)))); (solve | exact .inl rfl | exact .inr rfl))) | fail | omega | exact decide_eq_true (by omega) | exact DLe.refl _)
        refine loopG tab_ok mixed (fun m e h => ∃ (k g2 : Nat) (Y : Bool), k ≤ v.subs.length ∧ Y = (X && (v.subs.take k).all (subB v)) ∧ m = v.subs.length - k ∧ e = [(53, .d (.v (.int .i64 k))), (52, .d (.v (.int .i64 v.subs.length))), (51, .d (.sl 4 (v.subs.map encN))), (5, .d (.v (.bool Y))), (4, .own 2 g2), (3, .own 1 g), (2, .d (.v (.int .i64 0))), (1, .ptr 0 0)] ∧
          h = [.box 47 ((encV v).map .d), .row 34 2 g (dRows ((v.ranges.map (·.at_)).map encP)), .row 34 2 g2 (dRows (((v.subs.take k).map (·.at_)).map encP))]) _ _ _ ⟨0, 0, X, Nat.zero_le _, by simp, rfl, rfl, rfl⟩ ((weak_adopt (Nat.zero_le _) 4 34 2 rfl).trans (weak_forget _ (by simp) (by (try simp only [encV]); rfl) (by (repeat' (first | exact trivial | (refine ⟨rfl, ?_⟩)))) (by first | rfl | simp only [belowH, belowE, belowC, belowL, belowR, belowP, belowL_d, belowR_d, List.length_cons, List.length_nil, Nat.reduceAdd, Nat.reduceLT, decide_true, Bool.and_self, Bool.and_true]) (by first | rfl | simp only [belowH, belowE, belowC, belowL, belowR, belowP, belowL_d, belowR_d, List.length_cons, List.length_nil, Nat.reduceAdd, Nat.reduceLT, decide_true, Bool.and_self, Bool.and_true]))) ?_
        rintro m2 e h ⟨k, g2, Y, hk2, hY, hm2, rfl, rfl⟩ C hC
        by_cases hlt : k < v.subs.length
        · have hkI : (k : Int) < (v.subs.length : Int) := by omega
          have hwr : IntKind.i64.wrap ((k : Int) + 1) = ((k + 1 : Nat) : Int) := by rw [IntKind.wrap_i64]; omega
          obtain ⟨s, hs⟩ : ∃ s, v.subs[k]? = some s := ⟨_, List.getElem?_eq_getElem hlt⟩
          have hsm := List.mem_of_getElem? hs
          have hsi := vids_p s.id
          have hsh := vholds_p v s.at_ (by omega)
          have hsf := faces_p s (h8.out s hsm).1 (h8.out s hsm).2
          have hlk : (List.take k v.subs).length = k := by rw [List.length_take]; omega
          have hbnd : (k + 1) * 16 ≤ 140737488355328 := by omega
          have hal := all_snoc (p := subB v) hs
          have hsb : subB v s = (idOK s.id && (holdsV v s.at_ && facesB s)) := rfl
          generalize holdsV v s.at_ = H at *
          generalize idOK s.id = I at *
          generalize facesB s = F at *
          replace hY := Lib.hid hY
          replace hal := Lib.hid hal
          replace hsb := Lib.hid hsb
          replace hm2 := Lib.hid hm2
          replace hs := Lib.hid hs
          have hs1' := hs.out
          repeat' (first | (with_reducible refine And.intro ?_ ?_) | (with_reducible refine gK_i (fun _ => ?_) (fun _ => ?_)) | (with_reducible refine condS_i (fun _ => ?_) (fun _ => ?_)) | (with_reducible refine drw_i (by kernel_rfl)) | simp -dsimp only [go_sem, seval, *, encV, encN, encP, hkI, hwr, hs1', hlk, hbnd, undef] | ((with_reducible refine opK_c ?_); simp -dsimp only [go_sem, seval, encV, encN, encP, hkI, hwr, hs1', hlk, hbnd, undef]; first | refine callK_r (by first | assumption | exact hsi | exact hsh | exact hsf) (by first | exact .inl rfl | exact .inr rfl) ?_ | (refine callK_i (by assumption) ?_ ?_ ?_; (solve | (repeat (first | exact DLe.refl _ | exact DLe.nil _ | (refine DLe.tup ?_) | (refine DLe.agg ?_ rfl) | exact trivial | (refine And.intro ?_ ?_)))); (solve | exact .inl rfl | exact .inr rfl))) | fail | omega | exact decide_eq_true (by omega) | exact DLe.refl _)
          all_goals (refine hC _ _ _ _ _ ?_ ⟨k + 1, g2 + 1, _, hlt, ?_, rfl, rfl, rfl⟩ (weak_forget _ (by simp) (by rw [take_snoc hs.out]; simp only [encV, List.map_append, List.map_cons, List.map_nil, encP, ← dRows_app]; rfl) (by (repeat' (first | exact trivial | (refine ⟨rfl, ?_⟩)))) (by first | rfl | simp only [belowH, belowE, belowC, belowL, belowR, belowP, belowL_d, belowR_d, List.length_cons, List.length_nil, Nat.reduceAdd, Nat.reduceLT, decide_true, Bool.and_self, Bool.and_true]) (by first | rfl | simp only [belowH, belowE, belowC, belowL, belowR, belowP, belowL_d, belowR_d, List.length_cons, List.length_nil, Nat.reduceAdd, Nat.reduceLT, decide_true, Bool.and_self, Bool.and_true])))
          all_goals first
            | (have := hm2.out; omega)
            | (have h1 := hY.out; have h2 := hal.out; have h3 := hsb.out; clear hap1 hap2 hr1 hr2 hid hsi hsh hsf hC hmy; grind)
        · obtain rfl : k = v.subs.length := by omega
          rw [List.take_length] at hY ⊢
          replace hY := Lib.hid hY
          replace hm2 := Lib.hid hm2
          have ha1 : apaF [] (v.ranges.map (·.at_)) = apaF [] (v.ranges.map (·.at_)) := rfl
          generalize hA1 : apaF [] (v.ranges.map (·.at_)) = A1 at *
          generalize hA2 : apaF [] (v.subs.map (·.at_)) = A2 at *
          replace hA1 := Lib.hid hA1
          replace hA2 := Lib.hid hA2
          clear ha1
          repeat' (first | (with_reducible refine And.intro ?_ ?_) | (with_reducible refine gK_i (fun _ => ?_) (fun _ => ?_)) | (with_reducible refine condS_i (fun _ => ?_) (fun _ => ?_)) | (with_reducible refine drw_i (by kernel_rfl)) | simp -dsimp only [go_sem, seval, *, encV, Int.lt_irrefl, undef] | ((with_reducible refine opK_c ?_); simp -dsimp only [go_sem, seval, encV, Int.lt_irrefl, undef]; first | refine callK_r (by first | assumption | exact hap1 | exact hap2) (by first | exact .inl rfl | exact .inr rfl) ?_ | (refine callK_i (by assumption) ?_ ?_ ?_; (solve | (repeat (first | exact DLe.refl _ | exact DLe.nil _ | (refine DLe.tup ?_) | (refine DLe.agg ?_ rfl) | exact trivial | (refine And.intro ?_ ?_)))); (solve | exact .inl rfl | exact .inr rfl))) | fail | omega | exact decide_eq_true (by omega) | exact DLe.refl _)
          all_goals
            have h1 := hX.out
            have h2 := hY.out
            clear hap1 hap2 hr1 hr2 hid hC hmy
            first
              | exact DLe.refl _
              | (rw [if_pos (by grind)]; exact DLe.refl _)
              | (rw [if_neg (by grind)]; exact DLe.refl _)
              | (exfalso; grind)
end Go.Proofs.Ytinnohljknmolaa
namespace Go.Proofs.Ytinnohljknmolaa
open Go Go.RowKit
def subRow (s : Sbn) (v : PV) : List PV := [.d (.v (.int .i64 s.id)), .d (.v (.int .i64 s.at_.at_)), .d (.v (.int .i64 s.at_.len)), v]
def faceRow (f : Fce) (v : PV) : List PV := [.d (.v (.int .i64 f.id)), v]
/-- Rows of data, one of which has something for itself. -/
def zipG {α : Type} (enc : α → List D) (pre : List α) (r : List PV) (post : List α) : List (List PV) := dRows (pre.map enc) ++ r :: dRows (post.map enc)
section
variable {α : Type} {enc : α → List D}
theorem belowR_app (n : Nat) : ∀ (l m : List (List PV)), belowR n (l ++ m) = (belowR n l && belowR n m)
  | [], m => rfl
  | r :: l, m => by simp only [List.cons_append, belowR, belowR_app n l m, Bool.and_assoc]
theorem belowR_zipG (n : Nat) (pre : List α) (r : List PV) (post : List α) : belowR n (zipG enc pre r post) = belowL n r := by
  simp only [zipG, belowR_app, belowR, belowR_d, Bool.true_and, Bool.and_true]
end
end Go.Proofs.Ytinnohljknmolaa
namespace Go.Proofs.Ytinnohljknmolaa
open Go Go.RowKit
/-- One more, at its place. -/
def insK {α : Type} (key : α → Int) (x : α) (l : List α) : List α := l.take (lbN key (key x) l) ++ x :: l.drop (lbN key (key x) l)
theorem insK_perm {α : Type} (key : α → Int) (x : α) (l : List α) : (insK key x l).Perm (l ++ [x]) := by
  unfold insK
  have h : l ++ [x] = (l.take (lbN key (key x) l) ++ l.drop (lbN key (key x) l)) ++ [x] := by rw [List.take_append_drop]
  rw [h, List.append_assoc]
  refine List.Perm.append_left _ ?_
  exact (List.perm_append_singleton _ _).symm
theorem insK_sorted {α : Type} {key : α → Int} {x : α} {l : List α} (hs : l.Pairwise fun a b => key a < key b) (hn : ∀ y ∈ l, key y ≠ key x) : (insK key x l).Pairwise fun a b => key a < key b := by
  have hlow : ∀ y ∈ l.take (lbN key (key x) l), key y < key x := by
    intro y hy
    obtain ⟨i, hi, rfl⟩ := List.mem_iff_getElem.1 hy
    rw [List.getElem_take]
    have := List.not_of_lt_findIdx (show i < lbN key (key x) l by rw [List.length_take] at hi; omega)
    simp at this
    exact this
  have hhigh : ∀ y ∈ l.drop (lbN key (key x) l), key x < key y := by
    intro y hy
    have hym := List.mem_of_mem_drop hy
    obtain ⟨i, hi, rfl⟩ := List.mem_iff_getElem.1 hy
    rw [List.getElem_drop] at hym ⊢
    rw [List.length_drop] at hi
    have hlt : lbN key (key x) l < l.length := by omega
    have h0 := List.findIdx_getElem (xs := l) (p := fun y => decide (key x ≤ key y)) (w := hlt)
    simp only [decide_eq_true_eq] at h0
    change key x ≤ key (l[lbN key (key x) l]'hlt) at h0
    have hne := hn _ hym
    rcases Nat.eq_zero_or_pos i with h | h
    · subst h; simp only [Nat.add_zero] at hne ⊢; omega
    · have := List.pairwise_iff_getElem.1 hs _ (lbN key (key x) l + i) hlt (by omega) (by omega)
      omega
  unfold insK
  rw [List.pairwise_append, List.pairwise_cons]
  refine ⟨hs.sublist (List.take_sublist _ _), ⟨hhigh, hs.sublist (List.drop_sublist _ _)⟩, fun a ha b hb => ?_⟩
  rcases List.mem_cons.1 hb with rfl | hb
  · exact hlow a ha
  · have := hlow a ha; have := hhigh b hb; omega
def Vpc.zero : Vpc := ⟨0, [], []⟩
theorem Vpc.zero_le : DLe (.agg [.v (.int .i64 0), .v (.slice none 0 0), .v (.slice none 0 0)]) (.agg (encV Vpc.zero)) := by repeat (first | exact DLe.refl _ | exact DLe.nil _ | (refine DLe.tup ?_) | (refine DLe.agg ?_ rfl) | exact trivial | (refine And.intro ?_ ?_))
/-- A right network. -/
structure VpcOK (v : Vpc) : Prop where
  n4 : v.ranges.length ≤ 4
  n6 : v.subs.length ≤ 6
  n8 : ∀ s ∈ v.subs, s.faces.length ≤ 8 ∧ ∀ f ∈ s.faces, f.addrs.length ≤ 4
  id : idOK v.id = true
  rr : v.ranges.Pairwise fun a b => a.at_.at_ < b.at_.at_
  rs : v.subs.Pairwise fun a b => a.id < b.id
  ranges : ∀ r ∈ v.ranges, rangeB r = true
  subs : ∀ s ∈ v.subs, subB v s = true
  ar : apaF [] (v.ranges.map (·.at_)) = true
  as_ : apaF [] (v.subs.map (·.at_)) = true
theorem vpcOK {v : Vpc} : chkV v = 0 ↔ manyV v = false ∧ fineV v = true ∧ apaF [] (v.ranges.map (·.at_)) = true ∧ apaF [] (v.subs.map (·.at_)) = true := by
  unfold chkV
  generalize apaF [] (v.ranges.map (·.at_)) = A
  generalize apaF [] (v.subs.map (·.at_)) = B
  cases manyV v <;> cases fineV v <;> cases A <;> cases B <;> simp
theorem vpcOK_of {v : Vpc} (h : chkV v = 0) : VpcOK v := by
  obtain ⟨h1, h2, h3, h4⟩ := vpcOK.1 h
  obtain ⟨a, b, c⟩ := manyV_ok h1
  unfold fineV at h2
  simp only [Bool.and_eq_true, List.all_eq_true, risB_pair] at h2
  exact ⟨a, b, c, h2.1.1, h2.1.2.1, h2.1.2.2, h2.2.1, h2.2.2, h3, h4⟩
theorem rangeB_right {r : Rng} (h : rangeB r = true) : r.at_.right = true := by
  unfold rangeB at h
  simp only [Bool.and_eq_true, beq_iff_eq] at h
  simp [Pfx.right, rightB, h.2]
theorem meets_at {p q : Pfx} (hp : p.right = true) (hq : q.right = true) (h : p.meets q = false) : p.at_ ≠ q.at_ := fun e => by
  have b1 := p.hi_bd hp
  have b2 := q.hi_bd hq
  rw [meets_iff.2 ⟨hp, hq, by omega, by omega⟩] at h
  cases h
end Go.Proofs.Ytinnohljknmolaa
namespace Go.Proofs.Ytinnohljknmolaa
open Go Go.RowKit
structure Rte where
  at_ : Pfx
  to : Int
  deriving DecidableEq
def Rte.zero : Rte := ⟨⟨0, 0⟩, 0⟩
def encRo (r : Rte) : List D := [.v (.int .i64 r.at_.at_), .v (.int .i64 r.at_.len), .v (.int .i64 r.to)]
/-- Up's answer. -/
def upP (p : Pfx) : Pfx × Int := if chk p.at_ p.len ≠ 0 then (⟨0, 0⟩, chk p.at_ p.len) else if p.len = 0 then (⟨0, 0⟩, 3) else (⟨p.at_ - p.at_ % szI (p.len - 1), p.len - 1⟩, 0)
theorem mask_p (n : Int) (h0 : 0 ≤ n) (h1 : n ≤ 16) : PSpec Try.prog 30 [.v (.int .i64 n)] (.v (.int .i64 (msk n))) := pspec_flat (fnok_of Try.func30 (by kernel_rfl) rfl) (by intro d hd; simp at hd; (repeat (first | (obtain rfl := hd; rfl) | (rcases hd with rfl | hd; · rfl)))) rfl rfl (fun w => (mask_any n w h0 h1).mono fun _ _ ⟨e1, e2⟩ => ⟨e1, e2 ▸ Below.refl _ _⟩)
theorem pcheck_p (p : Pfx) : PSpec Try.prog 24 [.agg (encP p)] (.v (.int .i64 (chk p.at_ p.len))) := check_p p
set_option maxRecDepth 100000 in
theorem up_p (p : Pfx) : PSpec Try.prog 25 [.agg (encP p)] (.tup [.agg (encP (upP p).1), .v (.int .i64 (upP p).2)]) := by
  have hck := pcheck_p p
  unfold upP
  by_cases hc : chk p.at_ p.len = 0
  · rw [if_neg (by simpa using hc)]
    have hr : p.right = true := by simp [Pfx.right, rightB, hc]
    obtain ⟨b1, b2, b3, b4, -⟩ := p.bd hr
    rw [hc] at hck
    clear hc
    by_cases hl : p.len = 0
    · have h1 : (p.len == 0) = true := by simpa using hl
      rw [if_pos hl]
      replace hl := Lib.hid hl
      refine ps_i tab_ok mixed Try.func25 rfl Try.ntmps25 Try.results25 (by kernel_rfl) ?_
      repeat' (first | (with_reducible refine And.intro ?_ ?_) | (with_reducible refine gK_i (fun _ => ?_) (fun _ => ?_)) | (with_reducible refine condS_i (fun _ => ?_) (fun _ => ?_)) | (with_reducible refine drw_i (by kernel_rfl)) | simp -dsimp only [go_sem, seval, *, encP, h1, undef] | ((with_reducible refine opK_c ?_); simp -dsimp only [go_sem, seval, encP, h1, undef]; first | refine callK_r (by first | assumption | exact hck) (by first | exact .inl rfl | exact .inr rfl) ?_ | (refine callK_i (by assumption) ?_ ?_ ?_; (solve | (repeat (first | exact DLe.refl _ | exact DLe.nil _ | (refine DLe.tup ?_) | (refine DLe.agg ?_ rfl) | exact trivial | (refine And.intro ?_ ?_)))); (solve | exact .inl rfl | exact .inr rfl))) | fail | omega | exact decide_eq_true (by omega) | exact DLe.refl _)
      all_goals exact (by repeat (first | exact DLe.refl _ | exact DLe.nil _ | (refine DLe.tup ?_) | (refine DLe.agg ?_ rfl) | exact trivial | (refine And.intro ?_ ?_)))
    · have h1 : (p.len == 0) = false := by simpa using hl
      rw [if_neg hl]
      have hm := mask_p (p.len - 1) (by omega) (by omega)
      have hw : IntKind.i64.wrap (p.len - 1) = p.len - 1 := by rw [IntKind.wrap_i64]; omega
      have ha : IntKind.i64.wrap ((BitVec.ofInt IntKind.i64.bits p.at_ &&& ~~~BitVec.ofInt IntKind.i64.bits (msk (p.len - 1))).toNat : Int) = p.at_ - p.at_ % szI (p.len - 1) := andnot_msk p.at_ (p.len - 1) b3 b4 (by omega)
      replace hl := Lib.hid hl
      refine ps_i tab_ok mixed Try.func25 rfl Try.ntmps25 Try.results25 (by kernel_rfl) ?_
      repeat' (first | (with_reducible refine And.intro ?_ ?_) | (with_reducible refine gK_i (fun _ => ?_) (fun _ => ?_)) | (with_reducible refine condS_i (fun _ => ?_) (fun _ => ?_)) | (with_reducible refine drw_i (by kernel_rfl)) | simp -dsimp only [go_sem, seval, *, encP, h1, hw, undef] | ((with_reducible refine opK_c ?_); simp -dsimp only [go_sem, seval, encP, h1, hw, undef]; first | refine callK_r (by first | assumption | exact hck | exact hm) (by first | exact .inl rfl | exact .inr rfl) ?_ | (refine callK_i (by assumption) ?_ ?_ ?_; (solve | (repeat (first | exact DLe.refl _ | exact DLe.nil _ | (refine DLe.tup ?_) | (refine DLe.agg ?_ rfl) | exact trivial | (refine And.intro ?_ ?_)))); (solve | exact .inl rfl | exact .inr rfl))) | fail | omega | exact decide_eq_true (by omega) | exact DLe.refl _)
      all_goals first | (rw [ha]; exact DLe.refl _) | exact (by repeat (first | exact DLe.refl _ | exact DLe.nil _ | (refine DLe.tup ?_) | (refine DLe.agg ?_ rfl) | exact trivial | (refine And.intro ?_ ?_)))
  · rw [if_pos hc]
    have h1 : (chk p.at_ p.len != 0) = true := by simpa using hc
    generalize chk p.at_ p.len = E at *
    refine ps_i tab_ok mixed Try.func25 rfl Try.ntmps25 Try.results25 (by kernel_rfl) ?_
    repeat' (first | (with_reducible refine And.intro ?_ ?_) | (with_reducible refine gK_i (fun _ => ?_) (fun _ => ?_)) | (with_reducible refine condS_i (fun _ => ?_) (fun _ => ?_)) | (with_reducible refine drw_i (by kernel_rfl)) | simp -dsimp only [go_sem, seval, *, encP, h1, undef] | ((with_reducible refine opK_c ?_); simp -dsimp only [go_sem, seval, encP, h1, undef]; first | refine callK_r (by first | assumption | exact hck) (by first | exact .inl rfl | exact .inr rfl) ?_ | (refine callK_i (by assumption) ?_ ?_ ?_; (solve | (repeat (first | exact DLe.refl _ | exact DLe.nil _ | (refine DLe.tup ?_) | (refine DLe.agg ?_ rfl) | exact trivial | (refine And.intro ?_ ?_)))); (solve | exact .inl rfl | exact .inr rfl))) | fail | omega | exact decide_eq_true (by omega) | exact DLe.refl _)
    all_goals exact (by repeat (first | exact DLe.refl _ | exact DLe.nil _ | (refine DLe.tup ?_) | (refine DLe.agg ?_ rfl) | exact trivial | (refine And.intro ?_ ?_)))
/-- The prefix of a length that has an address. -/
def pfxN (a : Int) (n : Nat) : Pfx := ⟨a - a % szI n, n⟩
theorem szI_nat : ∀ n : Nat, n ≤ 16 → szI (n : Int) = 1 ∨ szI (n : Int) = 2 ∨ szI (n : Int) = 4 ∨ szI (n : Int) = 8 ∨ szI (n : Int) = 16 ∨ szI (n : Int) = 32 ∨ szI (n : Int) = 64 ∨ szI (n : Int) = 128 ∨ szI (n : Int) = 256 ∨ szI (n : Int) = 512 ∨ szI (n : Int) = 1024 ∨ szI (n : Int) = 2048 ∨ szI (n : Int) = 4096 ∨ szI (n : Int) = 8192 ∨ szI (n : Int) = 16384 ∨ szI (n : Int) = 32768 ∨ szI (n : Int) = 65536 := by decide
theorem szI_up : ∀ n : Nat, n < 16 → szI (n : Int) = 2 * szI ((n + 1 : Nat) : Int) := by decide
theorem szI_mod {a : Int} (h0 : 0 ≤ a) {n : Nat} (hn : n ≤ 16) : 0 ≤ a % szI (n : Int) ∧ a % szI (n : Int) ≤ a ∧ (a - a % szI (n : Int)) % szI (n : Int) = 0 ∧ (a - a % szI (n : Int)) - (a - a % szI (n : Int)) % (2 * szI (n : Int)) = a - a % (2 * szI (n : Int)) := by
  rcases szI_nat n hn with h | h | h | h | h | h | h | h | h | h | h | h | h | h | h | h | h <;> rw [h] <;> omega
theorem pfxN_chk {a : Int} (h0 : 0 ≤ a) (h1 : a ≤ 65535) {n : Nat} (hn : n ≤ 16) : chk (pfxN a n).at_ (pfxN a n).len = 0 := by
  obtain ⟨h2, h3, h4, -⟩ := szI_mod h0 hn
  unfold pfxN
  simp only
  rw [chk_in (by omega) (by omega) (by omega) (by omega), if_pos]
  exact h4
theorem pfxN_up {a : Int} (h0 : 0 ≤ a) (h1 : a ≤ 65535) {n : Nat} (hn : n < 16) : upP (pfxN a (n + 1)) = (pfxN a n, 0) := by
  unfold upP
  rw [if_neg (by simpa using pfxN_chk h0 h1 (n := n + 1) (by omega)), if_neg (by show ((n + 1 : Nat) : Int) ≠ 0; omega)]
  obtain ⟨-, -, -, hs⟩ := szI_mod h0 (n := n + 1) (by omega)
  have hu := szI_up n hn
  have e : ((n + 1 : Nat) : Int) - 1 = (n : Int) := by omega
  unfold pfxN
  simp only [e]
  rw [hu, hs]
theorem pfxN_end {a : Int} (h0 : 0 ≤ a) (h1 : a ≤ 65535) : upP (pfxN a 0) = (⟨0, 0⟩, 3) := by
  unfold upP
  rw [if_neg (by simpa using pfxN_chk h0 h1 (n := 0) (by omega)), if_pos (show (pfxN a 0).len = 0 from rfl)]
/-- The route whose prefix is the longest one; the first one of these. -/
def lookR (l : List Rte) (a : Int) : Nat → Option Rte
  | 0 => l.find? fun r => decide (r.at_ = pfxN a 0)
  | n + 1 => (l.find? fun r => decide (r.at_ = pfxN a (n + 1))).or (lookR l a n)
def findR (l : List Rte) (a : Int) : Rte × Bool × Int :=
  if l.length > 64 then (Rte.zero, false, 2) else if (l.all fun r => chk r.at_.at_ r.at_.len == 0) = false then (Rte.zero, false, 1) else
  if a < 0 ∨ a > 65535 then (Rte.zero, false, 3) else match lookR l a 16 with | some r => (r, true, 0) | none => (Rte.zero, false, 0)
end Go.Proofs.Ytinnohljknmolaa
namespace Go.Proofs.Ytinnohljknmolaa
open Go Go.RowKit
/-- Two chunks change their places. -/
def swp2 (i j k : Nat) : Nat := if k = i then j else if k = j then i else k
theorem swp2_inv (i j k : Nat) : swp2 i j (swp2 i j k) = k := by
  unfold swp2
  by_cases h1 : k = i
  · subst h1
    rw [if_pos rfl]
    by_cases h2 : j = k
    · rw [if_pos h2]; exact h2
    · rw [if_neg h2, if_pos rfl]
  · rw [if_neg h1]
    by_cases h2 : k = j
    · subst h2; rw [if_pos rfl, if_pos rfl]
    · rw [if_neg h2, if_neg h1, if_neg h2]
theorem look_ren (ρ : Nat → Nat) : ∀ (e : Env) (t : Nat), look (e.map fun tp => (tp.1, ren ρ tp.2)) t = ren ρ (look e t)
  | [], _ => rfl
  | (a, p) :: l, t => by
    simp only [List.map_cons, look]
    split
    · rfl
    · exact look_ren ρ l t
theorem weak_swp {P : Program} {n m : Nat} {e : Env} {h h' : List Chunk} (i j : Nat) (hi : m ≤ i) (hj : m ≤ j) (hh : ∀ k, hatL h' k = renC (swp2 i j) (hatL h (swp2 i j k))) : Weak P n m e h (e.map fun tp => (tp.1, ren (swp2 i j) tp.2)) h' := by
  intro X _ _ hXm a w hr
  obtain ⟨c, hc⟩ := hr
  have hin := swp2_inv i j
  generalize hσ : swp2 i j = σ at *
  have hlow : ∀ k, k < m → σ k = k := fun k hk => by rw [← hσ]; unfold swp2; rw [if_neg (by omega), if_neg (by omega)]
  have hM : ∀ d x, RepD c.M w d x → RepD c.M w d x := fun _ _ h => h
  let c2 : Cx := { M := c.M, bl := fun k => c.bl (σ k), ov := fun k => c.ov (σ k) }
  have hb : ∀ k b, c.bl k = some b → c2.bl (σ k) = some b := fun k b h => by show c.bl (σ (σ k)) = _; rw [hin]; exact h
  have ho : ∀ k g u, c.ov k g = some u → c2.ov (σ k) g = some u := fun k g u h => by show c.ov (σ (σ k)) g = _; rw [hin]; exact h
  have hblk : ∀ k, c2.block k (hatL h' k) = c.block (σ k) (hatL h (σ k)) := fun k => by
    rw [hh]
    cases hatL h (σ k) <;> rfl
  refine ⟨c2, hc.size, hc.defers, hc.ext, hc.fresh, fun b => ?_, fun k b hk => ?_, fun k k' b h1 h2 => ?_, fun t => ?_, fun k => ?_, fun k hk => ?_⟩
  · rw [show c2.M b = c.M b from rfl, hc.mu b]
    constructor
    · rintro (h1 | ⟨k, h1⟩)
      · exact .inl h1
      · exact .inr ⟨σ k, by show c2.block (σ k) (hatL h' (σ k)) = _; rw [hblk, hin]; exact h1⟩
    · rintro (h1 | ⟨k, h1⟩)
      · exact .inl h1
      · exact .inr ⟨σ k, by have h2 : c2.block k (hatL h' k) = some b := h1; rwa [hblk] at h2⟩
  · have h2 : c2.block k (hatL h' k) = some b := hk
    rw [hblk] at h2
    exact hc.new _ _ h2
  · have h3 : c2.block k (hatL h' k) = some b := h1
    have h4 : c2.block k' (hatL h' k') = some b := h2
    rw [hblk] at h3 h4
    have := hc.apart _ _ _ h3 h4
    rw [← hin k, this, hin]
  · show RepP c2 w (look (e.map fun tp => (tp.1, ren σ tp.2)) t) _
    rw [look_ren]
    exact (hc.env t).ren hM hb ho
  · show ChunkOK c2 w k (hatL h' k)
    rw [hh]
    have := renC_ok (c2 := c2) (j := σ k) (ρ := σ) hM hb ho (congrArg c.bl (hin (σ k))) (congrArg c.ov (hin (σ k))) (hc.chunk (σ k))
    rwa [hin] at this
  · rw [hXm] at hk
    have := hc.lent k (by rw [hXm]; exact hk)
    show c.bl (σ k) = _ ∧ ∀ g v, _ → c.ov (σ k) g = some v
    rw [hlow k hk]
    exact this
end Go.Proofs.Ytinnohljknmolaa
namespace Go.Proofs.Ytinnohljknmolaa
open Go Go.RowKit
theorem withinR_p (n lo hi : Int) : PSpec Try.prog 27 [.v (.int .i64 n), .v (.int .i64 lo), .v (.int .i64 hi)] (.v (.bool (decide (lo ≤ n) && decide (n ≤ hi)))) := by
  refine ps_i tab_ok mixed Try.func27 rfl Try.ntmps27 Try.results27 (by kernel_rfl) ?_
  repeat' (first | (with_reducible refine And.intro ?_ ?_) | (with_reducible refine gK_i (fun _ => ?_) (fun _ => ?_)) | (with_reducible refine condS_i (fun _ => ?_) (fun _ => ?_)) | (with_reducible refine drw_i (by kernel_rfl)) | simp -dsimp only [go_sem, seval, *, bne_self_eq_false] | ((with_reducible refine opK_c ?_); simp -dsimp only [go_sem, seval, bne_self_eq_false]; first | refine callK_r (by first | assumption | fail) (by first | exact .inl rfl | exact .inr rfl) ?_ | (refine callK_i (by assumption) ?_ ?_ ?_; (solve | (repeat (first | exact DLe.refl _ | exact DLe.nil _ | (refine DLe.tup ?_) | (refine DLe.agg ?_ rfl) | exact trivial | (refine And.intro ?_ ?_)))); (solve | exact .inl rfl | exact .inr rfl))) | fail | omega | exact decide_eq_true (by omega) | exact DLe.refl _)
  all_goals exact dle_b (by grind)
/-- The first that is so has been found. -/
theorem idxI_hit {α : Type} {p : α → Bool} {l : List α} {k : Nat} {x : α} (hx : l[k]? = some x) (hp : p x = true) (hno : (l.take k).all (fun y => !p y) = true) : idxI p l = k :=
  idxI_some hx hp fun y hy => by have := List.all_eq_true.1 hno y hy; simpa using this
theorem idxI_no {α : Type} {p : α → Bool} {l : List α} (hno : (l.take l.length).all (fun y => !p y) = true) : idxI p l = -1 :=
  idxI_none fun y hy => by rw [List.take_length] at hno; have := List.all_eq_true.1 hno y hy; simpa using this
theorem no_snoc {α : Type} {p : α → Bool} {l : List α} {k : Nat} {x : α} (hx : l[k]? = some x) (hno : (l.take k).all p = true) (h : p x = true) : (l.take (k + 1)).all p = true := by rw [all_snoc hx, hno, h]; rfl
theorem inRange_p (v : Vpc) (p : Pfx) (hl : v.ranges.length ≤ 1000000000) : PSpec Try.prog 40 [.agg (encV v), .agg (encP p)] (.v (.bool (holdsV v p))) := by
  obtain ⟨R, hR⟩ : ∃ R, R = holdsV v p := ⟨_, rfl⟩
  rw [← hR]
  replace hR := Lib.hid hR
  refine ps_i tab_ok mixed Try.func40 rfl Try.ntmps40 Try.results40 (by kernel_rfl) ?_
  repeat' (first | (with_reducible refine And.intro ?_ ?_) | (with_reducible refine gK_i (fun _ => ?_) (fun _ => ?_)) | (with_reducible refine condS_i (fun _ => ?_) (fun _ => ?_)) | (with_reducible refine drw_i (by kernel_rfl)) | simp -dsimp only [go_sem, seval, *, encV, encP] | ((with_reducible refine opK_c ?_); simp -dsimp only [go_sem, seval, encV, encP]; first | refine callK_r (by first | assumption | fail) (by first | exact .inl rfl | exact .inr rfl) ?_ | (refine callK_i (by assumption) ?_ ?_ ?_; (solve | (repeat (first | exact DLe.refl _ | exact DLe.nil _ | (refine DLe.tup ?_) | (refine DLe.agg ?_ rfl) | exact trivial | (refine And.intro ?_ ?_)))); (solve | exact .inl rfl | exact .inr rfl))) | fail | omega | exact decide_eq_true (by omega) | exact DLe.refl _)
  refine loopL tab_ok mixed v.ranges (fun k => (v.ranges.take k).all (fun r => !(insQ p r.at_)) = true) (fun k => [(5, .d (.v (.int .i64 k))), (4, .d (.v (.bool false))), (3, .ptr 1 0), (2, .ptr 0 0)]) (fun _ => [.box 47 ((encV v).map .d), .box 34 ((encP p).map .d)]) rfl (weak_forget _ (by simp) (by (try simp only [encV, encP]); rfl) (by (repeat' (first | exact trivial | (refine ⟨rfl, ?_⟩)))) (by first | rfl | simp only [belowH, belowE, belowC, belowL, belowR, belowP, belowL_d, belowR_d, List.length_cons, List.length_nil, Nat.reduceAdd, Nat.reduceLT, decide_true, Bool.and_self, Bool.and_true]) (by first | rfl | simp only [belowH, belowE, belowC, belowL, belowR, belowP, belowL_d, belowR_d, List.length_cons, List.length_nil, Nat.reduceAdd, Nat.reduceLT, decide_true, Bool.and_self, Bool.and_true])) ?_ ?_
  · intro k r hr hk hI C hC
    have hkI : (k : Int) < (v.ranges.length : Int) := by omega
    have hwr : IntKind.i64.wrap ((k : Int) + 1) = ((k + 1 : Nat) : Int) := by rw [IntKind.wrap_i64]; omega
    have hi := insideOf_p p r.at_
    rw [insR_eq] at hi
    replace hI := Lib.hid hI
    cases h1 : insQ p r.at_ with
    | true =>
      rw [h1] at hi
      have hb : R = true := by rw [hR.out]; exact List.any_eq_true.2 ⟨r, List.mem_of_getElem? hr, h1⟩
      rw [hb]
      replace hb := Lib.hid hb
      repeat' (first | (with_reducible refine And.intro ?_ ?_) | (with_reducible refine gK_i (fun _ => ?_) (fun _ => ?_)) | (with_reducible refine condS_i (fun _ => ?_) (fun _ => ?_)) | (with_reducible refine drw_i (by kernel_rfl)) | simp -dsimp only [go_sem, seval, *, encV, encG, encP, hkI, hwr, hr] | ((with_reducible refine opK_c ?_); simp -dsimp only [go_sem, seval, encV, encG, encP, hkI, hwr, hr]; first | refine callK_r (by first | assumption | exact hi) (by first | exact .inl rfl | exact .inr rfl) ?_ | (refine callK_i (by assumption) ?_ ?_ ?_; (solve | (repeat (first | exact DLe.refl _ | exact DLe.nil _ | (refine DLe.tup ?_) | (refine DLe.agg ?_ rfl) | exact trivial | (refine And.intro ?_ ?_)))); (solve | exact .inl rfl | exact .inr rfl))) | fail | omega | exact decide_eq_true (by omega) | exact DLe.refl _)
      all_goals exact DLe.refl _
    | false =>
      rw [h1] at hi
      have hI2 := Lib.hid (no_snoc (p := fun r : Rng => !(insQ p r.at_)) hr hI.out (by rw [h1]; rfl))
      repeat' (first | (with_reducible refine And.intro ?_ ?_) | (with_reducible refine gK_i (fun _ => ?_) (fun _ => ?_)) | (with_reducible refine condS_i (fun _ => ?_) (fun _ => ?_)) | (with_reducible refine drw_i (by kernel_rfl)) | simp -dsimp only [go_sem, seval, *, encV, encG, encP, hkI, hwr, hr] | ((with_reducible refine opK_c ?_); simp -dsimp only [go_sem, seval, encV, encG, encP, hkI, hwr, hr]; first | refine callK_r (by first | assumption | exact hi) (by first | exact .inl rfl | exact .inr rfl) ?_ | (refine callK_i (by assumption) ?_ ?_ ?_; (solve | (repeat (first | exact DLe.refl _ | exact DLe.nil _ | (refine DLe.tup ?_) | (refine DLe.agg ?_ rfl) | exact trivial | (refine And.intro ?_ ?_)))); (solve | exact .inl rfl | exact .inr rfl))) | fail | omega | exact decide_eq_true (by omega) | exact DLe.refl _)
      exact hC _ _ hI2.out (weak_forget _ (by simp) (by (try simp only [encV, encP]); rfl) (by (repeat' (first | exact trivial | (refine ⟨rfl, ?_⟩)))) (by first | rfl | simp only [belowH, belowE, belowC, belowL, belowR, belowP, belowL_d, belowR_d, List.length_cons, List.length_nil, Nat.reduceAdd, Nat.reduceLT, decide_true, Bool.and_self, Bool.and_true]) (by first | rfl | simp only [belowH, belowE, belowC, belowL, belowR, belowP, belowL_d, belowR_d, List.length_cons, List.length_nil, Nat.reduceAdd, Nat.reduceLT, decide_true, Bool.and_self, Bool.and_true]))
  · intro hI C
    rw [List.take_length] at hI
    have hb : R = false := by rw [hR.out]; unfold holdsV; rw [List.any_eq_false]; intro x hx; have := List.all_eq_true.1 hI x hx; simpa using this
    rw [hb]
    replace hb := Lib.hid hb
    replace hI := Lib.hid hI
    repeat' (first | (with_reducible refine And.intro ?_ ?_) | (with_reducible refine gK_i (fun _ => ?_) (fun _ => ?_)) | (with_reducible refine condS_i (fun _ => ?_) (fun _ => ?_)) | (with_reducible refine drw_i (by kernel_rfl)) | simp -dsimp only [go_sem, seval, *, encV, Int.lt_irrefl] | ((with_reducible refine opK_c ?_); simp -dsimp only [go_sem, seval, encV, Int.lt_irrefl]; first | refine callK_r (by first | assumption | fail) (by first | exact .inl rfl | exact .inr rfl) ?_ | (refine callK_i (by assumption) ?_ ?_ ?_; (solve | (repeat (first | exact DLe.refl _ | exact DLe.nil _ | (refine DLe.tup ?_) | (refine DLe.agg ?_ rfl) | exact trivial | (refine And.intro ?_ ?_)))); (solve | exact .inl rfl | exact .inr rfl))) | fail | omega | exact decide_eq_true (by omega) | exact DLe.refl _)
    all_goals exact DLe.refl _
set_option maxRecDepth 100000 in
theorem innerR_p (s : Sbn) (x : Int) : PSpec Try.prog 60 [.agg (encN s), .v (.int .i64 x)] (.v (.bool (innB s.at_ x))) := by
  have hh : PSpec Try.prog 28 [.agg (encP s.at_), .v (.int .i64 x)] (.v (.bool (holdB s.at_.at_ s.at_.len x))) := holdsIt_p s.at_ x
  cases h1 : holdB s.at_.at_ s.at_.len x with
  | false =>
    have hr : innB s.at_ x = false := by unfold innB; rw [holdP_eq, h1]; rfl
    rw [h1] at hh
    rw [hr]
    refine ps_i tab_ok mixed Try.func60 rfl Try.ntmps60 Try.results60 (by kernel_rfl) ?_
    repeat' (first | (with_reducible refine And.intro ?_ ?_) | (with_reducible refine gK_i (fun _ => ?_) (fun _ => ?_)) | (with_reducible refine condS_i (fun _ => ?_) (fun _ => ?_)) | (with_reducible refine drw_i (by kernel_rfl)) | simp -dsimp only [go_sem, seval, *, encN, undef] | ((with_reducible refine opK_c ?_); simp -dsimp only [go_sem, seval, encN, undef]; first | refine callK_r (by first | assumption | exact hh) (by first | exact .inl rfl | exact .inr rfl) ?_ | (refine callK_i (by assumption) ?_ ?_ ?_; (solve | (repeat (first | exact DLe.refl _ | exact DLe.nil _ | (refine DLe.tup ?_) | (refine DLe.agg ?_ rfl) | exact trivial | (refine And.intro ?_ ?_)))); (solve | exact .inl rfl | exact .inr rfl))) | fail | omega | exact decide_eq_true (by omega) | exact DLe.refl _)
    all_goals exact DLe.refl _
  | true =>
    have hrt := holdB_iff.1 h1
    have hla := last_p s.at_ (by rw [← Pfx.right]; exact hrt.1)
    have hla2 : lastI s.at_.at_ s.at_.len = s.at_.hi - 1 := rfl
    have hr : innB s.at_ x = ((x != s.at_.at_) && (x != s.at_.hi - 1)) := by
      unfold innB
      rw [holdP_eq, h1, Bool.true_and, Bool.eq_iff_iff]
      have : s.at_.hi = s.at_.at_ + szI s.at_.len := rfl
      simp only [Bool.and_eq_true, decide_eq_true_eq, bne_iff_ne]
      omega
    rw [hla2] at hla
    rw [h1] at hh
    rw [hr]
    have hla : PSpec Try.prog 43 [.agg (encP s.at_)] (.v (.int .i64 (s.at_.hi - 1))) := hla
    generalize s.at_.hi - 1 = Z at *
    cases h2 : (x != s.at_.at_) with
    | false =>
      refine ps_i tab_ok mixed Try.func60 rfl Try.ntmps60 Try.results60 (by kernel_rfl) ?_
      repeat' (first | (with_reducible refine And.intro ?_ ?_) | (with_reducible refine gK_i (fun _ => ?_) (fun _ => ?_)) | (with_reducible refine condS_i (fun _ => ?_) (fun _ => ?_)) | (with_reducible refine drw_i (by kernel_rfl)) | simp -dsimp only [go_sem, seval, *, encN, encP, h2, undef] | ((with_reducible refine opK_c ?_); simp -dsimp only [go_sem, seval, encN, encP, h2, undef]; first | refine callK_r (by first | assumption | exact hh) (by first | exact .inl rfl | exact .inr rfl) ?_ | (refine callK_i (by assumption) ?_ ?_ ?_; (solve | (repeat (first | exact DLe.refl _ | exact DLe.nil _ | (refine DLe.tup ?_) | (refine DLe.agg ?_ rfl) | exact trivial | (refine And.intro ?_ ?_)))); (solve | exact .inl rfl | exact .inr rfl))) | fail | omega | exact decide_eq_true (by omega) | exact DLe.refl _)
      all_goals exact DLe.refl _
    | true =>
      refine ps_i tab_ok mixed Try.func60 rfl Try.ntmps60 Try.results60 (by kernel_rfl) ?_
      repeat' (first | (with_reducible refine And.intro ?_ ?_) | (with_reducible refine gK_i (fun _ => ?_) (fun _ => ?_)) | (with_reducible refine condS_i (fun _ => ?_) (fun _ => ?_)) | (with_reducible refine drw_i (by kernel_rfl)) | simp -dsimp only [go_sem, seval, *, encN, encP, h2, undef] | ((with_reducible refine opK_c ?_); simp -dsimp only [go_sem, seval, encN, encP, h2, undef]; first | refine callK_r (by first | assumption | exact hh | exact hla) (by first | exact .inl rfl | exact .inr rfl) ?_ | (refine callK_i (by assumption) ?_ ?_ ?_; (solve | (repeat (first | exact DLe.refl _ | exact DLe.nil _ | (refine DLe.tup ?_) | (refine DLe.agg ?_ rfl) | exact trivial | (refine And.intro ?_ ?_)))); (solve | exact .inl rfl | exact .inr rfl))) | fail | omega | exact decide_eq_true (by omega) | exact DLe.refl _)
      all_goals exact DLe.refl _

end Go.Proofs.Ytinnohljknmolaa
