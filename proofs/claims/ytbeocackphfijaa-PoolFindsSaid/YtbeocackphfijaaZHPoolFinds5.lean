/- PoolFinds: its statement, for every input, out of its walk. (texts of this work, joined) -/
import Derived.Test.YtbeocackphfijaaZHPoolFinds4
import Derived.Deep.Slices
import Derived.Deep.Fields
import Derived.ChangeSame
import Derived.OpenShut
import Derived.ProofKit
import Derived.Carry
import Derived.ChangeMaps5
import Derived.DataShut
import Derived.SizedLaws
import Derived.Test.YtbeocackphfijaaRows
import Derived.WalkKit
import Derived.ShutString
import Derived.ChangeOld
import Derived.Below
set_option linter.unusedSimpArgs false
set_option linter.unusedVariables false
namespace Go.Proofs.Ytbeocackphfijaa
open Go Go.RowKit
theorem close1_p (l : Lse) : PSpec Try.prog 67 [.agg (encL l)] (.v (.bool (l.kind != 3))) := by
  refine ps_i tab_ok mixed Try.func67 rfl Try.ntmps67 Try.results67 (by kernel_rfl) ?_
  repeat' (first | (with_reducible refine And.intro ?_ ?_) | (with_reducible refine gK_i (fun _ => ?_) (fun _ => ?_)) | (with_reducible refine condS_i (fun _ => ?_) (fun _ => ?_)) | (with_reducible refine drw_i (by kernel_rfl)) | simp -dsimp only [go_sem, ↓reduceIte, reduceCtorEq, Nat.reduceAdd, Nat.reduceMul, Nat.reduceSub, Nat.reduceLeDiff, Nat.reduceLT, Nat.reduceEqDiff, Int.reduceLE, Int.reduceLT, Int.reduceToNat, Int.reduceBEq, Int.reduceBNe, Int.reduceEq, Int.reduceAdd, Int.reduceSub, Int.reduceMul, Int.reduceNeg, Int.cast_ofNat_Int, *, encL] | ((with_reducible refine opK_c ?_); simp -dsimp only [go_sem, ↓reduceIte, reduceCtorEq, Nat.reduceAdd, Nat.reduceMul, Nat.reduceSub, Nat.reduceLeDiff, Nat.reduceLT, Nat.reduceEqDiff, Int.reduceLE, Int.reduceLT, Int.reduceToNat, Int.reduceBEq, Int.reduceBNe, Int.reduceEq, Int.reduceAdd, Int.reduceSub, Int.reduceMul, Int.reduceNeg, Int.cast_ofNat_Int, encL]; first | refine callK_r (by first | assumption | fail) (by first | exact .inl rfl | exact .inr rfl) ?_ | (refine callK_i (by assumption) ?_ ?_ ?_; (solve | (repeat (first | exact DLe.refl _ | exact DLe.nil _ | (refine DLe.tup ?_) | (refine DLe.agg ?_ rfl) | exact trivial | (refine And.intro ?_ ?_)))); (solve | exact .inl rfl | exact .inr rfl))) | fail | omega | exact decide_eq_true (by omega) | exact DLe.refl _)
theorem close2_p (l : Lse) (id : Int) : PSpec Try.prog 68 [.agg (encL l), .ept [.v (.int .i64 id)]] (.v (.bool (forB id l))) := by
  unfold forB
  refine ps_i tab_ok mixed Try.func68 rfl Try.ntmps68 Try.results68 (by kernel_rfl) ?_
  repeat' (first | (with_reducible refine And.intro ?_ ?_) | (with_reducible refine gK_i (fun _ => ?_) (fun _ => ?_)) | (with_reducible refine condS_i (fun _ => ?_) (fun _ => ?_)) | (with_reducible refine drw_i (by kernel_rfl)) | simp -dsimp only [go_sem, ↓reduceIte, reduceCtorEq, Nat.reduceAdd, Nat.reduceMul, Nat.reduceSub, Nat.reduceLeDiff, Nat.reduceLT, Nat.reduceEqDiff, Int.reduceLE, Int.reduceLT, Int.reduceToNat, Int.reduceBEq, Int.reduceBNe, Int.reduceEq, Int.reduceAdd, Int.reduceSub, Int.reduceMul, Int.reduceNeg, Int.cast_ofNat_Int, *, encL] | ((with_reducible refine opK_c ?_); simp -dsimp only [go_sem, ↓reduceIte, reduceCtorEq, Nat.reduceAdd, Nat.reduceMul, Nat.reduceSub, Nat.reduceLeDiff, Nat.reduceLT, Nat.reduceEqDiff, Int.reduceLE, Int.reduceLT, Int.reduceToNat, Int.reduceBEq, Int.reduceBNe, Int.reduceEq, Int.reduceAdd, Int.reduceSub, Int.reduceMul, Int.reduceNeg, Int.cast_ofNat_Int, encL]; first | refine callK_r (by first | assumption | fail) (by first | exact .inl rfl | exact .inr rfl) ?_ | (refine callK_i (by assumption) ?_ ?_ ?_; (solve | (repeat (first | exact DLe.refl _ | exact DLe.nil _ | (refine DLe.tup ?_) | (refine DLe.agg ?_ rfl) | exact trivial | (refine And.intro ?_ ?_)))); (solve | exact .inl rfl | exact .inr rfl))) | fail | omega | exact decide_eq_true (by omega) | exact DLe.refl _)
theorem close3_p (p : Pol) (id : Int) : PSpec Try.prog 70 [.agg (encPol p), .ept [.v (.int .i64 id)]] (.v (.bool (p.id == id))) := by
  refine ps_i tab_ok mixed Try.func70 rfl Try.ntmps70 Try.results70 (by kernel_rfl) ?_
  repeat' (first | (with_reducible refine And.intro ?_ ?_) | (with_reducible refine gK_i (fun _ => ?_) (fun _ => ?_)) | (with_reducible refine condS_i (fun _ => ?_) (fun _ => ?_)) | (with_reducible refine drw_i (by kernel_rfl)) | simp -dsimp only [go_sem, ↓reduceIte, reduceCtorEq, Nat.reduceAdd, Nat.reduceMul, Nat.reduceSub, Nat.reduceLeDiff, Nat.reduceLT, Nat.reduceEqDiff, Int.reduceLE, Int.reduceLT, Int.reduceToNat, Int.reduceBEq, Int.reduceBNe, Int.reduceEq, Int.reduceAdd, Int.reduceSub, Int.reduceMul, Int.reduceNeg, Int.cast_ofNat_Int, *, encPol] | ((with_reducible refine opK_c ?_); simp -dsimp only [go_sem, ↓reduceIte, reduceCtorEq, Nat.reduceAdd, Nat.reduceMul, Nat.reduceSub, Nat.reduceLeDiff, Nat.reduceLT, Nat.reduceEqDiff, Int.reduceLE, Int.reduceLT, Int.reduceToNat, Int.reduceBEq, Int.reduceBNe, Int.reduceEq, Int.reduceAdd, Int.reduceSub, Int.reduceMul, Int.reduceNeg, Int.cast_ofNat_Int, encPol]; first | refine callK_r (by first | assumption | fail) (by first | exact .inl rfl | exact .inr rfl) ?_ | (refine callK_i (by assumption) ?_ ?_ ?_; (solve | (repeat (first | exact DLe.refl _ | exact DLe.nil _ | (refine DLe.tup ?_) | (refine DLe.agg ?_ rfl) | exact trivial | (refine And.intro ?_ ?_)))); (solve | exact .inl rfl | exact .inr rfl))) | fail | omega | exact decide_eq_true (by omega) | exact DLe.refl _)
/-- The pools, when one is closed. -/
def closeL (b : Bok) (p : Pol) : List Pol := match poolOf b p.up with
  | none => b.pools
  | some u => match u.leases.findIdx? (forB p.id) with
    | some i => (updB b u.id fun u => { u with leases := coolL u i b.tick }).pools
    | none => b.pools
/-- Close's answer. -/
def closeR (b : Bok) (id : Int) : Bok × Int :=
  if chkBk b ≠ 0 then (Bok.zero, chkBk b) else
  match poolOf b id with
  | none => (Bok.zero, 5)
  | some p => if (p.leases.any fun l => l.kind != 3) = true then (Bok.zero, 9) else (⟨b.tick, (closeL b p).filter fun q => !(q.id == id)⟩, 0)
theorem second_mem {b : Bok} : ∀ (l : List Pol) (roots : List Pfx), secondOK b l roots = true → ∀ p ∈ l, upOK b b.pools.length p = true ∧ ∀ l ∈ p.leases, leaseOK b p l = true
  | [], _, _, p, hp => by simp at hp
  | q :: l, roots, h, p, hp => by
    simp only [secondOK, Bool.and_eq_true] at h
    rcases List.mem_cons.1 hp with rfl | hp
    · exact ⟨h.1.1, fun l hl => List.all_eq_true.1 h.1.2 l hl⟩
    · have h2 := h.2
      split at h2
      · simp only [Bool.and_eq_true] at h2
        exact second_mem l _ h2.2 p hp
      · exact second_mem l _ h2 p hp
theorem up_self {b : Bok} {p : Pol} (hp : poolOf b p.id = some p) (h1 : p.id ≠ 0) (he : p.up = p.id) : ∀ n, upOK b n p = false
  | 0 => by simp [upOK, he, h1]
  | n + 1 => by simp [upOK, he, h1, hp, up_self hp h1 he n]
theorem upOK_up {b : Bok} {n : Nat} {p u : Pol} (h : upOK b n p = true) (h0 : p.up ≠ 0) (hu : poolOf b p.up = some u) : u.leases.any (forB p.id) = true := by
  cases n with
  | zero => simp [upOK, h0] at h
  | succ n =>
    simp only [upOK, hu, Bool.or_eq_true, Bool.and_eq_true, beq_iff_eq] at h
    rcases h with h | h
    · exact absurd h h0
    · exact h.1
theorem zipR_other {pre post : List Pol} {p q : Pol} {r : List PV} {i : Nat} (h : (pre ++ p :: post)[i]? = some q) (hne : i ≠ pre.length) : (zipR pre r post)[i]? = some ((encPol q).map .d) := by
  unfold zipR
  rcases Nat.lt_trichotomy i pre.length with hlt | he | hgt
  · rw [List.getElem?_append_left hlt] at h
    rw [List.getElem?_append_left (by rw [dRows_len, List.length_map]; exact hlt), dRows_get, List.getElem?_map, h]; rfl
  · exact absurd he hne
  · rw [List.getElem?_append_right (by omega)] at h
    rw [List.getElem?_append_right (by rw [dRows_len, List.length_map]; omega), dRows_len, List.length_map]
    obtain ⟨j, hj⟩ : ∃ j, i - pre.length = j + 1 := ⟨i - pre.length - 1, by omega⟩
    rw [hj, List.getElem?_cons_succ] at h ⊢
    rw [dRows_get, List.getElem?_map, h]; rfl
set_option maxRecDepth 100000 in
set_option maxHeartbeats 1000000 in
theorem close_p (b : Bok) (id : Int) (hz : ∀ p ∈ b.pools, p.leases.length ≤ 3518437208882) : PSpec Try.prog 21 [.agg (encB b), .v (.int .i64 id)] (.tup [.agg (encB (closeR b id).1), .v (.int .i64 (closeR b id).2)]) := by
  obtain ⟨R, hR⟩ : ∃ R, R = closeR b id := ⟨_, rfl⟩
  rw [← hR]
  replace hR := Lib.hid hR
  by_cases hc : chkBk b = 0
  · have hbk := bookOK hc
    cases hq : poolOf b id with
    | none =>
      have hbg := beginD_m b hz hc
      have hf := find_p b id (by have := hbk.n8; omega) hbk.rise
      unfold findR at hf
      rw [hq] at hf
      have hr : R = (Bok.zero, 5) := by rw [hR.out]; unfold closeR; rw [if_neg (by simpa using hc), hq]
      rw [hr]
      clear hr hR hc hq
      refine ps_i tab_ok mixed Try.func21 rfl Try.ntmps21 Try.results21 (by kernel_rfl) ?_
      repeat' (first | (with_reducible refine And.intro ?_ ?_) | (with_reducible refine gK_i (fun _ => ?_) (fun _ => ?_)) | (with_reducible refine condS_i (fun _ => ?_) (fun _ => ?_)) | (with_reducible refine drw_i (by kernel_rfl)) | simp -dsimp only [go_sem, ↓reduceIte, reduceCtorEq, Nat.reduceAdd, Nat.reduceMul, Nat.reduceSub, Nat.reduceLeDiff, Nat.reduceLT, Nat.reduceEqDiff, Int.reduceLE, Int.reduceLT, Int.reduceToNat, Int.reduceBEq, Int.reduceBNe, Int.reduceEq, Int.reduceAdd, Int.reduceSub, Int.reduceMul, Int.reduceNeg, Int.cast_ofNat_Int, *, encB, encP] | ((with_reducible refine opK_c ?_); simp -dsimp only [go_sem, ↓reduceIte, reduceCtorEq, Nat.reduceAdd, Nat.reduceMul, Nat.reduceSub, Nat.reduceLeDiff, Nat.reduceLT, Nat.reduceEqDiff, Int.reduceLE, Int.reduceLT, Int.reduceToNat, Int.reduceBEq, Int.reduceBNe, Int.reduceEq, Int.reduceAdd, Int.reduceSub, Int.reduceMul, Int.reduceNeg, Int.cast_ofNat_Int, encB, encP]; first | refine callK_r (by first | assumption | exact hf) (by first | exact .inl rfl | exact .inr rfl) ?_ | (refine callK_i (by assumption) ?_ ?_ ?_; (solve | (repeat (first | exact DLe.refl _ | exact DLe.nil _ | (refine DLe.tup ?_) | (refine DLe.agg ?_ rfl) | exact trivial | (refine And.intro ?_ ?_)))); (solve | exact .inl rfl | exact .inr rfl))) | (refine opK_M [] (hbg) ?_ ?_ ?_ ?_ ?_ ?_; (solve | rfl | simp only [go_sem, ↓reduceIte, reduceCtorEq, Nat.reduceAdd, Nat.reduceMul, Nat.reduceSub, Nat.reduceLeDiff, Nat.reduceLT, Nat.reduceEqDiff, Int.reduceLE, Int.reduceLT, Int.reduceToNat, Int.reduceBEq, Int.reduceBNe, Int.reduceEq, Int.reduceAdd, Int.reduceSub, Int.reduceMul, Int.reduceNeg, Int.cast_ofNat_Int, encB]); (solve | rfl); (solve | decide); (solve | simp); (solve | simp only [go_sem, ↓reduceIte, reduceCtorEq, Nat.reduceAdd, Nat.reduceMul, Nat.reduceSub, Nat.reduceLeDiff, Nat.reduceLT, Nat.reduceEqDiff, Int.reduceLE, Int.reduceLT, Int.reduceToNat, Int.reduceBEq, Int.reduceBNe, Int.reduceEq, Int.reduceAdd, Int.reduceSub, Int.reduceMul, Int.reduceNeg, Int.cast_ofNat_Int, lentOK, encB])) | omega | exact decide_eq_true (by omega) | exact DLe.refl _)
      exact (by repeat (first | exact DLe.refl _ | exact DLe.nil _ | (refine DLe.tup ?_) | (refine DLe.agg ?_ rfl) | exact trivial | (refine And.intro ?_ ?_)))
    | some p =>
      obtain ⟨i, hpi, rfl⟩ := poolOf_some hq
      have hpm : p ∈ b.pools := List.mem_of_getElem? hpi
      have hl32 := hbk.l32 p hpm
      have hcn := cntf_Lease encL_len (fun l => l.kind != 3) p.leases 67 [] (by omega) (fun l _ => close1_p l)
      have hR2 : R = if (p.leases.any fun l => l.kind != 3) = true then (Bok.zero, 9) else (⟨b.tick, (closeL b p).filter fun q => !(q.id == p.id)⟩, 0) := by
        rw [hR.out]; unfold closeR; rw [if_neg (by simpa using hc), hq]
      replace hR2 := Lib.hid hR2
      cases hu : poolOf b p.up with
      | none =>
        have hbg := beginD_m b hz hc
        have hf := find_m b i p b.pools.length (dRows (b.pools.map encPol)) [] (.d (.v (.int .i64 b.tick))) hpi hbk.rise hbk.n8 (by simp [dRows_len]) (viewR_d _ _ _) (belowR_d _ _) rfl rfl
        have hf2 := find_p b p.up (by have := hbk.n8; omega) hbk.rise
        unfold findR at hf2
        rw [hu] at hf2
        have hcl : closeL b p = b.pools := by unfold closeL; rw [hu]
        have hR2 := hR2.out
        rw [hcl] at hR2
        have h8 := hbk.n8
        replace hR2 := Lib.hid hR2
        clear hq hu hcl hR hc
        refine ps_i tab_ok mixed Try.func21 rfl Try.ntmps21 Try.results21 (by kernel_rfl) ?_
        repeat' (first | (with_reducible refine And.intro ?_ ?_) | (with_reducible refine gK_i (fun _ => ?_) (fun _ => ?_)) | (with_reducible refine condS_i (fun _ => ?_) (fun _ => ?_)) | (with_reducible refine drw_i (by kernel_rfl)) | simp -dsimp only [go_sem, ↓reduceIte, reduceCtorEq, Nat.reduceAdd, Nat.reduceMul, Nat.reduceSub, Nat.reduceLeDiff, Nat.reduceLT, Nat.reduceEqDiff, Int.reduceLE, Int.reduceLT, Int.reduceToNat, Int.reduceBEq, Int.reduceBNe, Int.reduceEq, Int.reduceAdd, Int.reduceSub, Int.reduceMul, Int.reduceNeg, Int.cast_ofNat_Int, *, encB, encP, encPol, hpi] | ((with_reducible refine opK_c ?_); simp -dsimp only [go_sem, ↓reduceIte, reduceCtorEq, Nat.reduceAdd, Nat.reduceMul, Nat.reduceSub, Nat.reduceLeDiff, Nat.reduceLT, Nat.reduceEqDiff, Int.reduceLE, Int.reduceLT, Int.reduceToNat, Int.reduceBEq, Int.reduceBNe, Int.reduceEq, Int.reduceAdd, Int.reduceSub, Int.reduceMul, Int.reduceNeg, Int.cast_ofNat_Int, encB, encP, encPol, hpi]; first | refine callK_r (by first | assumption | exact hcn | exact hf2) (by first | exact .inl rfl | exact .inr rfl) ?_ | (refine callK_i (by assumption) ?_ ?_ ?_; (solve | (repeat (first | exact DLe.refl _ | exact DLe.nil _ | (refine DLe.tup ?_) | (refine DLe.agg ?_ rfl) | exact trivial | (refine And.intro ?_ ?_)))); (solve | exact .inl rfl | exact .inr rfl))) | (refine opK_M [] (hbg) ?_ ?_ ?_ ?_ ?_ ?_; (solve | rfl | simp only [go_sem, ↓reduceIte, reduceCtorEq, Nat.reduceAdd, Nat.reduceMul, Nat.reduceSub, Nat.reduceLeDiff, Nat.reduceLT, Nat.reduceEqDiff, Int.reduceLE, Int.reduceLT, Int.reduceToNat, Int.reduceBEq, Int.reduceBNe, Int.reduceEq, Int.reduceAdd, Int.reduceSub, Int.reduceMul, Int.reduceNeg, Int.cast_ofNat_Int, encB]); (solve | rfl); (solve | decide); (solve | simp); (solve | simp only [go_sem, ↓reduceIte, reduceCtorEq, Nat.reduceAdd, Nat.reduceMul, Nat.reduceSub, Nat.reduceLeDiff, Nat.reduceLT, Nat.reduceEqDiff, Int.reduceLE, Int.reduceLT, Int.reduceToNat, Int.reduceBEq, Int.reduceBNe, Int.reduceEq, Int.reduceAdd, Int.reduceSub, Int.reduceMul, Int.reduceNeg, Int.cast_ofNat_Int, lentOK, encB])) | (refine opK_M [5, 6] (hf) ?_ ?_ ?_ ?_ ?_ ?_; (solve | rfl | simp only [go_sem, ↓reduceIte, reduceCtorEq, Nat.reduceAdd, Nat.reduceMul, Nat.reduceSub, Nat.reduceLeDiff, Nat.reduceLT, Nat.reduceEqDiff, Int.reduceLE, Int.reduceLT, Int.reduceToNat, Int.reduceBEq, Int.reduceBNe, Int.reduceEq, Int.reduceAdd, Int.reduceSub, Int.reduceMul, Int.reduceNeg, Int.cast_ofNat_Int, encB]); (solve | rfl); (solve | decide); (solve | simp); (solve | simp only [go_sem, ↓reduceIte, reduceCtorEq, Nat.reduceAdd, Nat.reduceMul, Nat.reduceSub, Nat.reduceLeDiff, Nat.reduceLT, Nat.reduceEqDiff, Int.reduceLE, Int.reduceLT, Int.reduceToNat, Int.reduceBEq, Int.reduceBNe, Int.reduceEq, Int.reduceAdd, Int.reduceSub, Int.reduceMul, Int.reduceNeg, Int.cast_ofNat_Int, lentOK, encB])) | (refine opK_W (delf_Pool (fun q => q.id == p.id) b.pools 6 _ _ _ _ rfl rfl ?_ ?_ ⟨[.ept [.v (.int .i64 p.id)]], rfl, fun x _ => close3_p x p.id⟩ (fun m c => ⟨[.ept [.v (.int .i64 p.id)]], rfl, fun x _ => close3_p x p.id⟩)) ?_) | omega | exact decide_eq_true (by omega) | exact DLe.refl _)
        all_goals first
          | first | rfl | simp only [belowH, belowE, belowC, belowL, belowR, belowP, belowL_d, belowR_d, belowR_zip, polRow, List.length_cons, List.length_nil, Nat.reduceAdd, Nat.reduceLT, decide_true, Bool.and_self, Bool.and_true]
          | omega
          | (rw [show R = (Bok.zero, 9) from (by rw [hR2.out]; grind)]; (try simp only [List.map_append, List.map_cons]); exact (by repeat (first | exact DLe.refl _ | exact DLe.nil _ | (refine DLe.tup ?_) | (refine DLe.agg ?_ rfl) | exact trivial | (refine And.intro ?_ ?_))))
          | (rw [show R = (⟨b.tick, b.pools.filter fun q => !(q.id == p.id)⟩, 0) from (by rw [hR2.out]; grind)]; (try simp only [List.map_append, List.map_cons]); exact (by repeat (first | exact DLe.refl _ | exact DLe.nil _ | (refine DLe.tup ?_) | (refine DLe.agg ?_ rfl) | exact trivial | (refine And.intro ?_ ?_))))
      | some u =>
        obtain ⟨pre, post, hp, hue⟩ := poolOf_split hu
        have hbg := beginZ_m b pre post u hp hz hc
        have hzb := zipB hp
        have hne : i ≠ pre.length := by
          rintro rfl
          have := hzb.at_
          rw [hpi] at this
          obtain rfl := Option.some.inj this
          have h1 := (second_mem _ _ hbk.second p hpm).1
          have h2 := up_self hq (by have := (hbk.mem p hpm).1; rintro h; rw [h] at this; simp [idOK] at this) hue.symm b.pools.length
          rw [h2] at h1; exact absurd h1 (by simp)
        have hf := findZ_m hbk hzb hpi
        have hf2 := findZ_m hbk hzb hzb.at_
        rw [hue] at hf2
        have hzo := fun r => zipR_other (r := r) (by rw [← hp]; exact hpi) hne
        have hu32 := hbk.l32 u hzb.mem
        have hany := upOK_up (second_mem _ _ hbk.second p hpm).1 (by have := (hbk.mem u hzb.mem).1; rintro h; rw [← hue] at h; rw [h] at this; simp [idOK] at this) hu
        have hix := idxf_Lease encL_len (forB p.id) u.leases 68 [.ept [.v (.int .i64 p.id)]] (by omega) (fun l _ => close2_p l p.id)
        obtain ⟨j, hj⟩ : ∃ j, u.leases.findIdx? (forB p.id) = some j := by
          cases hj : u.leases.findIdx? (forB p.id) with
          | some j => exact ⟨j, rfl⟩
          | none =>
            rw [List.findIdx?_eq_none_iff] at hj
            obtain ⟨x, hx, hx2⟩ := List.any_eq_true.1 hany
            rw [hj x hx] at hx2; exact absurd hx2 (by simp)
        unfold idxI at hix
        rw [hj] at hix
        have hji : j < u.leases.length := (List.findIdx?_eq_some_iff_getElem.1 hj).1
        have hcl := cool_m pre post u j b.pools.length 1 b.tick hji hu32 (rule_cool (hbk.mem u hzb.mem).2.2) hbk.tick
        have hcL : closeL b p = pre ++ { u with leases := coolL u j b.tick } :: post := by
          unfold closeL; rw [hu]; simp only; rw [hj]; simp only; rw [updB_split hbk.rise hp]
        have hR2 := hR2.out
        rw [hcL] at hR2
        replace hR2 := Lib.hid hR2
        have h8 := hbk.n8
        have hlen : (pre ++ { u with leases := coolL u j b.tick } :: post).length ≤ 1000000000 := by
          rw [hp] at h8
          simp at h8 ⊢; omega
        clear hq hu hue hR hc hcL hany hj hpi hp hzb h8 hbk hne hpm
        refine ps_i tab_ok mixed Try.func21 rfl Try.ntmps21 Try.results21 (by kernel_rfl) ?_
        repeat' (first | (with_reducible refine And.intro ?_ ?_) | (with_reducible refine gK_i (fun _ => ?_) (fun _ => ?_)) | (with_reducible refine condS_i (fun _ => ?_) (fun _ => ?_)) | (with_reducible refine drw_i (by kernel_rfl)) | simp -dsimp only [go_sem, ↓reduceIte, reduceCtorEq, Nat.reduceAdd, Nat.reduceMul, Nat.reduceSub, Nat.reduceLeDiff, Nat.reduceLT, Nat.reduceEqDiff, Int.reduceLE, Int.reduceLT, Int.reduceToNat, Int.reduceBEq, Int.reduceBNe, Int.reduceEq, Int.reduceAdd, Int.reduceSub, Int.reduceMul, Int.reduceNeg, Int.cast_ofNat_Int, *, encB, encP, encPol, polRow, renR_zip, zipR_get, hzo] | ((with_reducible refine opK_c ?_); simp -dsimp only [go_sem, ↓reduceIte, reduceCtorEq, Nat.reduceAdd, Nat.reduceMul, Nat.reduceSub, Nat.reduceLeDiff, Nat.reduceLT, Nat.reduceEqDiff, Int.reduceLE, Int.reduceLT, Int.reduceToNat, Int.reduceBEq, Int.reduceBNe, Int.reduceEq, Int.reduceAdd, Int.reduceSub, Int.reduceMul, Int.reduceNeg, Int.cast_ofNat_Int, encB, encP, encPol, polRow, renR_zip, zipR_get, hzo]; first | refine callK_r (by first | assumption | exact hcn | exact hix) (by first | exact .inl rfl | exact .inr rfl) ?_ | (refine callK_i (by assumption) ?_ ?_ ?_; (solve | (repeat (first | exact DLe.refl _ | exact DLe.nil _ | (refine DLe.tup ?_) | (refine DLe.agg ?_ rfl) | exact trivial | (refine And.intro ?_ ?_)))); (solve | exact .inl rfl | exact .inr rfl))) | (refine opK_M [] (hbg) ?_ ?_ ?_ ?_ ?_ ?_; (solve | rfl | simp only [go_sem, ↓reduceIte, reduceCtorEq, Nat.reduceAdd, Nat.reduceMul, Nat.reduceSub, Nat.reduceLeDiff, Nat.reduceLT, Nat.reduceEqDiff, Int.reduceLE, Int.reduceLT, Int.reduceToNat, Int.reduceBEq, Int.reduceBNe, Int.reduceEq, Int.reduceAdd, Int.reduceSub, Int.reduceMul, Int.reduceNeg, Int.cast_ofNat_Int, encB, polRow, renR_zip]); (solve | rfl); (solve | decide); (solve | simp); (solve | simp only [go_sem, ↓reduceIte, reduceCtorEq, Nat.reduceAdd, Nat.reduceMul, Nat.reduceSub, Nat.reduceLeDiff, Nat.reduceLT, Nat.reduceEqDiff, Int.reduceLE, Int.reduceLT, Int.reduceToNat, Int.reduceBEq, Int.reduceBNe, Int.reduceEq, Int.reduceAdd, Int.reduceSub, Int.reduceMul, Int.reduceNeg, Int.cast_ofNat_Int, lentOK, encB, polRow, renR_zip])) | (refine opK_M [5, 6, 8] (hf) ?_ ?_ ?_ ?_ ?_ ?_; (solve | rfl | simp only [go_sem, ↓reduceIte, reduceCtorEq, Nat.reduceAdd, Nat.reduceMul, Nat.reduceSub, Nat.reduceLeDiff, Nat.reduceLT, Nat.reduceEqDiff, Int.reduceLE, Int.reduceLT, Int.reduceToNat, Int.reduceBEq, Int.reduceBNe, Int.reduceEq, Int.reduceAdd, Int.reduceSub, Int.reduceMul, Int.reduceNeg, Int.cast_ofNat_Int, encP, polRow, renR_zip]); (solve | rfl); (solve | decide); (solve | simp); (solve | simp only [go_sem, ↓reduceIte, reduceCtorEq, Nat.reduceAdd, Nat.reduceMul, Nat.reduceSub, Nat.reduceLeDiff, Nat.reduceLT, Nat.reduceEqDiff, Int.reduceLE, Int.reduceLT, Int.reduceToNat, Int.reduceBEq, Int.reduceBNe, Int.reduceEq, Int.reduceAdd, Int.reduceSub, Int.reduceMul, Int.reduceNeg, Int.cast_ofNat_Int, lentOK, encP, polRow, renR_zip])) | (refine opK_M [5, 6, 8] (hf2) ?_ ?_ ?_ ?_ ?_ ?_; (solve | rfl | simp only [go_sem, ↓reduceIte, reduceCtorEq, Nat.reduceAdd, Nat.reduceMul, Nat.reduceSub, Nat.reduceLeDiff, Nat.reduceLT, Nat.reduceEqDiff, Int.reduceLE, Int.reduceLT, Int.reduceToNat, Int.reduceBEq, Int.reduceBNe, Int.reduceEq, Int.reduceAdd, Int.reduceSub, Int.reduceMul, Int.reduceNeg, Int.cast_ofNat_Int, encP, polRow, renR_zip]); (solve | rfl); (solve | decide); (solve | simp); (solve | simp only [go_sem, ↓reduceIte, reduceCtorEq, Nat.reduceAdd, Nat.reduceMul, Nat.reduceSub, Nat.reduceLeDiff, Nat.reduceLT, Nat.reduceEqDiff, Int.reduceLE, Int.reduceLT, Int.reduceToNat, Int.reduceBEq, Int.reduceBNe, Int.reduceEq, Int.reduceAdd, Int.reduceSub, Int.reduceMul, Int.reduceNeg, Int.cast_ofNat_Int, lentOK, encP, polRow, renR_zip])) | (refine opK_M [6, 8] (hcl) ?_ ?_ ?_ ?_ ?_ ?_; (solve | rfl | simp only [go_sem, ↓reduceIte, reduceCtorEq, Nat.reduceAdd, Nat.reduceMul, Nat.reduceSub, Nat.reduceLeDiff, Nat.reduceLT, Nat.reduceEqDiff, Int.reduceLE, Int.reduceLT, Int.reduceToNat, Int.reduceBEq, Int.reduceBNe, Int.reduceEq, Int.reduceAdd, Int.reduceSub, Int.reduceMul, Int.reduceNeg, Int.cast_ofNat_Int, encP, encL, polRow, renR_zip]); (solve | rfl); (solve | decide); (solve | simp); (solve | simp only [go_sem, ↓reduceIte, reduceCtorEq, Nat.reduceAdd, Nat.reduceMul, Nat.reduceSub, Nat.reduceLeDiff, Nat.reduceLT, Nat.reduceEqDiff, Int.reduceLE, Int.reduceLT, Int.reduceToNat, Int.reduceBEq, Int.reduceBNe, Int.reduceEq, Int.reduceAdd, Int.reduceSub, Int.reduceMul, Int.reduceNeg, Int.cast_ofNat_Int, lentOK, encP, encL, polRow, renR_zip])) | (refine opK_W (delf_Pool (fun q => q.id == p.id) (pre ++ { u with leases := coolL u j b.tick } :: post) 6 _ _ _ _ rfl rfl ?_ ?_ ⟨[.ept [.v (.int .i64 p.id)]], rfl, fun x _ => close3_p x p.id⟩ (fun m c => ⟨[.ept [.v (.int .i64 p.id)]], rfl, fun x _ => close3_p x p.id⟩)) ?_) | omega | exact decide_eq_true (by omega) | exact DLe.refl _)
        all_goals first
          | first | rfl | simp only [belowH, belowE, belowC, belowL, belowR, belowP, belowL_d, belowR_d, belowR_zip, polRow, List.length_cons, List.length_nil, Nat.reduceAdd, Nat.reduceLT, decide_true, Bool.and_self, Bool.and_true]
          | (simpa using hlen)
          | (rw [show R = (Bok.zero, 9) from (by rw [hR2.out]; grind)]; (try simp only [List.map_append, List.map_cons]); exact (by repeat (first | exact DLe.refl _ | exact DLe.nil _ | (refine DLe.tup ?_) | (refine DLe.agg ?_ rfl) | exact trivial | (refine And.intro ?_ ?_))))
          | (rw [show R = (⟨b.tick, (pre ++ { u with leases := coolL u j b.tick } :: post).filter fun q => !(q.id == p.id)⟩, 0) from (by rw [hR2.out]; grind)]; (try simp only [List.map_append, List.map_cons]); exact (by repeat (first | exact DLe.refl _ | exact DLe.nil _ | (refine DLe.tup ?_) | (refine DLe.agg ?_ rfl) | exact trivial | (refine And.intro ?_ ?_))))
  · have hbg := beginE_p b hz hc
    have h1 : (chkBk b != 0) = true := by simpa using hc
    have hr : R = (Bok.zero, chkBk b) := by rw [hR.out]; unfold closeR; rw [if_pos hc]
    rw [hr]
    replace hr := Lib.hid hr
    refine ps_i tab_ok mixed Try.func21 rfl Try.ntmps21 Try.results21 (by kernel_rfl) ?_
    repeat' (first | (with_reducible refine And.intro ?_ ?_) | (with_reducible refine gK_i (fun _ => ?_) (fun _ => ?_)) | (with_reducible refine condS_i (fun _ => ?_) (fun _ => ?_)) | (with_reducible refine drw_i (by kernel_rfl)) | simp -dsimp only [go_sem, ↓reduceIte, reduceCtorEq, Nat.reduceAdd, Nat.reduceMul, Nat.reduceSub, Nat.reduceLeDiff, Nat.reduceLT, Nat.reduceEqDiff, Int.reduceLE, Int.reduceLT, Int.reduceToNat, Int.reduceBEq, Int.reduceBNe, Int.reduceEq, Int.reduceAdd, Int.reduceSub, Int.reduceMul, Int.reduceNeg, Int.cast_ofNat_Int, *, encB, encP, h1] | ((with_reducible refine opK_c ?_); simp -dsimp only [go_sem, ↓reduceIte, reduceCtorEq, Nat.reduceAdd, Nat.reduceMul, Nat.reduceSub, Nat.reduceLeDiff, Nat.reduceLT, Nat.reduceEqDiff, Int.reduceLE, Int.reduceLT, Int.reduceToNat, Int.reduceBEq, Int.reduceBNe, Int.reduceEq, Int.reduceAdd, Int.reduceSub, Int.reduceMul, Int.reduceNeg, Int.cast_ofNat_Int, encB, encP, h1]; first | refine callK_r (by first | assumption | exact hbg) (by first | exact .inl rfl | exact .inr rfl) ?_ | (refine callK_i (by assumption) ?_ ?_ ?_; (solve | (repeat (first | exact DLe.refl _ | exact DLe.nil _ | (refine DLe.tup ?_) | (refine DLe.agg ?_ rfl) | exact trivial | (refine And.intro ?_ ?_)))); (solve | exact .inl rfl | exact .inr rfl))) | fail | omega | exact decide_eq_true (by omega) | exact DLe.refl _)
    exact (by repeat (first | exact DLe.refl _ | exact DLe.nil _ | (refine DLe.tup ?_) | (refine DLe.agg ?_ rfl) | exact trivial | (refine And.intro ?_ ?_)))
end Go.Proofs.Ytbeocackphfijaa
namespace Go.Proofs.Ytbeocackphfijaa
open Go Go.RowKit
theorem Bok.zero_le : DLe (.agg [.v (.int .i64 0), .v (.slice none 0 0)]) (.agg (encB Bok.zero)) := (by repeat (first | exact DLe.refl _ | exact DLe.nil _ | (refine DLe.tup ?_) | (refine DLe.agg ?_ rfl) | exact trivial | (refine And.intro ?_ ?_)))
end Go.Proofs.Ytbeocackphfijaa
namespace Go.Proofs.Ytbeocackphfijaa
open Go Go.RowKit
def Lse.zero : Lse := ⟨Pfx.zero, 0, 0, 0⟩
end Go.Proofs.Ytbeocackphfijaa
namespace Go.Proofs.Ytbeocackphfijaa
open Go Go.RowKit
/-- Pools' rows, the leases of each in a chunk for itself. -/
def rowsF : Nat → List Pol → List (List PV)
  | _, [] => []
  | k, p :: ps => polRow p (.own k 1) :: rowsF (k + 2) ps
def chF : List Pol → List Chunk
  | [] => []
  | p :: ps => .gone :: .row 50 5 1 (dRows (p.leases.map encL)) :: chF ps
theorem rowsF_len : ∀ (ps : List Pol) (k : Nat), (rowsF k ps).length = ps.length
  | [], _ => rfl
  | p :: ps, k => by simp only [rowsF, List.length_cons, rowsF_len ps]
theorem chF_len : ∀ ps : List Pol, (chF ps).length = 2 * ps.length
  | [] => rfl
  | p :: ps => by simp only [chF, List.length_cons, chF_len ps]; omega
theorem rowsF_snoc (p : Pol) : ∀ (ps : List Pol) (k : Nat), rowsF k (ps ++ [p]) = rowsF k ps ++ [polRow p (.own (k + 2 * ps.length) 1)]
  | [], k => rfl
  | q :: ps, k => by
    simp only [List.cons_append, rowsF, rowsF_snoc p ps, List.length_cons]
    rw [show k + 2 + 2 * ps.length = k + 2 * (ps.length + 1) by omega]
theorem chF_snoc (p : Pol) : ∀ ps : List Pol, chF (ps ++ [p]) = chF ps ++ [.gone, .row 50 5 1 (dRows (p.leases.map encL))]
  | [] => rfl
  | q :: ps => by simp only [List.cons_append, chF, chF_snoc p ps]
theorem belowR_rowsF (n : Nat) : ∀ (ps : List Pol) (k : Nat), k + 2 * ps.length < n + 2 → belowR n (rowsF k ps) = true
  | [], _, _ => rfl
  | p :: ps, k, h => by
    simp only [List.length_cons] at h
    simp only [rowsF, belowR, polRow, belowL, belowP, belowR_rowsF n ps (k + 2) (by omega), Bool.and_true, Bool.true_and, decide_eq_true_eq]
    omega
theorem belowH_chF (n : Nat) : ∀ ps : List Pol, belowH n (chF ps) = true
  | [] => rfl
  | p :: ps => by simp only [chF, belowH, belowC, belowR_d, belowH_chF n ps, Bool.and_self]
theorem setC_last1 (a : List Chunk) (c d : Chunk) : setC (a ++ [c]) a.length d = a ++ [d] := by
  have := setC_app a c d []
  simpa using this
theorem setC_last2 (a : List Chunk) (c e d : Chunk) : setC (a ++ [c, e]) a.length d = a ++ [d, e] := setC_app a c d [e]
theorem setC_end1 (a : List Chunk) (c d : Chunk) : setC (a ++ [c]) (a.length + 1) d = a ++ [c, d] := by
  have := setC_last (a ++ [c]) d
  rw [List.length_append] at this
  simpa using this
theorem hat_end (a : List Chunk) (c : Chunk) (l : List Chunk) : hatL (a ++ c :: l) a.length = c := by
  induction a with
  | nil => rfl
  | cons x a ih => exact ih
theorem hat_end1 (a : List Chunk) (c d : Chunk) (l : List Chunk) : hatL (a ++ c :: d :: l) (a.length + 1) = d := by
  induction a with
  | nil => rfl
  | cons x a ih => exact ih
theorem hat_end2 (a : List Chunk) (c d e : Chunk) (l : List Chunk) : hatL (a ++ c :: d :: e :: l) (a.length + 2) = e := by
  induction a with
  | nil => rfl
  | cons x a ih => exact ih
theorem setC_end2 (a : List Chunk) (c e d : Chunk) : setC (a ++ [c, e]) (a.length + 2) d = a ++ [c, e, d] := by
  have := setC_last (a ++ [c, e]) d
  rw [List.length_append] at this
  simpa using this
theorem belowH_app (n : Nat) : ∀ (l m : List Chunk), belowH n (l ++ m) = (belowH n l && belowH n m)
  | [], m => rfl
  | c :: l, m => by simp only [List.cons_append, belowH, belowH_app n l m, Bool.and_assoc]
set_option maxRecDepth 100000 in
set_option maxHeartbeats 1000000 in
theorem ownA_m (b : Bok) (h8 : b.pools.length ≤ 8) (h32 : ∀ p ∈ b.pools, p.leases.length ≤ 32) :
    MSpec Try.prog 76 [.d (.agg (encB b))] [] (.ptr 1 0) (.gone :: .box 24 [.d (.v (.int .i64 b.tick)), .own 2 b.pools.length] :: .row 46 9 b.pools.length (rowsF 4 b.pools) :: chF b.pools) := by
  refine ms_i tab_ok mixed Try.func76 rfl Try.ntmps76 Try.results76 (by kernel_rfl) (by simp) (by simp [belowL, belowP]) (by simp [belowH, belowC, belowL, belowP, belowL_d, belowR_d]) ?_
  repeat' (first | (with_reducible refine And.intro ?_ ?_) | (with_reducible refine gK_i (fun _ => ?_) (fun _ => ?_)) | (with_reducible refine condS_i (fun _ => ?_) (fun _ => ?_)) | (with_reducible refine drw_i (by kernel_rfl)) | simp -dsimp only [go_sem, ↓reduceIte, reduceCtorEq, Nat.reduceAdd, Nat.reduceMul, Nat.reduceSub, Nat.reduceLeDiff, Nat.reduceLT, Nat.reduceEqDiff, Int.reduceLE, Int.reduceLT, Int.reduceToNat, Int.reduceBEq, Int.reduceBNe, Int.reduceEq, Int.reduceAdd, Int.reduceSub, Int.reduceMul, Int.reduceNeg, Int.cast_ofNat_Int, *, encB] | ((with_reducible refine opK_c ?_); simp -dsimp only [go_sem, ↓reduceIte, reduceCtorEq, Nat.reduceAdd, Nat.reduceMul, Nat.reduceSub, Nat.reduceLeDiff, Nat.reduceLT, Nat.reduceEqDiff, Int.reduceLE, Int.reduceLT, Int.reduceToNat, Int.reduceBEq, Int.reduceBNe, Int.reduceEq, Int.reduceAdd, Int.reduceSub, Int.reduceMul, Int.reduceNeg, Int.cast_ofNat_Int, encB]; first | refine callK_r (by first | assumption | fail) (by first | exact .inl rfl | exact .inr rfl) ?_ | refine callK_i (by assumption) (by repeat (first | exact DLe.refl _ | exact DLe.nil _ | (refine DLe.tup ?_) | (refine DLe.agg ?_ rfl) | exact trivial | (refine And.intro ?_ ?_))) (by first | exact .inl rfl | exact .inr rfl) ?_) | omega | exact decide_eq_true (by omega) | exact DLe.refl _)
  refine loopL tab_ok mixed b.pools (fun _ => True) (fun k => [(13, .d (.v (.int .i64 k))), (12, .d (.v (.int .i64 b.pools.length))), (11, .d (.sl 9 (b.pools.map encPol))), (3, .ptr 1 0), (2, .d (.v (.pointer none)))])
    (fun k => .gone :: .box 24 [.d (.v (.int .i64 b.tick)), .own 2 k] :: .row 46 9 k (rowsF 4 (b.pools.take k)) :: chF (b.pools.take k)) trivial ?_ ?_ ?_
  · refine (weak_gone 0 (by simp)).trans ((weak_adopt_box (by simp) 1 24 [.d (.v (.int .i64 b.tick)), .d (.v (.slice none 0 0))] 1 46 9 rfl rfl rfl).trans ?_)
    exact weak_forget _ (by simp) (by (try simp only [encB]); rfl) (by (repeat' (first | exact trivial | (refine ⟨rfl, ?_⟩)))) (by first | rfl | simp only [belowH, belowE, belowC, belowL, belowR, belowP, belowL_d, belowR_d, List.length_cons, List.length_nil, Nat.reduceAdd, Nat.reduceLT, decide_true, Bool.and_self, Bool.and_true]) (by first | rfl | simp only [belowH, belowE, belowC, belowL, belowR, belowP, belowL_d, belowR_d, List.length_cons, List.length_nil, Nat.reduceAdd, Nat.reduceLT, decide_true, Bool.and_self, Bool.and_true])
  · intro k p hp hk _ C hC
    have hkI : (k : Int) < (b.pools.length : Int) := by omega
    have hwr : IntKind.i64.wrap ((k : Int) + 1) = ((k + 1 : Nat) : Int) := by rw [IntKind.wrap_i64]; omega
    have hpl := h32 p (List.mem_of_getElem? hp)
    have hb1 : k + 1 ≤ 100 := by omega
    have hlt : (List.take k b.pools).length = k := by rw [List.length_take]; omega
    have hst := take_snoc hp
    have hrl := rowsF_len (b.pools.take k) 4
    have hcl := chF_len (b.pools.take k)
    rw [hlt] at hrl hcl
    rw [hst, rowsF_snoc, chF_snoc, hlt] at hC
    have hbr := fun n h => belowR_rowsF n (b.pools.take k) 4 h
    have hbh := fun n => belowH_chF n (b.pools.take k)
    clear hst
    generalize chF (b.pools.take k) = T at *
    generalize rowsF 4 (b.pools.take k) = rows at *
    replace hcl := Lib.hid hcl
    replace hbr := Lib.hid hbr
    replace hbh := Lib.hid hbh
    repeat' (first | (with_reducible refine And.intro ?_ ?_) | (with_reducible refine gK_i (fun _ => ?_) (fun _ => ?_)) | (with_reducible refine condS_i (fun _ => ?_) (fun _ => ?_)) | (with_reducible refine drw_i (by kernel_rfl)) | simp -dsimp only [go_sem, ↓reduceIte, reduceCtorEq, Nat.reduceAdd, Nat.reduceMul, Nat.reduceSub, Nat.reduceLeDiff, Nat.reduceLT, Nat.reduceEqDiff, Int.reduceLE, Int.reduceLT, Int.reduceToNat, Int.reduceBEq, Int.reduceBNe, Int.reduceEq, Int.reduceAdd, Int.reduceSub, Int.reduceMul, Int.reduceNeg, Int.cast_ofNat_Int, *, encB, encPol, hkI, hwr, hp, hrl, setC_last, setC_last1, setC_last2, setC_end1, setC_end2, hat_end, hat_end1, hat_end2] | ((with_reducible refine opK_c ?_); simp -dsimp only [go_sem, ↓reduceIte, reduceCtorEq, Nat.reduceAdd, Nat.reduceMul, Nat.reduceSub, Nat.reduceLeDiff, Nat.reduceLT, Nat.reduceEqDiff, Int.reduceLE, Int.reduceLT, Int.reduceToNat, Int.reduceBEq, Int.reduceBNe, Int.reduceEq, Int.reduceAdd, Int.reduceSub, Int.reduceMul, Int.reduceNeg, Int.cast_ofNat_Int, encB, encPol, hkI, hwr, hp, hrl, setC_last, setC_last1, setC_last2, setC_end1, setC_end2, hat_end, hat_end1, hat_end2]; first | refine callK_r (by first | assumption | fail) (by first | exact .inl rfl | exact .inr rfl) ?_ | (refine callK_i (by assumption) ?_ ?_ ?_; (solve | (repeat (first | exact DLe.refl _ | exact DLe.nil _ | (refine DLe.tup ?_) | (refine DLe.agg ?_ rfl) | exact trivial | (refine And.intro ?_ ?_)))); (solve | exact .inl rfl | exact .inr rfl))) | (refine opK_M [] (clone_Lease encL p.leases (by omega)) ?_ ?_ ?_ ?_ ?_ ?_; (solve | rfl | simp only [go_sem, ↓reduceIte, reduceCtorEq, Nat.reduceAdd, Nat.reduceMul, Nat.reduceSub, Nat.reduceLeDiff, Nat.reduceLT, Nat.reduceEqDiff, Int.reduceLE, Int.reduceLT, Int.reduceToNat, Int.reduceBEq, Int.reduceBNe, Int.reduceEq, Int.reduceAdd, Int.reduceSub, Int.reduceMul, Int.reduceNeg, Int.cast_ofNat_Int, encPol]); (solve | rfl); (solve | decide); (solve | simp); (solve | simp only [go_sem, ↓reduceIte, reduceCtorEq, Nat.reduceAdd, Nat.reduceMul, Nat.reduceSub, Nat.reduceLeDiff, Nat.reduceLT, Nat.reduceEqDiff, Int.reduceLE, Int.reduceLT, Int.reduceToNat, Int.reduceBEq, Int.reduceBNe, Int.reduceEq, Int.reduceAdd, Int.reduceSub, Int.reduceMul, Int.reduceNeg, Int.cast_ofNat_Int, lentOK, encPol])) | omega | exact decide_eq_true (by omega) | exact DLe.refl _)
    refine hC _ _ trivial ((weak_gone (T.length + 3) (by simp)).trans (weak_forget [.row 46 9 0 [polRow p (.own (T.length + 4) 1)]] (by simp) (h' := .gone :: .box 24 [.d (.v (.int .i64 b.tick)), .own 2 (k + 1)] :: .row 46 9 (k + 1) (rows ++ [polRow p (.own (4 + 2 * k) 1)]) :: (T ++ [.gone, .row 50 5 1 (dRows (p.leases.map encL))])) ?_ (by (repeat' (first | exact trivial | (refine ⟨rfl, ?_⟩)))) ?_ ?_))
    · simp only [setC]
      rw [setC_app, show T.length + 4 = 4 + 2 * k from by have := hcl.out; omega]
      simp only [List.cons_append, List.append_assoc, List.nil_append]
      rfl
    · have := hcl.out
      simp [belowE, belowP]
    · have := hcl.out
      have h1 := hbh.out (T.length + 5)
      have h2 := hbr.out (T.length + 5) (by rw [hlt]; omega)
      simp [belowH, belowC, belowL, belowP, belowR_app, belowR, belowR_d, polRow, belowH_app, h1, h2]
      omega
  · intro _ C
    repeat' (first | (with_reducible refine And.intro ?_ ?_) | (with_reducible refine gK_i (fun _ => ?_) (fun _ => ?_)) | (with_reducible refine condS_i (fun _ => ?_) (fun _ => ?_)) | (with_reducible refine drw_i (by kernel_rfl)) | simp -dsimp only [go_sem, ↓reduceIte, reduceCtorEq, Nat.reduceAdd, Nat.reduceMul, Nat.reduceSub, Nat.reduceLeDiff, Nat.reduceLT, Nat.reduceEqDiff, Int.reduceLE, Int.reduceLT, Int.reduceToNat, Int.reduceBEq, Int.reduceBNe, Int.reduceEq, Int.reduceAdd, Int.reduceSub, Int.reduceMul, Int.reduceNeg, Int.cast_ofNat_Int, *, encB, Int.lt_irrefl] | ((with_reducible refine opK_c ?_); simp -dsimp only [go_sem, ↓reduceIte, reduceCtorEq, Nat.reduceAdd, Nat.reduceMul, Nat.reduceSub, Nat.reduceLeDiff, Nat.reduceLT, Nat.reduceEqDiff, Int.reduceLE, Int.reduceLT, Int.reduceToNat, Int.reduceBEq, Int.reduceBNe, Int.reduceEq, Int.reduceAdd, Int.reduceSub, Int.reduceMul, Int.reduceNeg, Int.cast_ofNat_Int, encB, Int.lt_irrefl]; first | refine callK_r (by first | assumption | fail) (by first | exact .inl rfl | exact .inr rfl) ?_ | (refine callK_i (by assumption) ?_ ?_ ?_; (solve | (repeat (first | exact DLe.refl _ | exact DLe.nil _ | (refine DLe.tup ?_) | (refine DLe.agg ?_ rfl) | exact trivial | (refine And.intro ?_ ?_)))); (solve | exact .inl rfl | exact .inr rfl))) | fail | omega | exact decide_eq_true (by omega) | exact DLe.refl _)
    rw [List.take_length]
    exact weak_eq rfl rfl
end Go.Proofs.Ytbeocackphfijaa
namespace Go.Proofs.Ytbeocackphfijaa
open Go Go.RowKit
theorem heapM_chF (n : Nat) : ∀ (ps : List Pol) (j : Nat) (a : List Chunk), a.length = n + j → heapM (fun x => n + x) j (chF ps) a = a ++ chF ps
  | [], j, a, _ => by simp [chF, heapM]
  | p :: ps, j, a, h => by
    have h1 : n + j = a.length := h.symm
    have h2 : n + (j + 1) = (a ++ [Chunk.gone]).length := by simp only [List.length_append, List.length_cons, List.length_nil]; omega
    simp only [chF, heapM, renC]
    rw [h1, setC_last, h2, setC_last, heapM_chF n ps (j + 1 + 1) _ (by simp; omega)]
    have hd : renR (fun x => n + x) (dRows (p.leases.map encL)) = dRows (p.leases.map encL) := renR_d _ _
    rw [hd]
    simp
theorem renR_rowsF (n : Nat) : ∀ (ps : List Pol) (k : Nat), renR (fun x => n + x) (rowsF k ps) = rowsF (n + k) ps
  | [], _ => rfl
  | p :: ps, k => by
    simp only [rowsF, renR, renR_rowsF n ps (k + 2), polRow, renL, ren]
    rw [show n + (k + 2) = n + k + 2 by omega]
set_option maxRecDepth 100000 in
theorem beginA_m (b : Bok) (hz : ∀ p ∈ b.pools, p.leases.length ≤ 3518437208882) (h : chkBk b = 0) :
    MSpec Try.prog 31 [.d (.agg (encB b))] [] (.tup [.ptr 2 0, .d (.v (.int .i64 0))]) (.gone :: .gone :: .box 24 [.d (.v (.int .i64 b.tick)), .own 3 b.pools.length] :: .row 46 9 b.pools.length (rowsF 5 b.pools) :: chF b.pools) := by
  have hc := bkCheck_p b hz
  have hb := bookOK h
  have ho := ownA_m b hb.n8 hb.l32
  rw [h] at hc
  replace h := Lib.hid h
  refine ms_i tab_ok mixed Try.func31 rfl Try.ntmps31 Try.results31 (by kernel_rfl) (by simp) (by simp [belowL, belowP]) (by simp [belowH, belowC, belowL, belowP, belowL_d, belowR_d]) ?_
  repeat' (first | (with_reducible refine And.intro ?_ ?_) | (with_reducible refine gK_i (fun _ => ?_) (fun _ => ?_)) | (with_reducible refine condS_i (fun _ => ?_) (fun _ => ?_)) | (with_reducible refine drw_i (by kernel_rfl)) | simp -dsimp only [go_sem, ↓reduceIte, reduceCtorEq, Nat.reduceAdd, Nat.reduceMul, Nat.reduceSub, Nat.reduceLeDiff, Nat.reduceLT, Nat.reduceEqDiff, Int.reduceLE, Int.reduceLT, Int.reduceToNat, Int.reduceBEq, Int.reduceBNe, Int.reduceEq, Int.reduceAdd, Int.reduceSub, Int.reduceMul, Int.reduceNeg, Int.cast_ofNat_Int, *, encB, renR_rowsF, heapM_chF] | ((with_reducible refine opK_c ?_); simp -dsimp only [go_sem, ↓reduceIte, reduceCtorEq, Nat.reduceAdd, Nat.reduceMul, Nat.reduceSub, Nat.reduceLeDiff, Nat.reduceLT, Nat.reduceEqDiff, Int.reduceLE, Int.reduceLT, Int.reduceToNat, Int.reduceBEq, Int.reduceBNe, Int.reduceEq, Int.reduceAdd, Int.reduceSub, Int.reduceMul, Int.reduceNeg, Int.cast_ofNat_Int, encB, renR_rowsF, heapM_chF]; first | refine callK_r (by first | assumption | exact hc) (by first | exact .inl rfl | exact .inr rfl) ?_ | (refine callK_i (by assumption) ?_ ?_ ?_; (solve | (repeat (first | exact DLe.refl _ | exact DLe.nil _ | (refine DLe.tup ?_) | (refine DLe.agg ?_ rfl) | exact trivial | (refine And.intro ?_ ?_)))); (solve | exact .inl rfl | exact .inr rfl))) | (refine opK_M [] (ho) ?_ ?_ ?_ ?_ ?_ ?_; (solve | rfl | simp only [go_sem, ↓reduceIte, reduceCtorEq, Nat.reduceAdd, Nat.reduceMul, Nat.reduceSub, Nat.reduceLeDiff, Nat.reduceLT, Nat.reduceEqDiff, Int.reduceLE, Int.reduceLT, Int.reduceToNat, Int.reduceBEq, Int.reduceBNe, Int.reduceEq, Int.reduceAdd, Int.reduceSub, Int.reduceMul, Int.reduceNeg, Int.cast_ofNat_Int, encB, renR_rowsF, heapM_chF]); (solve | rfl); (solve | decide); (solve | simp); (solve | simp only [go_sem, ↓reduceIte, reduceCtorEq, Nat.reduceAdd, Nat.reduceMul, Nat.reduceSub, Nat.reduceLeDiff, Nat.reduceLT, Nat.reduceEqDiff, Int.reduceLE, Int.reduceLT, Int.reduceToNat, Int.reduceBEq, Int.reduceBNe, Int.reduceEq, Int.reduceAdd, Int.reduceSub, Int.reduceMul, Int.reduceNeg, Int.cast_ofNat_Int, lentOK, encB, renR_rowsF, heapM_chF])) | omega | exact decide_eq_true (by omega) | exact DLe.refl _)
  exact (weak_gone 0 (by simp)).trans (weak_eq rfl rfl)
end Go.Proofs.Ytbeocackphfijaa
namespace Go.Proofs.Ytbeocackphfijaa
open Go Go.RowKit
def zipF (D : List Pol) (r : List PV) (k : Nat) (ps : List Pol) : List (List PV) := dRows (D.map encPol) ++ r :: rowsF k ps
theorem zipF_len (D : List Pol) (r : List PV) (k : Nat) (ps : List Pol) : (zipF D r k ps).length = D.length + 1 + ps.length := by
  unfold zipF; rw [List.length_append, List.length_cons, rowsF_len, dRows_len, List.length_map]; omega
theorem zipF_get (D : List Pol) (r : List PV) (k : Nat) (ps : List Pol) : (zipF D r k ps)[D.length]? = some r := by
  unfold zipF
  rw [List.getElem?_append_right (by simp [dRows_len])]
  simp [dRows_len]
theorem zipF_set (D : List Pol) (r r' : List PV) (k : Nat) (ps : List Pol) : (zipF D r k ps).set D.length r' = zipF D r' k ps := by
  unfold zipF
  rw [List.set_append_right _ _ (by simp [dRows_len])]
  simp [dRows_len]
theorem fzR_rowsF (k g : Nat) (d : D) : ∀ (ps : List Pol) (k0 : Nat), k < k0 → fzR k g d (rowsF k0 ps) = rowsF k0 ps
  | [], _, _ => rfl
  | p :: ps, k0, h => by
    simp only [rowsF, fzR, fzR_rowsF k g d ps (k0 + 2) (by omega), polRow, fzL, fz]
    rw [if_neg (by omega)]
theorem fzH_app (k g : Nat) (d : D) : ∀ (l m : List Chunk) (i : Nat), fzH k g d i (l ++ m) = fzH k g d i l ++ fzH k g d (i + l.length) m
  | [], m, i => rfl
  | c :: l, m, i => by
    simp only [List.cons_append, fzH, fzH_app k g d l m (i + 1), List.length_cons]
    rw [show i + 1 + l.length = i + (l.length + 1) by omega]
theorem fzH_same (k g : Nat) (d : D) : ∀ (l : List Chunk) (i : Nat), (∀ c ∈ l, fzC k g d c = c) → (∀ x, i ≤ x → x < i + l.length → x ≠ k) → fzH k g d i l = l
  | [], _, _, _ => rfl
  | c :: l, i, h, hx => by
    simp only [fzH]
    rw [if_neg (hx i (Nat.le_refl _) (by simp)), h c (by simp), fzH_same k g d l (i + 1) (fun c hc => h c (by simp [hc])) (fun x h1 h2 => hx x (by omega) (by simp; omega))]
theorem chF_mem {c : Chunk} : ∀ {ps : List Pol}, c ∈ chF ps → c = .gone ∨ ∃ ls, c = .row 50 5 1 (dRows ls)
  | p :: ps, h => by
    simp only [chF, List.mem_cons] at h
    rcases h with h | h | h
    · exact .inl h
    · exact .inr ⟨_, h⟩
    · exact chF_mem h
theorem chF_at : ∀ (ps : List Pol) (x : List Chunk) (i : Nat) (p : Pol), ps[i]? = some p → hatL (chF ps ++ x) (2 * i + 1) = .row 50 5 1 (dRows (p.leases.map encL))
  | q :: ps, x, 0, p, h => by simp at h; subst h; rfl
  | q :: ps, x, i + 1, p, h => by
    simp only [List.getElem?_cons_succ] at h
    have := chF_at ps x i p h
    simp only [chF, List.cons_append]
    rw [show 2 * (i + 1) + 1 = (2 * i + 1) + 1 + 1 by omega]
    exact this
theorem hat_right : ∀ (a b : List Chunk) (i : Nat), hatL (a ++ b) (a.length + i) = hatL b i
  | [], b, i => by simp
  | c :: a, b, i => by
    simp only [List.cons_append, List.length_cons]
    rw [show a.length + 1 + i = (a.length + i) + 1 by omega]
    exact hat_right a b i
/-- The last chunks, one of which may be turned. -/
def tailF (j : Nat) (c : Chunk) (ps : List Pol) (e : Chunk) : List Chunk := List.replicate (2 * j) .gone ++ (.gone :: c :: (chF ps ++ [e]))
structure TailOK (T : Chunk → List Chunk) (j q : Nat) (ps : List Pol) (e : Chunk) : Prop where
  a : ∀ c x, hatL (T c ++ x) (2 * j + 1) = c
  a0 : ∀ c, hatL (T c) (2 * j + 1) = c
  b : ∀ c x, hatL (T c ++ x) q = e
  b0 : ∀ c, hatL (T c) q = e
  c : ∀ c d, setC (T c) (2 * j + 1) d = T d
  len : ∀ c, (T c).length = q + 1
  h : ∀ n c, belowC n c = true → belowC n e = true → belowH n (T c) = true
  r : ∀ c x i p, ps[i]? = some p → hatL (T c ++ x) (2 * j + 1 + 2 * (i + 1)) = .row 50 5 1 (dRows (p.leases.map encL))
  f : ∀ c g d, fzC (2 * j + 7) g d e = e → fzH (2 * j + 7) g d 6 (T c) = T .gone
theorem tail_split (j : Nat) (c : Chunk) (ps : List Pol) (e : Chunk) : tailF j c ps e = (List.replicate (2 * j) Chunk.gone ++ [.gone]) ++ c :: (chF ps ++ [e]) := by
  unfold tailF; simp
theorem tailOK (j q : Nat) (ps : List Pol) (e : Chunk) (hq : q = 2 * j + 2 + 2 * ps.length) : TailOK (fun c => tailF j c ps e) j q ps e := by
  have hA : (List.replicate (2 * j) Chunk.gone ++ [Chunk.gone]).length = 2 * j + 1 := by simp
  have a0 : ∀ c, hatL (tailF j c ps e) (2 * j + 1) = c := fun c => by rw [tail_split, ← hA]; exact hat_end _ _ _
  have hl : ∀ c, (tailF j c ps e).length = q + 1 := fun c => by unfold tailF; simp [chF_len]; omega
  have b0 : ∀ c, hatL (tailF j c ps e) q = e := fun c => by
    have : tailF j c ps e = (List.replicate (2 * j) Chunk.gone ++ (.gone :: c :: chF ps)) ++ [e] := by unfold tailF; simp
    rw [this, hat_snoc, if_pos]
    simp [chF_len]; omega
  refine ⟨fun c x => ?_, a0, fun c x => ?_, b0, fun c d => ?_, hl, fun n c h1 h2 => ?_, fun c x i p hp => ?_, fun c g d he => ?_⟩
  · rw [hat_app _ _ _ (by rw [hl]; omega), a0]
  · rw [hat_app _ _ _ (by rw [hl]; omega), b0]
  · show setC (tailF j c ps e) (2 * j + 1) d = tailF j d ps e
    rw [tail_split, tail_split, ← hA]; exact setC_app _ _ _ _
  · have : belowH n (List.replicate (2 * j) Chunk.gone) = true := by
      generalize 2 * j = m
      induction m with
      | zero => rfl
      | succ m ih => rw [List.replicate_succ]; simp only [belowH, belowC, ih, Bool.and_self]
    show belowH n (tailF j c ps e) = true
    unfold tailF
    simp only [belowH_app, belowH, this, h1, h2, belowH_chF, Bool.and_true, Bool.true_and]; rfl
  · show hatL (tailF j c ps e ++ x) _ = _
    have : tailF j c ps e ++ x = (List.replicate (2 * j) Chunk.gone ++ [.gone, c]) ++ (chF ps ++ ([e] ++ x)) := by unfold tailF; simp
    rw [this]
    have hlen : (List.replicate (2 * j) Chunk.gone ++ [.gone, c]).length = 2 * j + 2 := by simp
    rw [show 2 * j + 1 + 2 * (i + 1) = (List.replicate (2 * j) Chunk.gone ++ [.gone, c]).length + (2 * i + 1) by rw [hlen]; omega, hat_right]
    exact chF_at ps _ i p hp
  · show fzH (2 * j + 7) g d 6 (tailF j c ps e) = tailF j .gone ps e
    rw [tail_split, tail_split, fzH_app, hA]
    have h1 : fzH (2 * j + 7) g d 6 (List.replicate (2 * j) Chunk.gone ++ [Chunk.gone]) = List.replicate (2 * j) Chunk.gone ++ [Chunk.gone] := by
      refine fzH_same _ _ _ _ _ (fun c hc => ?_) (fun x h1 h2 => by rw [hA] at h2; omega)
      have : c = .gone := by simp at hc; rcases hc with h | h <;> first | exact h.2 | exact h
      subst this; rfl
    rw [h1, show 6 + (2 * j + 1) = 2 * j + 7 by omega]
    simp only [fzH, if_true]
    rw [fzH_same _ _ _ _ _ (fun c hc => ?_) (fun x h1 h2 => by omega)]
    simp only [List.mem_append, List.mem_singleton] at hc
    rcases hc with hc | rfl
    · rcases chF_mem hc with rfl | ⟨ls, rfl⟩
      · rfl
      · simp only [fzC, fzR_d]
    · exact he
theorem viewR_rowsF {h : Nat → Chunk} {n : Nat} : ∀ (ps : List Pol) (k : Nat), (∀ i p, ps[i]? = some p → ∃ ls, h (k + 2 * i) = .row 50 5 1 (dRows ls)) → ∃ ds, viewR (viewF h (n + 1)) (rowsF k ps) = some ds
  | [], _, _ => ⟨[], rfl⟩
  | p :: ps, k, hk => by
    obtain ⟨ls, h1⟩ := hk 0 p rfl
    obtain ⟨ds, h2⟩ := viewR_rowsF (n := n) ps (k + 2) (fun i q hq => by
      obtain ⟨ls, h3⟩ := hk (i + 1) q (by simpa using hq)
      exact ⟨ls, by rw [← h3]; congr 1; omega⟩)
    rw [Nat.mul_zero, Nat.add_zero] at h1
    simp only [rowsF, viewR, h2, polRow, viewL, viewF, viewF_d, h1, if_true, viewR_d, Option.map_some]
    exact ⟨_, rfl⟩
end Go.Proofs.Ytbeocackphfijaa
namespace Go.Proofs.Ytbeocackphfijaa
open Go Go.RowKit
/-- A lease that is over. -/
def overB (t : Int) (l : Lse) : Bool := (l.kind == 3) && decide (l.till ≤ t)
theorem pass1_p (l : Lse) (t : Int) (x : D) : PSpec Try.prog 72 [.agg (encL l), .ept [.ept [.v (.int .i64 t), x]]] (.v (.bool (overB t l))) := by
  unfold overB
  refine ps_i tab_ok mixed Try.func72 rfl Try.ntmps72 Try.results72 (by kernel_rfl) ?_
  repeat' (first | (with_reducible refine And.intro ?_ ?_) | (with_reducible refine gK_i (fun _ => ?_) (fun _ => ?_)) | (with_reducible refine condS_i (fun _ => ?_) (fun _ => ?_)) | (with_reducible refine drw_i (by kernel_rfl)) | simp -dsimp only [go_sem, ↓reduceIte, reduceCtorEq, Nat.reduceAdd, Nat.reduceMul, Nat.reduceSub, Nat.reduceLeDiff, Nat.reduceLT, Nat.reduceEqDiff, Int.reduceLE, Int.reduceLT, Int.reduceToNat, Int.reduceBEq, Int.reduceBNe, Int.reduceEq, Int.reduceAdd, Int.reduceSub, Int.reduceMul, Int.reduceNeg, Int.cast_ofNat_Int, *, encL, undef] | ((with_reducible refine opK_c ?_); simp -dsimp only [go_sem, ↓reduceIte, reduceCtorEq, Nat.reduceAdd, Nat.reduceMul, Nat.reduceSub, Nat.reduceLeDiff, Nat.reduceLT, Nat.reduceEqDiff, Int.reduceLE, Int.reduceLT, Int.reduceToNat, Int.reduceBEq, Int.reduceBNe, Int.reduceEq, Int.reduceAdd, Int.reduceSub, Int.reduceMul, Int.reduceNeg, Int.cast_ofNat_Int, encL, undef]; first | refine callK_r (by first | assumption | fail) (by first | exact .inl rfl | exact .inr rfl) ?_ | (refine callK_i (by assumption) ?_ ?_ ?_; (solve | (repeat (first | exact DLe.refl _ | exact DLe.nil _ | (refine DLe.tup ?_) | (refine DLe.agg ?_ rfl) | exact trivial | (refine And.intro ?_ ?_)))); (solve | exact .inl rfl | exact .inr rfl))) | fail | omega | exact decide_eq_true (by omega) | exact DLe.refl _)
/-- Pass's answer. -/
def passP (t : Int) (p : Pol) : Pol := { p with leases := p.leases.filter fun l => !overB t l }
def passR (b : Bok) (n : Int) : Bok × Int :=
  if chkBk b ≠ 0 then (Bok.zero, chkBk b) else
  if n < 1 ∨ n > 1073741824 - b.tick then (Bok.zero, 3) else (⟨b.tick + n, b.pools.map (passP (b.tick + n))⟩, 0)
/-- The heap, while a book passes. -/
def passH (b : Bok) (t : Int) (rows : List (List PV)) (T : List Chunk) : List Chunk :=
  .box 24 [.d (.v (.int .i64 b.tick)), .d (.sl 9 (b.pools.map encPol))] :: .box 24 [.d (.v (.int .i64 0)), .d (.v (.slice none 0 0))] :: .gone :: .gone :: .box 24 [.d (.v (.int .i64 t)), .own 5 b.pools.length] :: .row 46 9 b.pools.length rows :: T
theorem passH_below {b : Bok} {t : Int} {rows : List (List PV)} {T : List Chunk} {n : Nat} (h1 : belowR n rows = true) (h2 : belowH n T = true) (h3 : 6 ≤ n) : belowH n (passH b t rows T) = true := by
  simp only [passH, belowH, belowC, belowL, belowP, h1, h2, Bool.and_true, Bool.true_and, decide_eq_true_eq]
  omega
set_option maxRecDepth 100000 in
set_option maxHeartbeats 1000000 in
theorem pass_p (b : Bok) (n : Int) (hz : ∀ p ∈ b.pools, p.leases.length ≤ 3518437208882) : PSpec Try.prog 22 [.agg (encB b), .v (.int .i64 n)] (.tup [.agg (encB (passR b n).1), .v (.int .i64 (passR b n).2)]) := by
  obtain ⟨R, hR⟩ : ∃ R, R = passR b n := ⟨_, rfl⟩
  rw [← hR]
  replace hR := Lib.hid hR
  by_cases hc : chkBk b = 0
  · have hbk := bookOK hc
    have hbg := beginA_m b hz hc
    have ht := hbk.tick
    have hws : IntKind.i64.wrap (1073741824 - b.tick) = 1073741824 - b.tick := by rw [IntKind.wrap_i64]; omega
    have hR2 : R = if n < 1 ∨ n > 1073741824 - b.tick then (Bok.zero, 3) else (⟨b.tick + n, b.pools.map (passP (b.tick + n))⟩, 0) := by rw [hR.out]; unfold passR; rw [if_neg (by simpa using hc)]
    replace hR2 := Lib.hid hR2
    clear hR hc
    by_cases hn : n < 1 ∨ n > 1073741824 - b.tick
    · clear hbk
      refine ps_i tab_ok mixed Try.func22 rfl Try.ntmps22 Try.results22 (by kernel_rfl) ?_
      repeat' (first | (with_reducible refine And.intro ?_ ?_) | (with_reducible refine gK_i (fun _ => ?_) (fun _ => ?_)) | (with_reducible refine condS_i (fun _ => ?_) (fun _ => ?_)) | (with_reducible refine drw_i (by kernel_rfl)) | simp -dsimp only [go_sem, ↓reduceIte, reduceCtorEq, Nat.reduceAdd, Nat.reduceMul, Nat.reduceSub, Nat.reduceLeDiff, Nat.reduceLT, Nat.reduceEqDiff, Int.reduceLE, Int.reduceLT, Int.reduceToNat, Int.reduceBEq, Int.reduceBNe, Int.reduceEq, Int.reduceAdd, Int.reduceSub, Int.reduceMul, Int.reduceNeg, Int.cast_ofNat_Int, *, encB, renR_rowsF, heapM_chF, hws, setC_last, setC_last1, hat_end, undef] | ((with_reducible refine opK_c ?_); simp -dsimp only [go_sem, ↓reduceIte, reduceCtorEq, Nat.reduceAdd, Nat.reduceMul, Nat.reduceSub, Nat.reduceLeDiff, Nat.reduceLT, Nat.reduceEqDiff, Int.reduceLE, Int.reduceLT, Int.reduceToNat, Int.reduceBEq, Int.reduceBNe, Int.reduceEq, Int.reduceAdd, Int.reduceSub, Int.reduceMul, Int.reduceNeg, Int.cast_ofNat_Int, encB, renR_rowsF, heapM_chF, hws, setC_last, setC_last1, hat_end, undef]; first | refine callK_r (by first | assumption | fail) (by first | exact .inl rfl | exact .inr rfl) ?_ | (refine callK_i (by assumption) ?_ ?_ ?_; (solve | (repeat (first | exact DLe.refl _ | exact DLe.nil _ | (refine DLe.tup ?_) | (refine DLe.agg ?_ rfl) | exact trivial | (refine And.intro ?_ ?_)))); (solve | exact .inl rfl | exact .inr rfl))) | (refine opK_M [] (hbg) ?_ ?_ ?_ ?_ ?_ ?_; (solve | rfl | simp only [go_sem, ↓reduceIte, reduceCtorEq, Nat.reduceAdd, Nat.reduceMul, Nat.reduceSub, Nat.reduceLeDiff, Nat.reduceLT, Nat.reduceEqDiff, Int.reduceLE, Int.reduceLT, Int.reduceToNat, Int.reduceBEq, Int.reduceBNe, Int.reduceEq, Int.reduceAdd, Int.reduceSub, Int.reduceMul, Int.reduceNeg, Int.cast_ofNat_Int, encB, renR_rowsF, heapM_chF]); (solve | rfl); (solve | decide); (solve | simp); (solve | simp only [go_sem, ↓reduceIte, reduceCtorEq, Nat.reduceAdd, Nat.reduceMul, Nat.reduceSub, Nat.reduceLeDiff, Nat.reduceLT, Nat.reduceEqDiff, Int.reduceLE, Int.reduceLT, Int.reduceToNat, Int.reduceBEq, Int.reduceBNe, Int.reduceEq, Int.reduceAdd, Int.reduceSub, Int.reduceMul, Int.reduceNeg, Int.cast_ofNat_Int, lentOK, encB, renR_rowsF, heapM_chF])) | omega | exact decide_eq_true (by omega) | exact DLe.refl _)
      all_goals first
        | (exfalso; rename_i q1 q2; simp only [decide_eq_false_iff_not] at q1 q2; omega)
        | (clear hz hbg; (rw [show R = (Bok.zero, 3) from (by rw [hR2.out]; grind)]; (try simp only [List.map_append, List.map_cons]); exact (by repeat (first | exact DLe.refl _ | exact DLe.nil _ | (refine DLe.tup ?_) | (refine DLe.agg ?_ rfl) | exact trivial | (refine And.intro ?_ ?_)))))
    · have h1 : decide (n < 1) = false := by simp; omega
      have h2 : decide (n > 1073741824 - b.tick) = false := by simp; omega
      have hwt : IntKind.i64.wrap (b.tick + n) = b.tick + n := by rw [IntKind.wrap_i64]; omega
      replace hn := Lib.hid hn
      refine ps_i tab_ok mixed Try.func22 rfl Try.ntmps22 Try.results22 (by kernel_rfl) ?_
      repeat' (first | (with_reducible refine And.intro ?_ ?_) | (with_reducible refine gK_i (fun _ => ?_) (fun _ => ?_)) | (with_reducible refine condS_i (fun _ => ?_) (fun _ => ?_)) | (with_reducible refine drw_i (by kernel_rfl)) | simp -dsimp only [go_sem, ↓reduceIte, reduceCtorEq, Nat.reduceAdd, Nat.reduceMul, Nat.reduceSub, Nat.reduceLeDiff, Nat.reduceLT, Nat.reduceEqDiff, Int.reduceLE, Int.reduceLT, Int.reduceToNat, Int.reduceBEq, Int.reduceBNe, Int.reduceEq, Int.reduceAdd, Int.reduceSub, Int.reduceMul, Int.reduceNeg, Int.cast_ofNat_Int, *, encB, renR_rowsF, heapM_chF, hws, h1, h2, hwt, setC_last, setC_last1, hat_end, rowsF_len, undef] | ((with_reducible refine opK_c ?_); simp -dsimp only [go_sem, ↓reduceIte, reduceCtorEq, Nat.reduceAdd, Nat.reduceMul, Nat.reduceSub, Nat.reduceLeDiff, Nat.reduceLT, Nat.reduceEqDiff, Int.reduceLE, Int.reduceLT, Int.reduceToNat, Int.reduceBEq, Int.reduceBNe, Int.reduceEq, Int.reduceAdd, Int.reduceSub, Int.reduceMul, Int.reduceNeg, Int.cast_ofNat_Int, encB, renR_rowsF, heapM_chF, hws, h1, h2, hwt, setC_last, setC_last1, hat_end, rowsF_len, undef]; first | refine callK_r (by first | assumption | fail) (by first | exact .inl rfl | exact .inr rfl) ?_ | (refine callK_i (by assumption) ?_ ?_ ?_; (solve | (repeat (first | exact DLe.refl _ | exact DLe.nil _ | (refine DLe.tup ?_) | (refine DLe.agg ?_ rfl) | exact trivial | (refine And.intro ?_ ?_)))); (solve | exact .inl rfl | exact .inr rfl))) | (refine opK_M [] (hbg) ?_ ?_ ?_ ?_ ?_ ?_; (solve | rfl | simp only [go_sem, ↓reduceIte, reduceCtorEq, Nat.reduceAdd, Nat.reduceMul, Nat.reduceSub, Nat.reduceLeDiff, Nat.reduceLT, Nat.reduceEqDiff, Int.reduceLE, Int.reduceLT, Int.reduceToNat, Int.reduceBEq, Int.reduceBNe, Int.reduceEq, Int.reduceAdd, Int.reduceSub, Int.reduceMul, Int.reduceNeg, Int.cast_ofNat_Int, encB, renR_rowsF, heapM_chF]); (solve | rfl); (solve | decide); (solve | simp); (solve | simp only [go_sem, ↓reduceIte, reduceCtorEq, Nat.reduceAdd, Nat.reduceMul, Nat.reduceSub, Nat.reduceLeDiff, Nat.reduceLT, Nat.reduceEqDiff, Int.reduceLE, Int.reduceLT, Int.reduceToNat, Int.reduceBEq, Int.reduceBNe, Int.reduceEq, Int.reduceAdd, Int.reduceSub, Int.reduceMul, Int.reduceNeg, Int.cast_ofNat_Int, lentOK, encB, renR_rowsF, heapM_chF])) | omega | exact decide_eq_true (by omega) | exact DLe.refl _)
      have hqn := chF_len b.pools
      rw [hqn]
      refine loopG tab_ok mixed (fun m e h => ∃ (pre rest : List Pol), b.pools = pre ++ rest ∧ m = rest.length ∧ e = [(44, .d (.v (.int .i64 pre.length))), (43, .d (.v (.int .i64 b.pools.length))), (6, .ptr (2 * b.pools.length + 6) 0), (5, .d (.v (.int .i64 0))), (4, .ptr 1 0)] ∧
        h = passH b (b.tick + n) (dRows ((pre.map (passP (b.tick + n))).map encPol) ++ rowsF (2 * pre.length + 7) rest) (List.replicate (2 * pre.length) .gone ++ (chF rest ++ [.box 54 [.ptr 4 0]]))) _ _ _ ⟨[], b.pools, rfl, rfl, rfl, rfl⟩ ?_ ?_
      · refine weak_forget [] (by simp) (by simp only [passH, List.map_nil, List.append_nil, List.length_nil, Nat.mul_zero, List.replicate_zero, List.nil_append]; rfl) (by (repeat' (first | exact trivial | (refine ⟨rfl, ?_⟩)))) (by simp [passH, belowE, belowP, chF_len]) ?_
        refine passH_below (by simp only [List.map_nil, List.length_nil]; exact belowR_rowsF _ b.pools 7 (by simp [passH, chF_len]; omega)) ?_ (by simp [passH])
        simp [belowH_app, belowH_chF, belowH, belowC, belowL, belowP, passH]
      · rintro m e h ⟨pre, rest, hpr, hm, rfl, rfl⟩ C hC
        cases rest with
        | nil =>
          have hN : b.pools.length = pre.length := by rw [hpr]; simp
          have hq : hatL (List.replicate (2 * pre.length) Chunk.gone ++ [.box 54 [.ptr 4 0]]) (2 * b.pools.length) = .box 54 [.ptr 4 0] := by rw [hat_snoc, if_pos (by simp; omega)]
          have hjI : ¬ (pre.length : Int) < (b.pools.length : Int) := by omega
          have hpr2 : b.pools = pre := by rw [hpr]; simp
          have hR3 := hR2.out
          rw [if_neg hn.out, hpr2] at hR3
          clear hC hm hpr hpr2 hN
          replace hjI : decide ((pre.length : Int) < (b.pools.length : Int)) = false := by simpa using hjI
          simp only [passH, rowsF, chF, List.append_nil, List.nil_append]
          generalize List.replicate (2 * pre.length) Chunk.gone ++ [Chunk.box 54 [.ptr 4 0]] = T at *
          replace hR3 := Lib.hid hR3
          repeat' (first | (with_reducible refine And.intro ?_ ?_) | (with_reducible refine gK_i (fun _ => ?_) (fun _ => ?_)) | (with_reducible refine condS_i (fun _ => ?_) (fun _ => ?_)) | (with_reducible refine drw_i (by kernel_rfl)) | simp -dsimp only [go_sem, ↓reduceIte, reduceCtorEq, Nat.reduceAdd, Nat.reduceMul, Nat.reduceSub, Nat.reduceLeDiff, Nat.reduceLT, Nat.reduceEqDiff, Int.reduceLE, Int.reduceLT, Int.reduceToNat, Int.reduceBEq, Int.reduceBNe, Int.reduceEq, Int.reduceAdd, Int.reduceSub, Int.reduceMul, Int.reduceNeg, Int.cast_ofNat_Int, *, encB, hjI, hq] | ((with_reducible refine opK_c ?_); simp -dsimp only [go_sem, ↓reduceIte, reduceCtorEq, Nat.reduceAdd, Nat.reduceMul, Nat.reduceSub, Nat.reduceLeDiff, Nat.reduceLT, Nat.reduceEqDiff, Int.reduceLE, Int.reduceLT, Int.reduceToNat, Int.reduceBEq, Int.reduceBNe, Int.reduceEq, Int.reduceAdd, Int.reduceSub, Int.reduceMul, Int.reduceNeg, Int.cast_ofNat_Int, encB, hjI, hq]; first | refine callK_r (by first | assumption | fail) (by first | exact .inl rfl | exact .inr rfl) ?_ | (refine callK_i (by assumption) ?_ ?_ ?_; (solve | (repeat (first | exact DLe.refl _ | exact DLe.nil _ | (refine DLe.tup ?_) | (refine DLe.agg ?_ rfl) | exact trivial | (refine And.intro ?_ ?_)))); (solve | exact .inl rfl | exact .inr rfl))) | fail | omega | exact decide_eq_true (by omega) | exact DLe.refl _)
          rw [hR3.out]
          exact (by repeat (first | exact DLe.refl _ | exact DLe.nil _ | (refine DLe.tup ?_) | (refine DLe.agg ?_ rfl) | exact trivial | (refine And.intro ?_ ?_)))
        | cons p rest =>
          have hN : b.pools.length = pre.length + 1 + rest.length := by rw [hpr]; simp; omega
          have hjI : (pre.length : Int) < (b.pools.length : Int) := by omega
          have hwr : IntKind.i64.wrap ((pre.length : Int) + 1) = ((pre.length + 1 : Nat) : Int) := by rw [IntKind.wrap_i64]; have := hbk.n8; omega
          have hpl := hbk.l32 p (by rw [hpr]; simp)
          have hzl := fun r => zipF_len (pre.map (passP (b.tick + n))) r (2 * pre.length + 7 + 2) rest
          have hzg := fun r => zipF_get (pre.map (passP (b.tick + n))) r (2 * pre.length + 7 + 2) rest
          have hzs := fun r r' => zipF_set (pre.map (passP (b.tick + n))) r r' (2 * pre.length + 7 + 2) rest
          rw [List.length_map] at hzl
          simp only [List.length_map] at hzg hzs
          obtain ⟨T, hT, hTe⟩ : ∃ T : Chunk → List Chunk, TailOK T pre.length (2 * b.pools.length) rest (.box 54 [.ptr 4 0]) ∧ T = fun c => tailF pre.length c rest (.box 54 [.ptr 4 0]) := ⟨_, tailOK pre.length (2 * b.pools.length) rest (.box 54 [.ptr 4 0]) (by omega), rfl⟩
          have hTg : T .gone = List.replicate (2 * (pre ++ [p]).length) .gone ++ (chF rest ++ [.box 54 [.ptr 4 0]]) := by
            rw [hTe]
            show tailF _ _ _ _ = _
            unfold tailF
            rw [List.length_append, List.length_cons, List.length_nil, show 2 * (pre.length + (0 + 1)) = 2 * pre.length + 1 + 1 by omega, List.replicate_succ', List.replicate_succ']
            simp
          have hTc : T (.row 50 5 1 (dRows (p.leases.map encL))) = List.replicate (2 * pre.length) .gone ++ (chF (p :: rest) ++ [.box 54 [.ptr 4 0]]) := by rw [hTe]; rfl
          rw [← hTc]
          clear hTe hTc
          have hzc : dRows ((pre.map (passP (b.tick + n))).map encPol) ++ rowsF (2 * pre.length + 7) (p :: rest) = zipF (pre.map (passP (b.tick + n))) (polRow p (.own (2 * pre.length + 7) 1)) (2 * pre.length + 7 + 2) rest := rfl
          rw [hzc]
          clear hzc
          have hview : ∀ (m : List Lse) (x : List Chunk) (v : Nat), ∃ d, viewL (viewF (hatL (passH b (b.tick + n) (zipF (pre.map (passP (b.tick + n))) (polRow p (.own (2 * pre.length + 7) 1)) (2 * pre.length + 7 + 2) rest) (T (.row 50 5 1 (dRows (m.map encL))) ++ x))) (v + 5)) [.ptr (2 * b.pools.length + 6) 0] = some [.ept [.ept [.v (.int .i64 (b.tick + n)), d]]] := by
            intro m x v
            obtain ⟨ds, hds⟩ := viewR_rowsF (h := hatL (passH b (b.tick + n) (zipF (pre.map (passP (b.tick + n))) (polRow p (.own (2 * pre.length + 7) 1)) (2 * pre.length + 7 + 2) rest) (T (.row 50 5 1 (dRows (m.map encL))) ++ x))) (n := v + 1) rest (2 * pre.length + 7 + 2) (fun i q hq => ⟨q.leases.map encL, by
              rw [show 2 * pre.length + 7 + 2 + 2 * i = 2 * pre.length + 1 + 2 * (i + 1) + 6 by omega]
              exact hT.r _ x i q hq⟩)
            have h1 : hatL (passH b (b.tick + n) (zipF (pre.map (passP (b.tick + n))) (polRow p (.own (2 * pre.length + 7) 1)) (2 * pre.length + 7 + 2) rest) (T (.row 50 5 1 (dRows (m.map encL))) ++ x)) (2 * b.pools.length + 6) = .box 54 [.ptr 4 0] := hT.b _ x
            have h2 : hatL (passH b (b.tick + n) (zipF (pre.map (passP (b.tick + n))) (polRow p (.own (2 * pre.length + 7) 1)) (2 * pre.length + 7 + 2) rest) (T (.row 50 5 1 (dRows (m.map encL))) ++ x)) (2 * pre.length + 7) = .row 50 5 1 (dRows (m.map encL)) := hT.a _ x
            have h3 : ∀ r T', hatL (passH b (b.tick + n) r T') 4 = .box 24 [.d (.v (.int .i64 (b.tick + n))), .own 5 b.pools.length] := fun _ _ => rfl
            have h4 : ∀ r T', hatL (passH b (b.tick + n) r T') 5 = .row 46 9 b.pools.length r := fun _ _ => rfl
            have h5 : ∃ e, viewR (viewF (hatL (passH b (b.tick + n) (zipF (pre.map (passP (b.tick + n))) (polRow p (.own (2 * pre.length + 7) 1)) (2 * pre.length + 7 + 2) rest) (T (.row 50 5 1 (dRows (m.map encL))) ++ x))) (v + 2)) (zipF (pre.map (passP (b.tick + n))) (polRow p (.own (2 * pre.length + 7) 1)) (2 * pre.length + 7 + 2) rest) = some e := by
              generalize hH : hatL (passH b (b.tick + n) (zipF (pre.map (passP (b.tick + n))) (polRow p (.own (2 * pre.length + 7) 1)) (2 * pre.length + 7 + 2) rest) (T (.row 50 5 1 (dRows (m.map encL))) ++ x)) = H at *
              simp only [zipF, viewR_app, viewR_d, viewR, hds, polRow, viewL, viewF, viewF_d, h2, if_true, Option.map_some]
              exact ⟨_, rfl⟩
            obtain ⟨e, he⟩ := h5
            refine ⟨.sl 9 e, ?_⟩
            simp only [viewL, viewF, h1, h3, h4, List.drop_zero, if_true, he, viewF_d, Option.map_some]
          have hset : ∀ r c c', setC (passH b (b.tick + n) r (T c)) (2 * pre.length + 7) c' = passH b (b.tick + n) r (T c') := by
            intro r c c'
            show _ :: _ :: _ :: _ :: _ :: _ :: setC (T c) (2 * pre.length + 1) c' = _
            rw [hT.c]; rfl
          have hbel : ∀ m : List Lse, belowH (passH b (b.tick + n) (zipF (pre.map (passP (b.tick + n))) (polRow p (.own (2 * pre.length + 7) 1)) (2 * pre.length + 7 + 2) rest) (T (.row 50 5 1 (dRows (m.map encL))))).length (passH b (b.tick + n) (zipF (pre.map (passP (b.tick + n))) (polRow p (.own (2 * pre.length + 7) 1)) (2 * pre.length + 7 + 2) rest) (T (.row 50 5 1 (dRows (m.map encL))))) = true := by
            intro m
            have hl : (passH b (b.tick + n) (zipF (pre.map (passP (b.tick + n))) (polRow p (.own (2 * pre.length + 7) 1)) (2 * pre.length + 7 + 2) rest) (T (.row 50 5 1 (dRows (m.map encL))))).length = 2 * b.pools.length + 7 := by simp [passH, hT.len]
            rw [hl]
            refine passH_below ?_ (hT.h _ _ (belowR_d _ _) (by simp [belowC, belowL, belowP])) (by omega)
            unfold zipF
            rw [belowR_app, belowR_d]
            simp only [belowR, polRow, belowL, belowP, belowR_rowsF (2 * b.pools.length + 7) rest (2 * pre.length + 7 + 2) (by omega), Bool.and_true, Bool.true_and, decide_eq_true_eq]
            first | done | omega
          have hdl := delf_Lease (overB (b.tick + n)) p.leases (2 * pre.length + 7) 1 72 [.ptr (2 * b.pools.length + 6) 0] (passH b (b.tick + n) (zipF (pre.map (passP (b.tick + n))) (polRow p (.own (2 * pre.length + 7) 1)) (2 * pre.length + 7 + 2) rest) (T (.row 50 5 1 (dRows (p.leases.map encL))))) (hT.a0 _)
            (by simp [passH, hT.len, belowL, belowP]) (hbel p.leases) (by omega)
            (by
              obtain ⟨d, hd⟩ := hview p.leases [] 0
              rw [List.append_nil] at hd
              exact ⟨_, hd, fun x _ => pass1_p x (b.tick + n) d⟩)
            (fun m c => by
              obtain ⟨d, hd⟩ := hview m [c] 1
              rw [hset]
              exact ⟨_, hd, fun x _ => pass1_p x (b.tick + n) d⟩)
          rw [hset] at hdl
          have hTa := hT.a0
          have hTb := hT.b0
          have hTc2 := hT.c
          have hTl := hT.len
          have hTf := hT.f
          have hTh := hT.h
          clear hview hset hbel hT hbg hR2
          simp only [passH, polRow] at hdl ⊢
          replace hN := Lib.hid hN
          replace hm := Lib.hid hm
          replace hpr := Lib.hid hpr
          replace hTg := Lib.hid hTg
          replace hTf := Lib.hid hTf
          replace hTh := Lib.hid hTh
          replace hn := Lib.hid hn
          clear hbk hpl ht
          repeat' (first | (with_reducible refine And.intro ?_ ?_) | (with_reducible refine gK_i (fun _ => ?_) (fun _ => ?_)) | (with_reducible refine condS_i (fun _ => ?_) (fun _ => ?_)) | (with_reducible refine drw_i (by kernel_rfl)) | simp -dsimp only [go_sem, ↓reduceIte, reduceCtorEq, Nat.reduceAdd, Nat.reduceMul, Nat.reduceSub, Nat.reduceLeDiff, Nat.reduceLT, Nat.reduceEqDiff, Int.reduceLE, Int.reduceLT, Int.reduceToNat, Int.reduceBEq, Int.reduceBNe, Int.reduceEq, Int.reduceAdd, Int.reduceSub, Int.reduceMul, Int.reduceNeg, Int.cast_ofNat_Int, *, encB, encPol, hjI, hwr, hTa, hTb, hTc2, hTl, hzg, hzl, hzs] | ((with_reducible refine opK_c ?_); simp -dsimp only [go_sem, ↓reduceIte, reduceCtorEq, Nat.reduceAdd, Nat.reduceMul, Nat.reduceSub, Nat.reduceLeDiff, Nat.reduceLT, Nat.reduceEqDiff, Int.reduceLE, Int.reduceLT, Int.reduceToNat, Int.reduceBEq, Int.reduceBNe, Int.reduceEq, Int.reduceAdd, Int.reduceSub, Int.reduceMul, Int.reduceNeg, Int.cast_ofNat_Int, encB, encPol, hjI, hwr, hTa, hTb, hTc2, hTl, hzg, hzl, hzs]; first | refine callK_r (by first | assumption | fail) (by first | exact .inl rfl | exact .inr rfl) ?_ | (refine callK_i (by assumption) ?_ ?_ ?_; (solve | (repeat (first | exact DLe.refl _ | exact DLe.nil _ | (refine DLe.tup ?_) | (refine DLe.agg ?_ rfl) | exact trivial | (refine And.intro ?_ ?_)))); (solve | exact .inl rfl | exact .inr rfl))) | (refine opK_W hdl ?_) | omega | exact decide_eq_true (by omega) | exact DLe.refl _)
          refine hC _ _ _ _ _ (by have := hm.out; simp at this; omega) ⟨pre ++ [p], rest, by rw [hpr.out]; simp, rfl, rfl, rfl⟩ ?_
          refine (weak_freeze (2 * pre.length + 7) 2 50 5 ((p.leases.filter fun x => !overB (b.tick + n) x).map encL) (hTa _)).trans ?_
          have n0 := eq_false (show ¬ (0 = 2 * pre.length + 7) by omega)
          have n1 := eq_false (show ¬ (1 = 2 * pre.length + 7) by omega)
          have n2 := eq_false (show ¬ (2 = 2 * pre.length + 7) by omega)
          have n3 := eq_false (show ¬ (3 = 2 * pre.length + 7) by omega)
          have n4 := eq_false (show ¬ (4 = 2 * pre.length + 7) by omega)
          have n5 := eq_false (show ¬ (5 = 2 * pre.length + 7) by omega)
          have hfr := fun d => fzR_rowsF (2 * pre.length + 7) 2 d rest (2 * pre.length + 7 + 2) (by omega)
          have hft := fun d => hTf.out (.row 50 5 2 (dRows ((p.leases.filter fun x => !overB (b.tick + n) x).map encL))) 2 d rfl
          simp only [fzE, fz, fzL, fzH, fzC, fzR, fzR_app, fzR_d, fzL_d, List.map_cons, List.map_nil, Nat.reduceAdd, Nat.reduceEqDiff, reduceIte, and_true, true_and, and_self, and_false, false_and, Nat.zero_add, Nat.add_zero, reduceCtorEq, zipF, hfr, hft, n0, n1, n2, n3, n4, n5, if_false]
          have hlp : (pre ++ [p]).length = pre.length + 1 := by simp
          have e1 : dRows (((pre ++ [p]).map (passP (b.tick + n))).map encPol) ++ rowsF (2 * (pre ++ [p]).length + 7) rest = dRows ((pre.map (passP (b.tick + n))).map encPol) ++ polRow p (.d (.sl 5 ((p.leases.filter fun x => !overB (b.tick + n) x).map encL))) :: rowsF (2 * pre.length + 7 + 2) rest := by
            rw [hlp, show 2 * (pre.length + 1) + 7 = 2 * pre.length + 7 + 2 by omega]
            simp [dRows, passP, encPol, polRow]
          rw [e1, ← hTg.out, hlp]
          have hle : (passH b (b.tick + n) (dRows ((pre.map (passP (b.tick + n))).map encPol) ++ polRow p (.d (.sl 5 ((p.leases.filter fun x => !overB (b.tick + n) x).map encL))) :: rowsF (2 * pre.length + 7 + 2) rest) (T .gone)).length = 2 * b.pools.length + 7 := by simp [passH, hTl]
          refine weak_forget [] (by simp) (by rw [List.append_nil]; rfl) (by (repeat' (first | exact trivial | (refine ⟨rfl, ?_⟩)))) (by rw [hle]; simp [belowE, belowP]) ?_
          rw [hle]
          refine passH_below ?_ (hTh.out _ _ rfl (by simp [belowC, belowL, belowP])) (by omega)
          have := hN.out
          rw [belowR_app, belowR_d]
          simp only [belowR, polRow, belowL, belowP, belowR_rowsF (2 * b.pools.length + 7) rest (2 * pre.length + 7 + 2) (by omega), Bool.and_true]
  · have hbg := beginE_p b hz hc
    have h1 : (chkBk b != 0) = true := by simpa using hc
    have hr : R = (Bok.zero, chkBk b) := by rw [hR.out]; unfold passR; rw [if_pos hc]
    rw [hr]
    replace hr := Lib.hid hr
    refine ps_i tab_ok mixed Try.func22 rfl Try.ntmps22 Try.results22 (by kernel_rfl) ?_
    repeat' (first | (with_reducible refine And.intro ?_ ?_) | (with_reducible refine gK_i (fun _ => ?_) (fun _ => ?_)) | (with_reducible refine condS_i (fun _ => ?_) (fun _ => ?_)) | (with_reducible refine drw_i (by kernel_rfl)) | simp -dsimp only [go_sem, ↓reduceIte, reduceCtorEq, Nat.reduceAdd, Nat.reduceMul, Nat.reduceSub, Nat.reduceLeDiff, Nat.reduceLT, Nat.reduceEqDiff, Int.reduceLE, Int.reduceLT, Int.reduceToNat, Int.reduceBEq, Int.reduceBNe, Int.reduceEq, Int.reduceAdd, Int.reduceSub, Int.reduceMul, Int.reduceNeg, Int.cast_ofNat_Int, *, encB, encP, h1] | ((with_reducible refine opK_c ?_); simp -dsimp only [go_sem, ↓reduceIte, reduceCtorEq, Nat.reduceAdd, Nat.reduceMul, Nat.reduceSub, Nat.reduceLeDiff, Nat.reduceLT, Nat.reduceEqDiff, Int.reduceLE, Int.reduceLT, Int.reduceToNat, Int.reduceBEq, Int.reduceBNe, Int.reduceEq, Int.reduceAdd, Int.reduceSub, Int.reduceMul, Int.reduceNeg, Int.cast_ofNat_Int, encB, encP, h1]; first | refine callK_r (by first | assumption | exact hbg) (by first | exact .inl rfl | exact .inr rfl) ?_ | (refine callK_i (by assumption) ?_ ?_ ?_; (solve | (repeat (first | exact DLe.refl _ | exact DLe.nil _ | (refine DLe.tup ?_) | (refine DLe.agg ?_ rfl) | exact trivial | (refine And.intro ?_ ?_)))); (solve | exact .inl rfl | exact .inr rfl))) | fail | omega | exact decide_eq_true (by omega) | exact DLe.refl _)
    exact (by repeat (first | exact DLe.refl _ | exact DLe.nil _ | (refine DLe.tup ?_) | (refine DLe.agg ?_ rfl) | exact trivial | (refine And.intro ?_ ?_)))
end Go.Proofs.Ytbeocackphfijaa
namespace Go.Proofs.Ytbeocackphfijaa
open Go Go.RowKit
def looseR : Rul := ⟨8, 16, 12, 3⟩
theorem loose_p : PSpec Try.prog 49 [] (.agg (encR looseR)) := by
  refine ps_i tab_ok mixed Try.func49 rfl Try.ntmps49 Try.results49 (by kernel_rfl) ?_
  repeat' (first | (with_reducible refine And.intro ?_ ?_) | (with_reducible refine gK_i (fun _ => ?_) (fun _ => ?_)) | (with_reducible refine condS_i (fun _ => ?_) (fun _ => ?_)) | (with_reducible refine drw_i (by kernel_rfl)) | simp -dsimp only [go_sem, ↓reduceIte, reduceCtorEq, Nat.reduceAdd, Nat.reduceMul, Nat.reduceSub, Nat.reduceLeDiff, Nat.reduceLT, Nat.reduceEqDiff, Int.reduceLE, Int.reduceLT, Int.reduceToNat, Int.reduceBEq, Int.reduceBNe, Int.reduceEq, Int.reduceAdd, Int.reduceSub, Int.reduceMul, Int.reduceNeg, Int.cast_ofNat_Int, *, encR, looseR] | ((with_reducible refine opK_c ?_); simp -dsimp only [go_sem, ↓reduceIte, reduceCtorEq, Nat.reduceAdd, Nat.reduceMul, Nat.reduceSub, Nat.reduceLeDiff, Nat.reduceLT, Nat.reduceEqDiff, Int.reduceLE, Int.reduceLT, Int.reduceToNat, Int.reduceBEq, Int.reduceBNe, Int.reduceEq, Int.reduceAdd, Int.reduceSub, Int.reduceMul, Int.reduceNeg, Int.cast_ofNat_Int, encR, looseR]; first | refine callK_r (by first | assumption | fail) (by first | exact .inl rfl | exact .inr rfl) ?_ | (refine callK_i (by assumption) ?_ ?_ ?_; (solve | (repeat (first | exact DLe.refl _ | exact DLe.nil _ | (refine DLe.tup ?_) | (refine DLe.agg ?_ rfl) | exact trivial | (refine And.intro ?_ ?_)))); (solve | exact .inl rfl | exact .inr rfl))) | fail | omega | exact decide_eq_true (by omega) | exact DLe.refl _)
def pbA : Pol := ⟨7, 0, ⟨256, 8⟩, looseR, []⟩
def pbB : Pol := { pbA with leases := [⟨⟨256, 12⟩, 1, 5, 0⟩] }
def pbC : Pol := { pbA with leases := [⟨⟨256, 12⟩, 1, 5, 0⟩, ⟨⟨320, 10⟩, 2, 8, 0⟩] }
def pbD : Pol := ⟨8, 7, ⟨320, 10⟩, ⟨11, 14, 12, 0⟩, []⟩
def pbE : Pol := { pbA with leases := [⟨⟨256, 12⟩, 3, 0, 3⟩, ⟨⟨320, 10⟩, 2, 8, 0⟩] }
def pbF : Pol := { pbA with leases := [⟨⟨320, 10⟩, 2, 8, 0⟩] }
theorem pb1 : openR Bok.zero 7 ⟨256, 8⟩ looseR = (⟨0, [pbA]⟩, 0) := by kernel_rfl
theorem pb2 : takeR ⟨0, [pbA]⟩ 7 0 5 = (⟨0, [pbB]⟩, ⟨256, 12⟩, 0) := by kernel_rfl
theorem pb3 : nestR ⟨0, [pbB]⟩ 8 7 10 ⟨11, 14, 12, 0⟩ = (⟨0, [pbC, pbD]⟩, ⟨320, 10⟩, 0) := by kernel_rfl
theorem pb4 : giveR ⟨0, [pbC, pbD]⟩ 7 ⟨256, 12⟩ = (⟨0, [pbE, pbD]⟩, 0) := by kernel_rfl
theorem pb5 : (takeR ⟨0, [pbE, pbD]⟩ 7 12 5).2 = (⟨272, 12⟩, 0) := by kernel_rfl
theorem pb6 : passR ⟨0, [pbE, pbD]⟩ 3 = (⟨3, [pbF, pbD]⟩, 0) := by kernel_rfl
theorem pb7 : (takeR ⟨3, [pbF, pbD]⟩ 7 12 5).2 = (⟨256, 12⟩, 0) := by kernel_rfl
theorem pb8 : closeR ⟨3, [pbF, pbD]⟩ 7 = (Bok.zero, 9) := by kernel_rfl
end Go.Proofs.Ytbeocackphfijaa
namespace Go.Proofs.Ytbeocackphfijaa
open Go Go.RowKit
set_option maxRecDepth 100000 in
set_option maxHeartbeats 1000000 in
theorem poolBegun_p : PSpec Try.prog 13 [] (.v (.bool true)) := by
  have h0 := loose_p
  have h1 := (open_p Bok.zero 7 ⟨256, 8⟩ looseR (by simp [Bok.zero])).args (ds := [.agg [.v (.int .i64 0), .v (.slice none 0 0)], .v (.int .i64 7), .agg (encP ⟨256, 8⟩), .agg (encR looseR)]) ⟨Bok.zero_le, DLe.refl _, DLe.refl _, DLe.refl _, trivial⟩
  have h2 := take_p ⟨0, [pbA]⟩ 7 0 5 (by simp [pbA])
  have h3 := nest_p ⟨0, [pbB]⟩ 8 7 10 ⟨11, 14, 12, 0⟩ (by simp [pbB, pbA])
  have h4 := give_p ⟨0, [pbC, pbD]⟩ 7 ⟨256, 12⟩ (by simp [pbC, pbA, pbD])
  have h5 := take_p ⟨0, [pbE, pbD]⟩ 7 12 5 (by simp [pbE, pbA, pbD])
  have h6 := pass_p ⟨0, [pbE, pbD]⟩ 3 (by simp [pbE, pbA, pbD])
  have h7 := take_p ⟨3, [pbF, pbD]⟩ 7 12 5 (by simp [pbF, pbA, pbD])
  have h8 := close_p ⟨3, [pbF, pbD]⟩ 7 (by simp [pbF, pbA, pbD])
  rw [pb1] at h1
  rw [pb2] at h2
  rw [pb3] at h3
  rw [pb4] at h4
  rw [show (takeR ⟨0, [pbE, pbD]⟩ 7 12 5).2.1 = ⟨272, 12⟩ from congrArg (·.1) pb5, show (takeR ⟨0, [pbE, pbD]⟩ 7 12 5).2.2 = 0 from congrArg (·.2) pb5] at h5
  rw [pb6] at h6
  rw [show (takeR ⟨3, [pbF, pbD]⟩ 7 12 5).2.1 = ⟨256, 12⟩ from congrArg (·.1) pb7, show (takeR ⟨3, [pbF, pbD]⟩ 7 12 5).2.2 = 0 from congrArg (·.2) pb7] at h7
  rw [pb8] at h8
  generalize (takeR ⟨0, [pbE, pbD]⟩ 7 12 5).1 = B5 at h5
  generalize (takeR ⟨3, [pbF, pbD]⟩ 7 12 5).1 = B7 at h7
  simp only [encB, encP, encR, looseR, Bok.zero, List.map_nil] at h0 h1 h2 h3 h4 h5 h6 h7 h8
  generalize List.map encPol [pbA] = PA at *
  generalize List.map encPol [pbB] = PB at *
  generalize List.map encPol [pbC, pbD] = PC at *
  generalize List.map encPol [pbE, pbD] = PE at *
  generalize List.map encPol [pbF, pbD] = PF at *
  refine ps_i tab_ok mixed Try.func13 rfl Try.ntmps13 Try.results13 (by kernel_rfl) ?_
  repeat' (first | (with_reducible refine And.intro ?_ ?_) | (with_reducible refine gK_i (fun _ => ?_) (fun _ => ?_)) | (with_reducible refine condS_i (fun _ => ?_) (fun _ => ?_)) | (with_reducible refine drw_i (by kernel_rfl)) | simp -dsimp only [go_sem, ↓reduceIte, reduceCtorEq, Nat.reduceAdd, Nat.reduceMul, Nat.reduceSub, Nat.reduceLeDiff, Nat.reduceLT, Nat.reduceEqDiff, Int.reduceLE, Int.reduceLT, Int.reduceToNat, Int.reduceBEq, Int.reduceBNe, Int.reduceEq, Int.reduceAdd, Int.reduceSub, Int.reduceMul, Int.reduceNeg, Int.cast_ofNat_Int, *, undef] | ((with_reducible refine opK_c ?_); simp -dsimp only [go_sem, ↓reduceIte, reduceCtorEq, Nat.reduceAdd, Nat.reduceMul, Nat.reduceSub, Nat.reduceLeDiff, Nat.reduceLT, Nat.reduceEqDiff, Int.reduceLE, Int.reduceLT, Int.reduceToNat, Int.reduceBEq, Int.reduceBNe, Int.reduceEq, Int.reduceAdd, Int.reduceSub, Int.reduceMul, Int.reduceNeg, Int.cast_ofNat_Int, undef]; first | refine callK_r (by first | assumption | exact h0 | exact h1 | exact h2 | exact h3 | exact h4 | exact h5 | exact h6 | exact h7 | exact h8) (by first | exact .inl rfl | exact .inr rfl) ?_ | (refine callK_i (by assumption) ?_ ?_ ?_; (solve | (repeat (first | exact DLe.refl _ | exact DLe.nil _ | (refine DLe.tup ?_) | (refine DLe.agg ?_ rfl) | exact trivial | (refine And.intro ?_ ?_)))); (solve | exact .inl rfl | exact .inr rfl))) | fail | omega | exact decide_eq_true (by omega) | exact DLe.refl _)
end Go.Proofs.Ytbeocackphfijaa
namespace Go.Proofs.Ytbeocackphfijaa
open Go Go.RowKit
theorem szI_sub {a l m : Int} (h : rightB a l = true) (h1 : l ≤ m) (h2 : m ≤ 16) : insQ ⟨a, m⟩ ⟨a, l⟩ = true := by
  obtain ⟨g1, g2, g3, g4, g5⟩ := right_bd h
  have hb := Pfx.hi_bd (p := ⟨a, l⟩) h
  obtain ⟨k, hk, -⟩ := szI_dvd g1 h1 h2
  exact insQ_iff.2 ⟨right_of (a := a) (l := m) (by omega) h2 (by omega) (by omega) (Int.emod_eq_zero_of_dvd (Int.dvd_trans ⟨k, hk⟩ (Int.dvd_of_emod_eq_zero g5))), h, h1, Int.le_refl _, hb.1⟩
/-- Fit finds the least free block, if there is one. -/
theorem fit_law {root : Pfx} {us : List Pfx} (h : SpaceOK root us) {size : Int} (hr : root.len ≤ size ∧ size ≤ 16) :
    ((fitS root us size).2.1 = false ∧ ∀ p : Pfx, p.len = size → insQ p root = true → freeP us p = false) ∨
    ((fitS root us size).2.1 = true ∧ (fitS root us size).1.len = size ∧ insQ (fitS root us size).1 root = true ∧ freeP us (fitS root us size).1 = true ∧ ∀ p : Pfx, p.len = size → insQ p root = true → freeP us p = true → (fitS root us size).1.at_ ≤ p.at_) := by
  have hck := chkS_ok.2 h
  unfold fitS
  rw [if_pos hck, if_neg (by omega)]
  have hin : ∀ p : Pfx, p.len = size → insQ p root = true → freeP us p = true → ∃ q ∈ holesS root us, insQ p q = true ∧ q.len ≤ size := by
    intro p hp h1 h2
    obtain ⟨q, hq, hi⟩ := holesS_all h h1 h2
    have := (insQ_iff.1 hi).2.2.1
    exact ⟨q, hq, hi, by omega⟩
  cases hf : (holesS root us).find? (fun q => decide (q.len ≤ size)) with
  | none =>
    refine .inl ⟨rfl, fun p hp h1 => ?_⟩
    cases h2 : freeP us p with
    | false => rfl
    | true =>
      obtain ⟨q, hq, hi, hl⟩ := hin p hp h1 h2
      have := List.find?_eq_none.1 hf q hq
      simp at this
      omega
  | some q =>
    have hql : q.len ≤ size := by simpa using List.find?_some hf
    have hqm := List.mem_of_find?_eq_some hf
    obtain ⟨k1, k2⟩ := holesS_ins h hqm
    have hsub : insQ ⟨q.at_, size⟩ q = true := szI_sub (insQ_iff.1 k1).1 hql hr.2
    refine .inr ⟨rfl, rfl, insQ_trans hsub k1, free_sub hsub k2, fun p hp h1 h2 => ?_⟩
    obtain ⟨q', hq', hi', hl'⟩ := hin p hp h1 h2
    have hpq := (insQ_iff.1 hi').2.2.2
    obtain ⟨pre, post, e, hpre⟩ := List.find?_eq_some_iff_append.1 hf |>.2
    have hsrt := holesS_sorted h
    rw [e] at hsrt hq'
    rcases List.mem_append.1 hq' with hq' | hq'
    · have := hpre q' hq'
      simp at this
      omega
    · rcases List.mem_cons.1 hq' with rfl | hq'
      · exact hpq.1
      · have := (List.pairwise_cons.1 (List.pairwise_append.1 hsrt).2.1).1 q' hq'
        have := Pfx.hi_bd (insQ_iff.1 k1).1
        unfold Apart at *
        show q.at_ ≤ p.at_
        omega
theorem rule_bd {r : Rul} {len : Int} (h : ruleOK r len = true) : len ≤ r.min ∧ r.min ≤ r.usual ∧ r.usual ≤ r.max ∧ r.max ≤ 16 ∧ 0 ≤ r.cool ∧ r.cool ≤ 1024 := by
  unfold ruleOK at h
  simp [sortedI] at h
  omega
theorem firstOK_iff : ∀ (l : List Pol) (last : Int), firstOK last l = true ↔ Rise l ∧ ∀ p ∈ l, last < p.id ∧ idOK p.id = true ∧ chkS p.root (usedP p) = 0 ∧ ruleOK p.rule p.root.len = true
  | [], last => by simp [firstOK, Rise]
  | p :: l, last => by
    have ih := firstOK_iff l p.id
    simp only [firstOK, Bool.and_eq_true, decide_eq_true_eq, beq_iff_eq, ih]
    unfold Rise
    rw [List.pairwise_cons]
    simp only [List.mem_cons, forall_eq_or_imp]
    constructor
    · rintro ⟨⟨a, b, c, d⟩, e, f⟩
      exact ⟨⟨fun q hq => (f q hq).1, e⟩, ⟨b, a, c, d⟩, fun q hq => ⟨by have := (f q hq).1; omega, (f q hq).2⟩⟩
    · rintro ⟨⟨e, f⟩, ⟨b, a, c, d⟩, g⟩
      exact ⟨⟨a, b, c, d⟩, f, fun q hq => ⟨e q hq, (g q hq).2⟩⟩
theorem secondOK_iff (b : Bok) : ∀ (l : List Pol) (roots : List Pfx), secondOK b l roots = true ↔ (∀ p ∈ l, upOK b b.pools.length p = true ∧ p.leases.all (leaseOK b p) = true) ∧ (∀ p ∈ l, p.up = 0 → ∀ r ∈ roots, p.root.meets r = false) ∧ (l.filter (fun p => p.up == 0)).Pairwise (fun p q => q.root.meets p.root = false)
  | [], roots => by simp [secondOK]
  | p :: l, roots => by
    unfold secondOK
    by_cases hu : p.up = 0
    · have hb : (p.up == 0) = true := by simpa using hu
      rw [if_pos hb, List.filter_cons_of_pos (by simpa using hu), List.pairwise_cons]
      simp only [Bool.and_eq_true, secondOK_iff b l, List.mem_cons, forall_eq_or_imp, List.mem_append, List.mem_filter, Bool.not_eq_true', List.any_eq_false]
      constructor
      · rintro ⟨a, c, d, e, f⟩
        exact ⟨⟨a, d⟩, ⟨fun _ r hr => by simpa using c r hr, fun q hq h0 r hr => e q hq h0 r (.inl hr)⟩, fun q hq => e q hq.1 (by simpa using hq.2) p.root (.inr (by simp)), f⟩
      · rintro ⟨⟨a, d⟩, ⟨c, e⟩, g, f⟩
        refine ⟨a, fun r hr => by simp [c hu r hr], d, fun q hq h0 r hr => ?_, f⟩
        rcases hr with hr | hr
        · exact e q hq h0 r hr
        · simp at hr; subst hr; exact g q ⟨hq, by simpa using h0⟩
    · have hb : ¬ (p.up == 0) = true := by simpa using hu
      rw [if_neg hb, List.filter_cons_of_neg (by simpa using hu)]
      simp only [Bool.and_eq_true, secondOK_iff b l, List.mem_cons, forall_eq_or_imp]
      constructor
      · rintro ⟨a, d, e, f⟩
        exact ⟨⟨a, d⟩, ⟨fun h => absurd h hu, e⟩, f⟩
      · rintro ⟨⟨a, d⟩, ⟨_, e⟩, f⟩
        exact ⟨a, d, e, f⟩
/-- A right book, said of its parts. -/
structure BookP (b : Bok) : Prop where
  n8 : b.pools.length ≤ 8
  tick : 0 ≤ b.tick ∧ b.tick ≤ 1073741824
  rise : Rise b.pools
  mem : ∀ p ∈ b.pools, idOK p.id = true ∧ chkS p.root (usedP p) = 0 ∧ ruleOK p.rule p.root.len = true
  up : ∀ p ∈ b.pools, upOK b b.pools.length p = true
  lease : ∀ p ∈ b.pools, ∀ l ∈ p.leases, leaseOK b p l = true
  tops : (b.pools.filter (fun p => p.up == 0)).Pairwise (fun p q => q.root.meets p.root = false)
theorem idOK_bd {n : Int} (h : idOK n = true) : 1 ≤ n ∧ n ≤ 65536 := by simpa [idOK] using h
theorem bookP {b : Bok} : chkBk b = 0 ↔ BookP b := by
  unfold chkBk
  constructor
  · intro h
    split at h
    · cases h
    · rename_i h8
      split at h
      · cases h
      · rename_i ht
        split at h
        · rename_i hf
          rw [Bool.and_eq_true, firstOK_iff, secondOK_iff] at hf
          obtain ⟨⟨h1, h2⟩, h3, h4, h5⟩ := hf
          exact ⟨by omega, by omega, h1, fun p hp => (h2 p hp).2, fun p hp => (h3 p hp).1, fun p hp l hl => List.all_eq_true.1 (h3 p hp).2 l hl, h5⟩
        · cases h
  · intro h
    have := h.n8
    have := h.tick
    rw [if_neg (by omega), if_neg (by omega), if_pos]
    rw [Bool.and_eq_true, firstOK_iff, secondOK_iff]
    exact ⟨⟨h.rise, fun p hp => ⟨by have := idOK_bd (h.mem p hp).1; omega, h.mem p hp⟩⟩, fun p hp => ⟨h.up p hp, List.all_eq_true.2 (h.lease p hp)⟩, fun _ _ _ r hr => by simp at hr, h.tops⟩
theorem poolOf_mem {b : Bok} {id : Int} {p : Pol} (h : poolOf b id = some p) : p ∈ b.pools ∧ p.id = id := ⟨List.mem_of_find?_eq_some h, by simpa using List.find?_some h⟩
end Go.Proofs.Ytbeocackphfijaa
namespace Go.Proofs.Ytbeocackphfijaa
open Go Go.RowKit
/-- What the arguments say of themselves. -/
theorem psp_asm {P : Program} {f : Nat} {args : List D} {r : D} {C : Prop} (hf : FnOK P f) (h : ∀ (M : Nat → Prop) (w : World) (vs : List Value), RepDs M w args vs → C) (k : C → PSpec P f args r) : PSpec P f args r := ⟨hf, fun M w vs hM hr => (k (h M w vs hr)).2 M w vs hM hr⟩
theorem repD_sl_len {M : Nat → Prop} {w : World} {sz : Nat} {rows : List (List D)} {v : Value} (h : RepD M w (.sl sz rows) v) : rows.length ≤ 9223372036854775807 := by
  cases h with
  | nil => simp
  | sl _ _ b off cap f hM hb hc hm => exact Nat.le_trans hc hm
theorem book_len {M : Nat → Prop} {w : World} {b : Bok} {v : Value} (h : RepD M w (.agg (encB b)) v) : b.pools.length ≤ 9223372036854775807 := by
  obtain ⟨vs, rfl, hl, hr⟩ := repD_agg h
  obtain ⟨v, hv⟩ : ∃ v, vs[1]? = some v := ⟨_, List.getElem?_eq_getElem (by rw [← hl]; exact Nat.lt_add_one 1)⟩
  have := repD_sl_len (hr 1 _ v rfl hv)
  simpa using this
/-- Take says that nothing is left: there is nothing. -/
theorem take_full {b : Bok} {id size owner : Int} (he : (takeR b id size owner).2.2 = 8) {p : Pol} (hq : poolOf b id = some p) (hl : p.leases.length ≠ 32) {x : Pfx} (hx : x.len = if size = 0 then p.rule.usual else size) (hi : insQ x p.root = true) : ∃ l ∈ p.leases, x.meets l.at_ = true := by
  have hc : chkBk b = 0 := by
    unfold takeR at he
    split at he
    · unfold chkBk at he
      simp only at he
      split at he
      · cases he
      · split at he
        · cases he
        · split at he <;> cases he
    · rename_i hc; simpa using hc
  have hb := bookP.1 hc
  have hm := hb.mem p (poolOf_mem hq).1
  have hr := rule_bd hm.2.2
  unfold takeR at he
  rw [if_neg (by simpa using hc), hq] at he
  simp only at he
  generalize (if size = 0 then p.rule.usual else size) = s at he hx
  split at he
  · cases he
  · split at he
    · rename_i h1
      unfold fitE at he
      split at he
      · cases he
      · rename_i h2
        split at he
        · rename_i h3
          rcases h3 with h3 | h3
          · rcases fit_law (chkS_ok.1 hm.2.1) (size := s) ⟨by omega, by omega⟩ with ⟨-, a⟩ | ⟨a, -⟩
            · have := a x hx hi
              unfold freeP at this
              rw [Bool.not_eq_false', List.any_eq_true] at this
              obtain ⟨u, hu, hm⟩ := this
              obtain ⟨l, hl, rfl⟩ := List.mem_map.1 hu
              exact ⟨l, hl, hm⟩
            · rw [a] at h3; cases h3
          · exact absurd h3 hl
        · cases he
    · cases he
set_option maxRecDepth 100000 in
set_option maxHeartbeats 1000000 in
theorem poolFinds_p (b : Bok) (id size owner : Int) (at_ : Pfx) (hz : ∀ p ∈ b.pools, p.leases.length ≤ 3518437208882) : PSpec Try.prog 7 [.agg (encB b), .v (.int .i64 id), .v (.int .i64 size), .v (.int .i64 owner), .agg (encP at_)] (.v (.bool true)) := by
  have h1 := take_p b id size owner hz
  have hbeg := poolBegun_p
  have hck := bkCheck_p b hz
  refine psp_asm (fnok_of Try.func7 (by kernel_rfl) rfl) (fun M w vs h => book_len (h.2 0 _ _ rfl (List.getElem?_eq_getElem (show 0 < vs.length by rw [← h.1]; exact Nat.zero_lt_succ _)))) fun hb8 => ?_
  have hat := poolAt_p b id hb8
  cases hq : poolOf b id with
  | none =>
    rw [atI_no hq] at hat
    generalize takeR b id size owner = A at *
    clear hz
    have hi0 : decide ((-1 : Int) < 0) = true := rfl
    refine ps_i tab_ok mixed Try.func7 rfl Try.ntmps7 Try.results7 (by kernel_rfl) ?_
    repeat' (first | (with_reducible refine And.intro ?_ ?_) | (with_reducible refine gK_i (fun _ => ?_) (fun _ => ?_)) | (with_reducible refine condS_i (fun _ => ?_) (fun _ => ?_)) | (with_reducible refine drw_i (by kernel_rfl)) | simp -dsimp only [go_sem, ↓reduceIte, reduceCtorEq, Nat.reduceAdd, Nat.reduceMul, Nat.reduceSub, Nat.reduceLeDiff, Nat.reduceLT, Nat.reduceEqDiff, Int.reduceLE, Int.reduceLT, Int.reduceToNat, Int.reduceBEq, Int.reduceBNe, Int.reduceEq, Int.reduceAdd, Int.reduceSub, Int.reduceMul, Int.reduceNeg, Int.cast_ofNat_Int, *, encB, encP, hi0, undef] | ((with_reducible refine opK_c ?_); simp -dsimp only [go_sem, ↓reduceIte, reduceCtorEq, Nat.reduceAdd, Nat.reduceMul, Nat.reduceSub, Nat.reduceLeDiff, Nat.reduceLT, Nat.reduceEqDiff, Int.reduceLE, Int.reduceLT, Int.reduceToNat, Int.reduceBEq, Int.reduceBNe, Int.reduceEq, Int.reduceAdd, Int.reduceSub, Int.reduceMul, Int.reduceNeg, Int.cast_ofNat_Int, encB, encP, hi0, undef]; first | refine callK_r (by first | assumption | exact h1 | exact hat | exact hbeg) (by first | exact .inl rfl | exact .inr rfl) ?_ | (refine callK_i (by assumption) ?_ ?_ ?_; (solve | (repeat (first | exact DLe.refl _ | exact DLe.nil _ | (refine DLe.tup ?_) | (refine DLe.agg ?_ rfl) | exact trivial | (refine And.intro ?_ ?_)))); (solve | exact .inl rfl | exact .inr rfl))) | fail | omega | exact decide_eq_true (by omega) | exact DLe.refl _)
  | some p =>
    obtain ⟨i, e1, e2, e3⟩ := atI_some hq
    rw [e1] at hat
    have hin : PSpec Try.prog 27 [.agg (encP at_), .agg (encP p.root)] (.v (.bool (insQ at_ p.root))) := inside_p _ _
    have hme : ∀ l : Lse, PSpec Try.prog 26 [.agg (encP at_), .agg (encP l.at_)] (.v (.bool (at_.meets l.at_))) := fun l => meets_p _ _
    have hf2 := fun he hl hx hi => take_full (b := b) (id := id) (size := size) (owner := owner) he hq hl (x := at_) hx hi
    have hl32 : chkBk b = 0 → p.leases.length ≤ 32 := fun hc => (bookOK hc).l32 p (poolOf_mem hq).1
    generalize takeR b id size owner = A at *
    generalize chkBk b = K at *
    generalize insQ at_ p.root = I at *
    have hi0 : decide ((i : Int) < 0) = false := by simp
    replace e1 := Lib.hid e1
    replace e3 := Lib.hid e3
    replace hq := Lib.hid hq
    replace hme := Lib.hid hme
    replace hf2 := Lib.hid hf2
    replace hl32 := Lib.hid hl32
    clear hz
    refine ps_i tab_ok mixed Try.func7 rfl Try.ntmps7 Try.results7 (by kernel_rfl) ?_
    repeat' (first | (with_reducible refine And.intro ?_ ?_) | (with_reducible refine gK_i (fun _ => ?_) (fun _ => ?_)) | (with_reducible refine condS_i (fun _ => ?_) (fun _ => ?_)) | (with_reducible refine drw_i (by kernel_rfl)) | simp -dsimp only [go_sem, ↓reduceIte, reduceCtorEq, Nat.reduceAdd, Nat.reduceMul, Nat.reduceSub, Nat.reduceLeDiff, Nat.reduceLT, Nat.reduceEqDiff, Int.reduceLE, Int.reduceLT, Int.reduceToNat, Int.reduceBEq, Int.reduceBNe, Int.reduceEq, Int.reduceAdd, Int.reduceSub, Int.reduceMul, Int.reduceNeg, Int.cast_ofNat_Int, *, encB, encP, encPol, encR, e2, hi0, undef] | ((with_reducible refine opK_c ?_); simp -dsimp only [go_sem, ↓reduceIte, reduceCtorEq, Nat.reduceAdd, Nat.reduceMul, Nat.reduceSub, Nat.reduceLeDiff, Nat.reduceLT, Nat.reduceEqDiff, Int.reduceLE, Int.reduceLT, Int.reduceToNat, Int.reduceBEq, Int.reduceBNe, Int.reduceEq, Int.reduceAdd, Int.reduceSub, Int.reduceMul, Int.reduceNeg, Int.cast_ofNat_Int, encB, encP, encPol, encR, e2, hi0, undef]; first | refine callK_r (by first | assumption | exact h1 | exact hat | exact hbeg | exact hck | exact hin) (by first | exact .inl rfl | exact .inr rfl) ?_ | (refine callK_i (by assumption) ?_ ?_ ?_; (solve | (repeat (first | exact DLe.refl _ | exact DLe.nil _ | (refine DLe.tup ?_) | (refine DLe.agg ?_ rfl) | exact trivial | (refine And.intro ?_ ?_)))); (solve | exact .inl rfl | exact .inr rfl))) | fail | omega | exact decide_eq_true (by omega) | exact DLe.refl _)
    all_goals
      have hex : ∃ l ∈ p.leases, at_.meets l.at_ = true := by
        have h := hf2.out
        clear h1 hat hbeg hck hin hme hf2 hl32 e1 e3 hq hb8 e2 hi0
        refine h ?_ ?_ ?_ ?_ <;> grind
      have hl2 : p.leases.length ≤ 32 := hl32.out (by rename_i q1 q2 q3 q4 q5 q6; simpa using q2)
      replace hex := Lib.hid hex
      refine loopL tab_ok mixed p.leases (fun k => ∀ (j : Nat) (l : Lse), j < k → p.leases[j]? = some l → at_.meets l.at_ = false) (fun k => [(16, .d (.v (.int .i64 k))), (14, .d (.v (.int .i64 i))), (9, .ptr 1 0), (5, .ptr 0 0)]) (fun _ => [.box 24 ((encB b).map .d), .box 26 ((encP at_).map .d)]) (fun j l h => absurd h (Nat.not_lt_zero _)) (weak_forget _ (by simp) (by (try simp only [encB, encP]); rfl) (by (repeat' (first | exact trivial | (refine ⟨rfl, ?_⟩)))) (by first | rfl | simp only [belowH, belowE, belowC, belowL, belowR, belowP, belowL_d, belowR_d, List.length_cons, List.length_nil, Nat.reduceAdd, Nat.reduceLT, decide_true, Bool.and_self, Bool.and_true]) (by first | rfl | simp only [belowH, belowE, belowC, belowL, belowR, belowP, belowL_d, belowR_d, List.length_cons, List.length_nil, Nat.reduceAdd, Nat.reduceLT, decide_true, Bool.and_self, Bool.and_true])) ?_ ?_
      · intro k l hlk hk hI C hC
        have hkI : (k : Int) < (p.leases.length : Int) := by omega
        have hwr : IntKind.i64.wrap ((k : Int) + 1) = ((k + 1 : Nat) : Int) := by rw [IntKind.wrap_i64]; omega
        have hm := hme.out l
        replace hI := Lib.hid hI
        replace hl2 := Lib.hid hl2
        generalize hM : at_.meets l.at_ = M at hm
        replace hM := Lib.hid hM
        repeat' (first | (with_reducible refine And.intro ?_ ?_) | (with_reducible refine gK_i (fun _ => ?_) (fun _ => ?_)) | (with_reducible refine condS_i (fun _ => ?_) (fun _ => ?_)) | (with_reducible refine drw_i (by kernel_rfl)) | simp -dsimp only [go_sem, ↓reduceIte, reduceCtorEq, Nat.reduceAdd, Nat.reduceMul, Nat.reduceSub, Nat.reduceLeDiff, Nat.reduceLT, Nat.reduceEqDiff, Int.reduceLE, Int.reduceLT, Int.reduceToNat, Int.reduceBEq, Int.reduceBNe, Int.reduceEq, Int.reduceAdd, Int.reduceSub, Int.reduceMul, Int.reduceNeg, Int.cast_ofNat_Int, *, encB, encP, encPol, encL, e2, hkI, hwr, hlk] | ((with_reducible refine opK_c ?_); simp -dsimp only [go_sem, ↓reduceIte, reduceCtorEq, Nat.reduceAdd, Nat.reduceMul, Nat.reduceSub, Nat.reduceLeDiff, Nat.reduceLT, Nat.reduceEqDiff, Int.reduceLE, Int.reduceLT, Int.reduceToNat, Int.reduceBEq, Int.reduceBNe, Int.reduceEq, Int.reduceAdd, Int.reduceSub, Int.reduceMul, Int.reduceNeg, Int.cast_ofNat_Int, encB, encP, encPol, encL, e2, hkI, hwr, hlk]; first | refine callK_r (by first | assumption | exact hbeg | exact hm) (by first | exact .inl rfl | exact .inr rfl) ?_ | (refine callK_i (by assumption) ?_ ?_ ?_; (solve | (repeat (first | exact DLe.refl _ | exact DLe.nil _ | (refine DLe.tup ?_) | (refine DLe.agg ?_ rfl) | exact trivial | (refine And.intro ?_ ?_)))); (solve | exact .inl rfl | exact .inr rfl))) | fail | omega | exact decide_eq_true (by omega) | exact DLe.refl _)
        rename_i hMf
        refine hC _ _ (fun j l' hj hl' => ?_) (weak_forget _ (by simp) (by (try simp only [encB, encP]); rfl) (by (repeat' (first | exact trivial | (refine ⟨rfl, ?_⟩)))) (by first | rfl | simp only [belowH, belowE, belowC, belowL, belowR, belowP, belowL_d, belowR_d, List.length_cons, List.length_nil, Nat.reduceAdd, Nat.reduceLT, decide_true, Bool.and_self, Bool.and_true]) (by first | rfl | simp only [belowH, belowE, belowC, belowL, belowR, belowP, belowL_d, belowR_d, List.length_cons, List.length_nil, Nat.reduceAdd, Nat.reduceLT, decide_true, Bool.and_self, Bool.and_true]))
        rcases Nat.lt_or_ge j k with h | h
        · exact hI.out j l' h hl'
        · obtain rfl : j = k := by omega
          rw [hlk] at hl'
          obtain rfl := Option.some.inj hl'
          rw [hM.out]; exact hMf
      · intro hI C
        exfalso
        obtain ⟨l, hl, hm⟩ := hex.out
        obtain ⟨j, hj⟩ := List.mem_iff_getElem?.1 hl
        have := hI j l (List.getElem?_eq_some_iff.1 hj).1 hj
        rw [hm] at this; cases this
end Go.Proofs.Ytbeocackphfijaa
namespace Go.Proofs.Ytbeocackphfijaa
open Go Go.RowKit Go.Proofs Go.ChangeShapes Go.WideShapes Go.Deep
section
variable {H : Type} {enc : TypeId × Value → H} {P : Program} {w : World} {base : Nat} {spare : Nat → Bool} {held : Bool}
/-- Whatever is read as of type t is an R. -/
def Rd {α : Type} (enc : TypeId × Value → H) (P : Program) (w : World) (base : Nat) (spare : Nat → Bool) (held : Bool) (t : TypeId) (R : List Value → α → Prop) : Prop :=
  ∀ fuel cs x, DataW.trod enc P w base spare held fuel t cs = some x → ∃ a, R cs a
theorem Rd.map {α β : Type} {t : TypeId} {R : List Value → α → Prop} {R' : List Value → β → Prop} (h : Rd enc P w base spare held t R) (f : α → β) (hf : ∀ cs a, R cs a → R' cs (f a)) : Rd enc P w base spare held t R' := by
  intro fuel cs x hx
  obtain ⟨a, ha⟩ := h fuel cs x hx
  exact ⟨f a, hf _ _ ha⟩
def in64 (n : Int) : Prop := -9223372036854775808 ≤ n ∧ n ≤ 9223372036854775807
def IntR (cs : List Value) (n : Int) : Prop := cs = [.int .i64 n] ∧ in64 n
theorem in64_wf {n : Int} (h : (Lit.int .i64 n).wf = true) : in64 n := by
  simp only [Lit.wf, Bool.and_eq_true, decide_eq_true_eq] at h
  have h1 : IntKind.i64.min = -9223372036854775808 := rfl
  have h2 : IntKind.i64.max = 9223372036854775807 := rfl
  rw [h1, h2] at h
  exact h
theorem rd_int {t : TypeId} (ht : P.underlying t = some (.int .i64)) : Rd enc P w base spare held t IntR := by
  intro fuel cs x hx
  obtain ⟨n, h, _, hw⟩ := DataW.trod_int ht hx
  exact ⟨n, h, in64_wf hw⟩
theorem rd_field {α : Type} {t : TypeId} {fs : Array Field} {fuel : Nat} {cs : List Value} {x : DataW H × List MemPlace} (ht : P.underlying t = some (.struct fs)) (h : DataW.trod enc P w base spare held fuel t cs = some x)
    (j : Nat) {f : Field} (hf : fs[j]? = some f) {R : List Value → α → Prop} (hr : Rd enc P w base spare held f.type R) : ∃ a, R ((cs.drop f.offset).take (P.cellsOf f.type)) a := by
  obtain ⟨xs, n, _, _, _, hlen, hg⟩ := DataW.trod_struct ht h
  have h1 := hg j f hf
  have hj : j < xs.length := by rw [hlen]; exact (Array.getElem?_eq_some_iff.1 hf).1
  rw [List.getElem?_eq_getElem hj] at h1
  exact hr _ _ _ h1
theorem rd_len {t : TypeId} {fs : Array Field} {fuel : Nat} {cs : List Value} {x : DataW H × List MemPlace} (ht : P.underlying t = some (.struct fs)) (h : DataW.trod enc P w base spare held fuel t cs = some x) : cs.length = P.cellsOf t := by
  obtain ⟨_, _, _, _, h, _⟩ := DataW.trod_struct ht h
  exact h
theorem pick_list {α : Type} {Q : Nat → α → Prop} : ∀ (n : Nat), (∀ i, i < n → ∃ a, Q i a) → ∃ l : List α, l.length = n ∧ ∀ i (h : i < l.length), Q i l[i]
  | 0, _ => ⟨[], rfl, fun i h => by simp at h⟩
  | n + 1, h => by
    obtain ⟨l, hl, hq⟩ := pick_list n fun i hi => h i (by omega)
    obtain ⟨a, ha⟩ := h n (by omega)
    refine ⟨l ++ [a], by simp [hl], fun i hi => ?_⟩
    rcases Nat.lt_or_ge i l.length with h1 | h1
    · rw [List.getElem_append_left h1]; exact hq i h1
    · have : i = n := by simp at hi; omega
      subst this
      rw [List.getElem_append_right h1]
      simpa using ha
/-- What came in lies below the heap's size. -/
def inW (w : World) : Area := fun b => b < w.heap.size
theorem arg_int {r : Reach} {b0 : Nat} {t : TypeId} {v : Value} {d : DataW H} {p : List MemPlace} (ht : P.underlying t = some (.int .i64)) (hval : Value.okWide P w r b0 t v) (hd : DataW.Trod enc P w base spare held t v d p) : ∃ n, v = .int .i64 n ∧ in64 n := by
  obtain ⟨n, h, _, _, hw⟩ := open_int ht hval hd
  exact ⟨n, h, in64_wf hw⟩
theorem trod_lts {t : TypeId} {v : Value} {d : DataW H} {p : List MemPlace} (h : DataW.Trod enc P w base spare held t v d p) : ∀ x ∈ p, x.block < w.heap.size := by
  obtain ⟨m, hm⟩ := h
  exact DataW.trod_lt m _ _ _ hm
end
end Go.Proofs.Ytbeocackphfijaa
namespace Go.Proofs.Ytbeocackphfijaa
open Go Go.RowKit Go.Proofs Go.ChangeShapes Go.WideShapes Go.Deep
/-- Nothing may be written. -/
def NM : Nat → Prop := fun _ => False
section
variable {H : Type} {enc : TypeId × Value → H} {P : Program} {w : World} {base : Nat} {spare : Nat → Bool} {held : Bool}
def RdW {α : Type} (enc : TypeId × Value → H) (P : Program) (w : World) (base : Nat) (spare : Nat → Bool) (held : Bool) (t : TypeId) (R : List Value → α → Prop) (S : α → Prop) : Prop :=
  ∀ fuel cs x, DataW.trod enc P w base spare held fuel t cs = some x → ∃ a, R cs a ∧ ((∀ n ∈ x.1.weights P t, n ≤ reachBytes) → S a)
theorem rdw_of {α : Type} {t : TypeId} {R : List Value → α → Prop} (h : Rd enc P w base spare held t R) : RdW enc P w base spare held t R (fun _ => True) := by
  intro fuel cs x hx
  obtain ⟨a, ha⟩ := h fuel cs x hx
  exact ⟨a, ha, fun _ => trivial⟩
theorem weights_all {e : TypeId} : ∀ {l : List (DataW H)} {d : DataW H}, d ∈ l → ∀ n ∈ d.weights P e, n ∈ DataW.weightsAll P e l
  | a :: l, d, h, n, hn => by
    simp only [DataW.weightsAll, List.mem_append]
    rcases List.mem_cons.1 h with rfl | h
    · exact .inl hn
    · exact .inr (weights_all h n hn)
theorem rdw_field {α : Type} {t : TypeId} {fs : Array Field} {fuel : Nat} {cs : List Value} {x : DataW H × List MemPlace} (ht : P.underlying t = some (.struct fs)) (h : DataW.trod enc P w base spare held fuel t cs = some x)
    (j : Nat) {f : Field} (hf : fs[j]? = some f) {R : List Value → α → Prop} {S : α → Prop} (hr : RdW enc P w base spare held f.type R S) : ∃ a, R ((cs.drop f.offset).take (P.cellsOf f.type)) a ∧ ((∀ n ∈ x.1.weights P t, n ≤ reachBytes) → S a) := by
  obtain ⟨xs, n, _, rfl, _, hlen, hg⟩ := DataW.trod_struct ht h
  have h1 := hg j f hf
  have hj : j < xs.length := by rw [hlen]; exact (Array.getElem?_eq_some_iff.1 hf).1
  rw [List.getElem?_eq_getElem hj] at h1
  obtain ⟨a, ha, hs⟩ := hr _ _ _ h1
  refine ⟨a, ha, fun hw => hs fun n hn => hw n ?_⟩
  simp only [DataW.weights, ht]
  exact DataW.weights_mem_each (j := j) (t := f.type) (d := (xs[j]).1) (by simp [hf]) (by simp [List.getElem?_eq_getElem hj]) n hn
theorem rdw_slice {α : Type} {t e : TypeId} {k : Nat} {R : List Value → α → Prop} {S : α → Prop} (ht : P.underlying t = some (.slice e)) (hc : P.cellsOf e = k + 1) (he : RdW enc P w base spare held e R S) :
    RdW enc P w base spare held t (fun cs (l : List α) => ∃ v, cs = [v] ∧ IsSl (inW w) w (k + 1) R v l) (fun l => l.length * P.bytesOf e ≤ reachBytes ∧ ∀ a ∈ l, S a) := by
  intro fuel cs x hx
  rcases open_slice ht hx with ⟨rfl, rfl⟩ | ⟨a, len, cap, m, n, D, Pl, rfl, hb, hl, hm, hmm, rfl, hi⟩
  · exact ⟨[], ⟨_, rfl, none, 0, rfl, ⟨Nat.le_refl _, by decide, fun i h => by simp at h⟩⟩, fun _ => ⟨by simp, fun a h => by simp at h⟩⟩
  · have hlm : len ≤ m := by rw [hmm]; split <;> omega
    obtain ⟨l, hll, hq⟩ := pick_list (Q := fun i y => ∃ cs', w.cells? base (a.add (i * P.cellsOf e)) (P.cellsOf e) = some cs' ∧ R cs' y ∧ ((∀ n ∈ (D i).weights P e, n ≤ reachBytes) → S y)) len fun i h => by
      obtain ⟨cs', h1, h2⟩ := hi i (by omega)
      obtain ⟨y, hy, hs⟩ := he _ _ _ h2
      exact ⟨y, cs', h1, hy, hs⟩
    refine ⟨l, ⟨_, rfl, some a, cap, by rw [hll], ⟨by omega, by unfold maxLen at hm; omega, fun i h => ?_⟩⟩, fun hw => ⟨?_, fun y hy => ?_⟩⟩
    · obtain ⟨cs', h1, h2, -⟩ := hq i h
      rw [hc] at h1
      obtain ⟨_, hcl, hat⟩ := World.cells?_some h1
      obtain ⟨b, off, spot⟩ := a
      have hspot : spot = none := by
        obtain ⟨cs0, g1, _⟩ := hq 0 (by omega)
        rw [hc] at g1
        obtain ⟨_, gcl, gat⟩ := World.cells?_some g1
        have g0 := gat (i := 0) (by omega)
        have g0' : w.cell? ⟨b, off, spot⟩ = some (cs0[0]'(by omega)) := by
          have : ((⟨b, off, spot⟩ : Addr).add (0 * (k + 1))).add 0 = ⟨b, off, spot⟩ := by simp [Addr.add]
          rw [this] at g0
          rw [g0]; exact List.getElem?_eq_getElem (by omega)
        exact World.cell?_spot g0'
      subst hspot
      have hadd : ∀ o j, ((⟨b, o, none⟩ : Addr).add j) = ⟨b, o + j, none⟩ := by
        intro o j; unfold Addr.add; split <;> simp_all
      refine ⟨b, off, cs', rfl, ?_, hcl, h2, fun j hj => ?_⟩
      · have := hat (i := 0) (by omega)
        rw [hadd, hadd] at this
        exact lt_of_cell (this.trans (List.getElem?_eq_getElem (by omega)))
      · have := hat (i := j) (by omega)
        rw [hadd, hadd] at this
        rw [this]
        exact List.getElem?_eq_getElem hj
    · have := hw (((List.range len).map D).length + ((List.range (m - len)).map fun j => D (len + j)).length |> (· * P.bytesOf e)) (by simp [DataW.weights, ht])
      simp only [List.length_map, List.length_range] at this
      rw [hll]
      exact Nat.le_trans (Nat.mul_le_mul_right _ (by omega)) this
    · obtain ⟨i, hil, rfl⟩ := List.mem_iff_getElem.1 hy
      obtain ⟨cs', h1, h2, h3⟩ := hq i hil
      refine h3 fun n hn => hw n ?_
      simp only [DataW.weights, ht]
      refine List.mem_cons_of_mem _ (List.mem_append_left _ (weights_all (d := D i) (List.mem_map.2 ⟨i, by simp; omega, rfl⟩) n hn))
theorem argw {α : Type} {R : List Value → α → Prop} {S : α → Prop} {r : Reach} {b0 : Nat} {t : TypeId} {fs : Array Field} {v : Value} {d : DataW H} {p : List MemPlace} (ht : P.underlying t = some (.struct fs)) (hval : Value.okWide P w r b0 t v) (hd : DataW.Trod enc P w base spare held t v d p)
    (hr : RdW enc P w base spare held t R S) : ∃ cs a, v = .agg cs ∧ R cs.toList a ∧ ((∀ n ∈ d.weights P t, n ≤ reachBytes) → S a) := by
  obtain ⟨cs, rfl, _⟩ := okWide_struct ht hval
  obtain ⟨fuel, hf⟩ := hd
  obtain ⟨a, ha, hs⟩ := hr _ _ _ hf
  exact ⟨cs, a, rfl, by simpa [Value.cells] using ha, hs⟩
end
end Go.Proofs.Ytbeocackphfijaa
namespace Go.Proofs.Ytbeocackphfijaa
open Go Go.RowKit Go.Proofs Go.ChangeShapes Go.WideShapes Go.Deep
set_option maxRecDepth 100000
section
variable {H : Type} {enc : TypeId × Value → H} {w : World} {base : Nat} {spare : Nat → Bool} {held : Bool}
theorem Try.sizePfx : Try.prog.cellsOf 26 = 2 := by kernel_rfl
theorem Try.sizeInt1 : Try.prog.cellsOf 3 = 1 := by kernel_rfl
theorem rd_pfx : Rd enc Try.prog w base spare held 26 Pfx.R := by
  intro fuel cs x hx
  have hl := rd_len Try.underlying26 hx
  rw [Try.sizePfx] at hl
  obtain ⟨a, ha⟩ := rd_field Try.underlying26 hx 0 rfl (rd_int Try.underlying3)
  obtain ⟨b, hb⟩ := rd_field Try.underlying26 hx 1 rfl (rd_int Try.underlying3)
  match cs, hl with
  | [c0, c1], _ =>
    simp [Try.sizeInt1, IntR] at ha hb
    exact ⟨⟨a, b⟩, by simp [Pfx.R, ha.1, hb.1]⟩
end
end Go.Proofs.Ytbeocackphfijaa
namespace Go.Proofs.Ytbeocackphfijaa
open Go Go.RowKit Go.Proofs Go.ChangeShapes Go.WideShapes Go.Deep
set_option maxRecDepth 100000
/-- A slice of what reads as data reads as data. -/
theorem isSl_rep {α : Type} {enc : α → List D} {sz : Nat} {w : World} (h0 : 0 < sz) (hen : ∀ a, (enc a).length = sz ∧ ∀ d ∈ enc a, d.one = true) {v : Value} {l : List α} (h : IsSl (inW w) w sz (fun cs a => RepDs NM w (enc a) cs) v l) : RepD NM w (.sl sz (l.map enc)) v := by
  obtain ⟨ao, cap, rfl, hs⟩ := h
  cases l with
  | nil => exact .nil sz ao cap hs.cap_max
  | cons u us =>
    obtain ⟨b, off, cs, rfl, hAb, hl, hR, hcs⟩ := hs.elem 0 (by simp)
    have key : ∀ i (hi : i < (u :: us).length), ∃ cs : List Value, cs.length = sz ∧ RepDs NM w (enc (u :: us)[i]) cs ∧ cellsAt w b (off + i * sz) cs := by
      intro i hi
      obtain ⟨b', off', cs', e, -, hl', hR', hcs'⟩ := hs.elem i hi
      cases e
      exact ⟨cs', hl', hR', hcs'⟩
    have hlen : ((u :: us).map enc).length = (u :: us).length := by simp
    rw [← hlen]
    refine .sl sz ((u :: us).map enc) b off cap (fun i j => (w.cell? ⟨b, off + i * sz + j, none⟩).getD undef) (fun h => h) hAb (by rw [hlen]; exact hs.cap_le) hs.cap_max (fun r hr => ?_) (fun r hr => ?_) (fun i j hi hj => ?_) (fun i j row d hi hj => ?_)
    · obtain ⟨x, -, rfl⟩ := List.mem_map.1 hr; exact (hen x).1
    · obtain ⟨x, -, rfl⟩ := List.mem_map.1 hr; exact (hen x).2
    · obtain ⟨cs', hl', -, hcs'⟩ := key i (by simpa using hi)
      rw [hcs' j (by omega)]; rfl
    · have hi' : i < (u :: us).length := by have := (List.getElem?_eq_some_iff.1 hi).1; simpa using this
      obtain ⟨cs', hl', hR', hcs'⟩ := key i hi'
      rw [List.getElem?_map, List.getElem?_eq_getElem hi'] at hi
      simp only [Option.map_some, Option.some.injEq] at hi
      subst hi
      have hj' : j < cs'.length := by rw [← hR'.1]; exact (List.getElem?_eq_some_iff.1 hj).1
      rw [hcs' j hj']
      exact hR'.2 j d _ hj (List.getElem?_eq_getElem hj')
section
variable {H : Type} {enc : TypeId × Value → H} {w : World} {base : Nat} {spare : Nat → Bool} {held : Bool}
theorem Try.sizeLse : Try.prog.cellsOf 50 = 5 := by kernel_rfl
theorem Try.sizePol : Try.prog.cellsOf 46 = 9 := by kernel_rfl
theorem Try.sizeBok : Try.prog.cellsOf 24 = 2 := by kernel_rfl
theorem Try.sizeRul : Try.prog.cellsOf 28 = 4 := by kernel_rfl
theorem Try.sizeLses : Try.prog.cellsOf 44 = 1 := by kernel_rfl
theorem Try.sizePols : Try.prog.cellsOf 22 = 1 := by kernel_rfl
theorem Try.bytesLse : Try.prog.bytesOf 50 = 40 := by kernel_rfl
theorem repDs_ints (l : List Int) : RepDs NM w (l.map fun n => .v (.int .i64 n)) (l.map fun n => .int .i64 n) := by
  refine ⟨by simp, fun j d x hj hx => ?_⟩
  rw [List.getElem?_map, Option.map_eq_some_iff] at hj hx
  obtain ⟨a, ha, rfl⟩ := hj
  obtain ⟨c, hc, rfl⟩ := hx
  rw [ha] at hc
  obtain rfl := Option.some.inj hc
  exact .v _
theorem rd_lse : Rd enc Try.prog w base spare held 50 fun cs (l : Lse) => cs = [.int .i64 l.at_.at_, .int .i64 l.at_.len, .int .i64 l.kind, .int .i64 l.owner, .int .i64 l.till] := by
  intro fuel cs x hx
  have hl := rd_len Try.underlying50 hx
  rw [Try.sizeLse] at hl
  obtain ⟨p, hp⟩ := rd_field Try.underlying50 hx 0 rfl rd_pfx
  obtain ⟨k, hk⟩ := rd_field Try.underlying50 hx 1 rfl (rd_int Try.underlying3)
  obtain ⟨o, ho⟩ := rd_field Try.underlying50 hx 2 rfl (rd_int Try.underlying3)
  obtain ⟨t, ht⟩ := rd_field Try.underlying50 hx 3 rfl (rd_int Try.underlying3)
  match cs, hl with
  | [c0, c1, c2, c3, c4], _ =>
    simp [Try.sizePfx, Try.sizeInt1, IntR, Pfx.R] at hp hk ho ht
    exact ⟨⟨p, k, o, t⟩, by simp [hp.1, hp.2, hk.1, ho.1, ht.1]⟩
theorem rd_rul : Rd enc Try.prog w base spare held 28 fun cs (r : Rul) => cs = [.int .i64 r.min, .int .i64 r.max, .int .i64 r.usual, .int .i64 r.cool] := by
  intro fuel cs x hx
  have hl := rd_len Try.underlying28 hx
  rw [Try.sizeRul] at hl
  obtain ⟨a, ha⟩ := rd_field Try.underlying28 hx 0 rfl (rd_int Try.underlying3)
  obtain ⟨b, hb⟩ := rd_field Try.underlying28 hx 1 rfl (rd_int Try.underlying3)
  obtain ⟨c, hc⟩ := rd_field Try.underlying28 hx 2 rfl (rd_int Try.underlying3)
  obtain ⟨d, hd⟩ := rd_field Try.underlying28 hx 3 rfl (rd_int Try.underlying3)
  match cs, hl with
  | [c0, c1, c2, c3], _ =>
    simp [Try.sizeInt1, IntR] at ha hb hc hd
    exact ⟨⟨a, b, c, d⟩, by simp [ha.1, hb.1, hc.1, hd.1]⟩
theorem rd_lseD : Rd enc Try.prog w base spare held 50 fun cs (l : Lse) => RepDs NM w (encL l) cs :=
  rd_lse.map id fun cs l h => by rw [h]; exact repDs_ints [l.at_.at_, l.at_.len, l.kind, l.owner, l.till]
theorem rdw_lses : RdW enc Try.prog w base spare held 44 (fun cs (l : List Lse) => ∃ v, cs = [v] ∧ RepD NM w (.sl 5 (l.map encL)) v) (fun l => l.length * 40 ≤ reachBytes) := by
  have h := rdw_slice (enc := enc) (base := base) (spare := spare) (held := held) Try.underlying44 Try.sizeLse (rdw_of (rd_lseD (w := w)))
  intro fuel cs x hx
  obtain ⟨l, ⟨v, rfl, hs⟩, hw⟩ := h fuel cs x hx
  refine ⟨l, ⟨v, rfl, isSl_rep (sz := 5) (by omega) (fun a => ⟨rfl, fun d hd => ?_⟩) hs⟩, fun hh => by have := (hw hh).1; rwa [Try.bytesLse] at this⟩
  simp [encL] at hd
  rcases hd with rfl | rfl | rfl | rfl | rfl <;> rfl
theorem repDs_appR {M : Nat → Prop} {w : World} {ds es : List D} {vs us : List Value} (h : RepDs M w ds vs) (g : RepDs M w es us) : RepDs M w (ds ++ es) (vs ++ us) := by
  refine ⟨by simp [h.1, g.1], fun j d x hj hx => ?_⟩
  rcases Nat.lt_or_ge j ds.length with hlt | hge
  · rw [List.getElem?_append_left hlt] at hj
    rw [List.getElem?_append_left (by rw [← h.1]; exact hlt)] at hx
    exact h.2 j d x hj hx
  · rw [List.getElem?_append_right hge] at hj
    rw [List.getElem?_append_right (by rw [← h.1]; exact hge), ← h.1] at hx
    exact g.2 _ d x hj hx
theorem repDs_one {M : Nat → Prop} {w : World} {d : D} {v : Value} (h : RepD M w d v) : RepDs M w [d] [v] := ⟨rfl, fun j e x hj hx => by
  match j with
  | 0 => cases hj; cases hx; exact h
  | j + 1 => simp at hj⟩
theorem rdw_pol : RdW enc Try.prog w base spare held 46 (fun cs (p : Pol) => RepDs NM w (encPol p) cs) (fun p => p.leases.length * 40 ≤ reachBytes) := by
  intro fuel cs x hx
  have hl := rd_len Try.underlying46 hx
  rw [Try.sizePol] at hl
  obtain ⟨a, ha⟩ := rd_field Try.underlying46 hx 0 rfl (rd_int Try.underlying3)
  obtain ⟨b, hb⟩ := rd_field Try.underlying46 hx 1 rfl (rd_int Try.underlying3)
  obtain ⟨p, hp⟩ := rd_field Try.underlying46 hx 2 rfl rd_pfx
  obtain ⟨r, hr⟩ := rd_field Try.underlying46 hx 3 rfl rd_rul
  obtain ⟨l, hs, hw⟩ := rdw_field Try.underlying46 hx 4 rfl rdw_lses
  match cs, hl with
  | [c0, c1, c2, c3, c4, c5, c6, c7, c8], _ =>
    simp [Try.sizePfx, Try.sizeInt1, Try.sizeRul, Try.sizeLses, IntR, Pfx.R] at ha hb hp hr hs
    refine ⟨⟨a, b, p, r, l⟩, ?_, hw⟩
    rw [ha.1, hb.1, hp.1, hp.2, hr.1, hr.2.1, hr.2.2.1, hr.2.2.2]
    exact repDs_appR (repDs_ints [a, b, p.at_, p.len, r.min, r.max, r.usual, r.cool]) (repDs_one hs)
theorem rdw_pols : RdW enc Try.prog w base spare held 22 (fun cs (l : List Pol) => ∃ v, cs = [v] ∧ RepD NM w (.sl 9 (l.map encPol)) v) (fun l => ∀ p ∈ l, p.leases.length * 40 ≤ reachBytes) := by
  have h := rdw_slice (enc := enc) (base := base) (spare := spare) (held := held) Try.underlying22 Try.sizePol (rdw_pol (w := w))
  intro fuel cs x hx
  obtain ⟨l, ⟨v, rfl, hs⟩, hw⟩ := h fuel cs x hx
  refine ⟨l, ⟨v, rfl, isSl_rep (sz := 9) (by omega) (fun a => ⟨rfl, fun d hd => ?_⟩) hs⟩, fun hh => (hw hh).2⟩
  simp [encPol] at hd
  rcases hd with rfl | rfl | rfl | rfl | rfl | rfl | rfl | rfl | rfl <;> rfl
theorem rdw_bok : RdW enc Try.prog w base spare held 24 (fun cs (b : Bok) => RepDs NM w (encB b) cs) (fun b => ∀ p ∈ b.pools, p.leases.length ≤ 3518437208882) := by
  intro fuel cs x hx
  have hl := rd_len Try.underlying24 hx
  rw [Try.sizeBok] at hl
  obtain ⟨a, ha⟩ := rd_field Try.underlying24 hx 0 rfl (rd_int Try.underlying3)
  obtain ⟨l, hs, hw⟩ := rdw_field Try.underlying24 hx 1 rfl rdw_pols
  match cs, hl with
  | [c0, c1], _ =>
    simp [Try.sizeInt1, Try.sizePols, IntR] at ha hs
    refine ⟨⟨a, l⟩, ?_, fun hh p hp => ?_⟩
    · rw [ha.1]
      exact repDs_appR (repDs_ints [a]) (repDs_one hs)
    · have := hw hh p hp
      unfold reachBytes at this
      omega
end
end Go.Proofs.Ytbeocackphfijaa
namespace Go.Proofs.Ytbeocackphfijaa
open Go Go.RowKit Go.Proofs Go.ChangeShapes Go.WideShapes Go.Deep
theorem repDs_n {M : Nat → Prop} {w : World} : RepDs M w [] [] := ⟨rfl, fun j d x hj _ => by simp at hj⟩
theorem repDs_c {M : Nat → Prop} {w : World} {d : D} {v : Value} {ds : List D} {vs : List Value} (h : RepD M w d v) (g : RepDs M w ds vs) : RepDs M w (d :: ds) (v :: vs) := ⟨by simp [g.1], fun j e x hj hx => by
  cases j with
  | zero => simp at hj hx; subst hj; subst hx; exact h
  | succ j => exact g.2 j e x (by simpa using hj) (by simpa using hx)⟩
theorem rep_agg {w : World} {cs : Array Value} {ds : List D} (h : RepDs NM w ds cs.toList) (h1 : ds.all D.one = true) : RepD NM w (.agg ds) (.agg cs) := by
  have := RepD.agg (M := NM) (w := w) ds cs.toList h.1 (fun d hd => List.all_eq_true.1 h1 d hd) h.2
  simpa using this
theorem law_of {P : Program} {f : Nat} {args : List D} {vs : List Value} {W : World} (hp : PSpec P f args (.v (.bool true))) (hds : RepDs NM W args vs) : Calls P f vs.toArray W fun e w' => e = .returned (.bool true) ∧ Ext W w' := by
  refine (hp.2 NM W vs (fun b h => h.elim) hds).mono ?_
  rintro e w' ⟨v, rfl, hv, hx⟩
  cases hv
  exact ⟨rfl, hx⟩
section
variable {H : Type} {enc : TypeId × Value → H} {w : World} {base : Nat} {spare : Nat → Bool} {held : Bool}
theorem rd_pfxD : RdW enc Try.prog w base spare held 26 (fun cs (p : Pfx) => RepDs NM w (encP p) cs) (fun _ => True) :=
  rdw_of (rd_pfx.map id fun cs p h => by rw [show cs = _ from h]; exact repDs_ints [p.at_, p.len])
end
end Go.Proofs.Ytbeocackphfijaa
namespace Go.Proofs.Ytbeocackphfijaa
open Go Go.RowKit Go.Proofs Go.ChangeShapes Go.WideShapes Go.ChangeAt
set_option linter.unusedVariables false
theorem poolFinds_own : ownKnob Try.prog.godebug = Option.none := by kernel_rfl
theorem poolFinds_laidOut : laidOutB Try.prog = true := by kernel_rfl
set_option maxRecDepth 100000 in
theorem poolFinds_lifted (os : Os) (started : os.Started) (H : Type) (enc : TypeId × Value → H) :
    ReturnsInHanded {} Try.checked os 7 .any (Rows.poolFindsSpec.pre6 enc Try.prog Try.f7 Rows.poolFindsRow.domain false) (Rows.poolFindsSpec.post enc Try.prog Try.f7 false true false false) := by
  refine returnsInHanded_of_change_sized (C := Try.checked) poolFinds_own started (by kernel_rfl) Try.func7
    (ChangeSpec.witness6 (enc := enc) (C := Try.checked) false ⟨#[], #[.agg #[.int .i64 0, .slice none 0 0], .int .i64 0, .int .i64 0, .int .i64 0, .agg #[.int .i64 0, .int .i64 0]], []⟩ 8 (by kernel_rfl) (by kernel_rfl) (by kernel_rfl) (by kernel_rfl)) ?_
  intro W base args ds gs before hval0 hW hcnd hsz _
  have hval : ∀ (j : Nat) t v, Try.f7.params[j]? = some t → args[j]? = some v → Value.okWide Try.prog W .any base t v := hval0
  have hW' := hW
  obtain ⟨p, q, hA0, hV, rfl, hfz, hnd⟩ := hW
  have hA : DataW.TrodAll enc Try.prog W 0 (fun _ => true) true Try.f7.params.toList args.toList ds p := hA0
  rw [Try.params7] at hA hval
  obtain ⟨v0, vs0, d0, ds0, p0, q0, hargs, rfl, rfl, h0, r0⟩ := trodAll_cons hA
  obtain ⟨v1, vs1, d1, ds1, p1, q1, rfl, rfl, rfl, h1, r1⟩ := trodAll_cons r0
  obtain ⟨v2, vs2, d2, ds2, p2, q2, rfl, rfl, rfl, h2, r2⟩ := trodAll_cons r1
  obtain ⟨v3, vs3, d3, ds3, p3, q3, rfl, rfl, rfl, h3, r3⟩ := trodAll_cons r2
  obtain ⟨v4, vs4, d4, ds4, p4, q4, rfl, rfl, rfl, h4, r4⟩ := trodAll_cons r3
  obtain ⟨rfl, rfl, rfl⟩ := trodAll_nil r4
  obtain rfl : args = #[v0, v1, v2, v3, v4] := by cases args; simp_all
  obtain ⟨rfl, rfl⟩ := trodVars_none hV
  obtain ⟨cs0, a0, rfl, w0, s0⟩ := argw Try.underlying24 (hval 0 24 v0 rfl rfl) h0 rdw_bok
  replace s0 := s0 (fun n hn => of_decide_eq_true (List.all_eq_true.1 hsz _ (DataW.weights_mem_each (j := 0) (t := 24) rfl rfl n hn)))
  obtain ⟨a1, rfl, w1⟩ := arg_int Try.underlying3 (hval 1 3 v1 rfl rfl) h1
  obtain ⟨a2, rfl, w2⟩ := arg_int Try.underlying3 (hval 2 3 v2 rfl rfl) h2
  obtain ⟨a3, rfl, w3⟩ := arg_int Try.underlying3 (hval 3 3 v3 rfl rfl) h3
  obtain ⟨cs4, a4, rfl, w4, s4⟩ := argw Try.underlying26 (hval 4 26 v4 rfl rfl) h4 rd_pfxD
  clear hA0 hval0
  refine (law_of (poolFinds_p a0 a1 a2 a3 a4 s0) (vs := [.agg cs0, .int .i64 a1, .int .i64 a2, .int .i64 a3, .agg cs4]) (repDs_c (rep_agg w0 rfl) (repDs_c (.v (.int .i64 a1)) (repDs_c (.v (.int .i64 a2)) (repDs_c (.v (.int .i64 a3)) (repDs_c (rep_agg w4 rfl) repDs_n)))))).mono fun e W' ⟨he, bel⟩ => ?_
  subst he
  exact ⟨_, rfl, _, _, _, [], _, [], hW', trodAll_mk1 (shut_bool Try.underlying4 _), (trodAll_cons_mk (Below.trod poolFinds_laidOut (by kernel_rfl) (of_decide_eq_true (by kernel_rfl)) h0 bel (trod_lts h0)) (trodAll_cons_mk (Below.trod poolFinds_laidOut (by kernel_rfl) (of_decide_eq_true (by kernel_rfl)) h1 bel (trod_lts h1)) (trodAll_cons_mk (Below.trod poolFinds_laidOut (by kernel_rfl) (of_decide_eq_true (by kernel_rfl)) h2 bel (trod_lts h2)) (trodAll_cons_mk (Below.trod poolFinds_laidOut (by kernel_rfl) (of_decide_eq_true (by kernel_rfl)) h3 bel (trod_lts h3)) (trodAll_cons_mk (Below.trod poolFinds_laidOut (by kernel_rfl) (of_decide_eq_true (by kernel_rfl)) h4 bel (trod_lts h4)) trodAll_mk0))))), rfl, bel.frame _, fun h => by cases h⟩
theorem poolFinds_over : Rows.poolFindsRow.holds Try.pinned (OpenSpec.ofChange Rows.poolFindsSpec) :=
  OpenClaim.holds_of_wide 7 Try.f7 rfl rfl rfl rfl rfl rfl rfl ⟨rfl, rfl, rfl, rfl, rfl⟩ rfl rfl rfl rfl rfl (by kernel_rfl) Try.func7 (by kernel_rfl)
    (of_decide_eq_true (by kernel_rfl)) (by unfold Func.isWrapper; first | (rw [if_pos (by decide +kernel)]; kernel_rfl) | (rw [if_neg (by decide +kernel)]; exact ⟨rfl, rfl⟩))
    (fun os started H enc _ => poolFinds_lifted os started H enc)
theorem poolFinds_holds : Rows.PoolFindsSaid := poolFinds_over
#print axioms poolFinds_holds
end Go.Proofs.Ytbeocackphfijaa
