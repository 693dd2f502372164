/- Texts of this work, joined: LibM, Pool1, Pool2, Ins, Pool3, Pool4, Pool5, Pool6. -/
import Derived.Test.YtbeocackphfijaaZHPoolApart3
import Derived.Deep.RegionLaw
import Derived.Shelf.RegionOpenPlain
import Derived.Lib.Overlaps
import Derived.Lib.AppendZerosOnto
import Derived.Laws.Externs
import Derived.Lib.SliceRun
set_option linter.unusedSimpArgs false
set_option linter.unusedVariables false
namespace Go.Proofs.Ytbeocackphfijaa
open Go Go.RowKit
theorem encL_len (p : Lse) : (encL p).length = 5 := rfl
theorem encPol_len (p : Pol) : (encPol p).length = 9 := rfl
theorem encP_len (p : Pfx) : (encP p).length = 2 := rfl
theorem delete_Lease {α : Type} {enc : α → List D} (l : List α) (i j g : Nat) (hi : i < l.length) (hj : j = i + 1) :
    MSpec Try.prog 93 [.own 0 g, .d (.v (.int .i64 i)), .d (.v (.int .i64 j))] [.row 50 5 g (dRows (l.map enc))] (.own 0 (g + 1)) [.row 50 5 (g + 1) (dRows ((l.eraseIdx i).map enc))] := by
  have h1 : ((i : Int) == (j : Int)) = false := by simp; omega
  have hne : ¬ dRows (l.map enc) = [] := by cases l <;> simp [dRows] at hi ⊢
  have hle : (i : Int) ≤ (j : Int) := by omega
  have hle2 : (j : Int) ≤ (l.length : Int) := by omega
  have hlm : (l.map enc).length = l.length := List.length_map _
  have h2 := del_len (dRows (l.map enc)) i j l.length (by rw [dRows_len, hlm]; exact hi) hj (by rw [dRows_len, hlm])
  rw [dRows_len, hlm] at h2
  have hj1 := Lib.hid hj
  clear hj
  have hj2 : j ≤ l.length := by have := hj1.out; omega
  have hmin : min (l.length - j) (l.length - j) = l.length - j := Nat.min_self _
  have hlt : i + (l.length - j) ≤ l.length := by have := hj1.out; omega
  have hk1 : l.length - (i + (l.length - j)) = 1 := by have := hj1.out; omega
  have hk2 : i + (l.length - j) + 1 ≤ l.length := by have := hj1.out; omega
  have hne2 : ¬ setAt (dRows (l.map enc)) i (((dRows (l.map enc)).drop j).take (l.length - j)) = [] := by
    intro h
    rw [h] at h2; simp at h2; omega
  refine ms_i tab_ok mixed Try.func93 rfl Try.ntmps93 Try.results93 (by kernel_rfl) (by simp) (by simp [belowL, belowP]) (by simp [belowH, belowC, belowL, belowP, belowL_d, belowR_d]) ?_
  repeat' (first | (with_reducible refine And.intro ?_ ?_) | (with_reducible refine gK_i (fun _ => ?_) (fun _ => ?_)) | (with_reducible refine condS_i (fun _ => ?_) (fun _ => ?_)) | (with_reducible refine drw_i (by kernel_rfl)) | simp -dsimp only [go_sem, ↓reduceIte, reduceCtorEq, Nat.reduceAdd, Nat.reduceMul, Nat.reduceSub, Nat.reduceLeDiff, Nat.reduceLT, Nat.reduceEqDiff, Int.reduceLE, Int.reduceLT, Int.reduceToNat, Int.reduceBEq, Int.reduceBNe, Int.reduceEq, Int.reduceAdd, Int.reduceSub, Int.reduceMul, Int.reduceNeg, Int.cast_ofNat_Int, *, h1, hne, Nat.sub_zero, List.length_take, List.length_drop] | ((with_reducible refine opK_c ?_); simp -dsimp only [go_sem, ↓reduceIte, reduceCtorEq, Nat.reduceAdd, Nat.reduceMul, Nat.reduceSub, Nat.reduceLeDiff, Nat.reduceLT, Nat.reduceEqDiff, Int.reduceLE, Int.reduceLT, Int.reduceToNat, Int.reduceBEq, Int.reduceBNe, Int.reduceEq, Int.reduceAdd, Int.reduceSub, Int.reduceMul, Int.reduceNeg, Int.cast_ofNat_Int, h1, hne, Nat.sub_zero, List.length_take, List.length_drop]; first | refine callK_r (by first | assumption | fail) (by first | exact .inl rfl | exact .inr rfl) ?_ | refine callK_i (by assumption) (by repeat (first | exact DLe.refl _ | exact DLe.nil _ | (refine DLe.tup ?_) | (refine DLe.agg ?_ rfl) | exact trivial | (refine And.intro ?_ ?_))) (by first | exact .inl rfl | exact .inr rfl) ?_) | omega | exact decide_eq_true (by omega) | exact DLe.refl _)
  rw [map_erase]
  exact del_weak (by rw [hlm]; exact hi) hj1.out hlm.symm
theorem clone_Lease {α : Type} (enc : α → List D) (l : List α) (hl : l.length ≤ 1000000000) :
    MSpec Try.prog 94 [.d (.sl 5 (l.map enc))] [] (.own 0 1) [.row 50 5 1 (dRows (l.map enc))] := by
  cases l with
  | nil =>
    refine ms_empty (pl := []) (ql := []) fun ao cap => ?_
    cases ao with
    | none =>
      simp only [List.nil_append]
      refine ms_i tab_ok mixed Try.func94 rfl Try.ntmps94 Try.results94 (by kernel_rfl) (by simp) (by simp [belowL, belowP]) (by simp [belowH, belowC, belowL, belowP, belowL_d, belowR_d]) ?_
      repeat' (first | (with_reducible refine And.intro ?_ ?_) | (with_reducible refine gK_i (fun _ => ?_) (fun _ => ?_)) | (with_reducible refine condS_i (fun _ => ?_) (fun _ => ?_)) | (with_reducible refine drw_i (by kernel_rfl)) | simp -dsimp only [go_sem, ↓reduceIte, reduceCtorEq, Nat.reduceAdd, Nat.reduceMul, Nat.reduceSub, Nat.reduceLeDiff, Nat.reduceLT, Nat.reduceEqDiff, Int.reduceLE, Int.reduceLT, Int.reduceToNat, Int.reduceBEq, Int.reduceBNe, Int.reduceEq, Int.reduceAdd, Int.reduceSub, Int.reduceMul, Int.reduceNeg, Int.cast_ofNat_Int, *, Option.isNone_none, Option.isSome_some] | ((with_reducible refine opK_c ?_); simp -dsimp only [go_sem, ↓reduceIte, reduceCtorEq, Nat.reduceAdd, Nat.reduceMul, Nat.reduceSub, Nat.reduceLeDiff, Nat.reduceLT, Nat.reduceEqDiff, Int.reduceLE, Int.reduceLT, Int.reduceToNat, Int.reduceBEq, Int.reduceBNe, Int.reduceEq, Int.reduceAdd, Int.reduceSub, Int.reduceMul, Int.reduceNeg, Int.cast_ofNat_Int, Option.isNone_none, Option.isSome_some]; first | refine callK_r (by first | assumption | fail) (by first | exact .inl rfl | exact .inr rfl) ?_ | refine callK_i (by assumption) (by repeat (first | exact DLe.refl _ | exact DLe.nil _ | (refine DLe.tup ?_) | (refine DLe.agg ?_ rfl) | exact trivial | (refine And.intro ?_ ?_))) (by first | exact .inl rfl | exact .inr rfl) ?_) | omega | exact decide_eq_true (by omega) | exact DLe.refl _)
      refine weak_ret_adopt (h := []) (Nat.le_refl _) 50 5 ?_
      exact (weak_ret_bump 0 0 50 5 [] rfl (weak_eq rfl rfl))
    | some a =>
      simp only [List.nil_append]
      refine ms_i tab_ok mixed Try.func94 rfl Try.ntmps94 Try.results94 (by kernel_rfl) (by simp) (by simp [belowL, belowP]) (by simp [belowH, belowC, belowL, belowP, belowL_d, belowR_d]) ?_
      repeat' (first | (with_reducible refine And.intro ?_ ?_) | (with_reducible refine gK_i (fun _ => ?_) (fun _ => ?_)) | (with_reducible refine condS_i (fun _ => ?_) (fun _ => ?_)) | (with_reducible refine drw_i (by kernel_rfl)) | simp -dsimp only [go_sem, ↓reduceIte, reduceCtorEq, Nat.reduceAdd, Nat.reduceMul, Nat.reduceSub, Nat.reduceLeDiff, Nat.reduceLT, Nat.reduceEqDiff, Int.reduceLE, Int.reduceLT, Int.reduceToNat, Int.reduceBEq, Int.reduceBNe, Int.reduceEq, Int.reduceAdd, Int.reduceSub, Int.reduceMul, Int.reduceNeg, Int.cast_ofNat_Int, *, Option.isNone_some, Option.isSome_some] | ((with_reducible refine opK_c ?_); simp -dsimp only [go_sem, ↓reduceIte, reduceCtorEq, Nat.reduceAdd, Nat.reduceMul, Nat.reduceSub, Nat.reduceLeDiff, Nat.reduceLT, Nat.reduceEqDiff, Int.reduceLE, Int.reduceLT, Int.reduceToNat, Int.reduceBEq, Int.reduceBNe, Int.reduceEq, Int.reduceAdd, Int.reduceSub, Int.reduceMul, Int.reduceNeg, Int.cast_ofNat_Int, Option.isNone_some, Option.isSome_some]; first | refine callK_r (by first | assumption | fail) (by first | exact .inl rfl | exact .inr rfl) ?_ | refine callK_i (by assumption) (by repeat (first | exact DLe.refl _ | exact DLe.nil _ | (refine DLe.tup ?_) | (refine DLe.agg ?_ rfl) | exact trivial | (refine And.intro ?_ ?_))) (by first | exact .inl rfl | exact .inr rfl) ?_) | omega | exact decide_eq_true (by omega) | exact DLe.refl _)
      exact weak_eq rfl rfl
  | cons x l =>
    simp only [List.length_cons] at hl
    refine ms_i tab_ok mixed Try.func94 rfl Try.ntmps94 Try.results94 (by kernel_rfl) (by simp) (by simp [belowL, belowP]) (by simp [belowH, belowC, belowL, belowP, belowL_d, belowR_d]) ?_
    repeat' (first | (with_reducible refine And.intro ?_ ?_) | (with_reducible refine gK_i (fun _ => ?_) (fun _ => ?_)) | (with_reducible refine condS_i (fun _ => ?_) (fun _ => ?_)) | (with_reducible refine drw_i (by kernel_rfl)) | simp -dsimp only [go_sem, ↓reduceIte, reduceCtorEq, Nat.reduceAdd, Nat.reduceMul, Nat.reduceSub, Nat.reduceLeDiff, Nat.reduceLT, Nat.reduceEqDiff, Int.reduceLE, Int.reduceLT, Int.reduceToNat, Int.reduceBEq, Int.reduceBNe, Int.reduceEq, Int.reduceAdd, Int.reduceSub, Int.reduceMul, Int.reduceNeg, Int.cast_ofNat_Int, *, Option.isNone_some, Option.isSome_some] | ((with_reducible refine opK_c ?_); simp -dsimp only [go_sem, ↓reduceIte, reduceCtorEq, Nat.reduceAdd, Nat.reduceMul, Nat.reduceSub, Nat.reduceLeDiff, Nat.reduceLT, Nat.reduceEqDiff, Int.reduceLE, Int.reduceLT, Int.reduceToNat, Int.reduceBEq, Int.reduceBNe, Int.reduceEq, Int.reduceAdd, Int.reduceSub, Int.reduceMul, Int.reduceNeg, Int.cast_ofNat_Int, Option.isNone_some, Option.isSome_some]; first | refine callK_r (by first | assumption | fail) (by first | exact .inl rfl | exact .inr rfl) ?_ | refine callK_i (by assumption) (by repeat (first | exact DLe.refl _ | exact DLe.nil _ | (refine DLe.tup ?_) | (refine DLe.agg ?_ rfl) | exact trivial | (refine And.intro ?_ ?_))) (by first | exact .inl rfl | exact .inr rfl) ?_) | omega | exact decide_eq_true (by omega) | exact DLe.refl _)
    all_goals first | omega | exact weak_eq rfl rfl
set_option maxHeartbeats 1000000 in
theorem delf_Lease (p : Lse → Bool) (l : List Lse) (k g fn : Nat) (caps : List PV) (h : List Chunk) (hk : hatL h k = .row 50 5 g (dRows (l.map encL))) (hbc : belowL h.length caps = true) (hbh : belowH h.length h = true) (hl : l.length ≤ 1000000000)
    (h5 : ∃ ds, viewL (viewF (hatL h) 5) caps = some ds ∧ ∀ x ∈ l, PSpec Try.prog fn (.agg (encL x) :: ds) (.v (.bool (p x))))
    (h6 : ∀ (m : List Lse) (b : Chunk), ∃ ds, viewL (vw (hatL (setC h k (.row 50 5 g (dRows (m.map encL))) ++ [b]))) caps = some ds ∧ ∀ x ∈ l, PSpec Try.prog fn (.agg (encL x) :: ds) (.v (.bool (p x)))) :
    MSpec Try.prog 71 [.own k g, .clo fn caps] h (.own k (g + 1)) (setC h k (.row 50 5 (g + 1) (dRows ((l.filter fun x => !p x).map encL)))) := by
  have hlt : k < h.length := hatL_lt (by rw [hk]; simp)
  obtain ⟨ds, hd1, hd2⟩ := h5
  have hix := idxf_Lease encL_len p l fn ds hl hd2
  have hle : h.length ≤ (setC h k (.row 50 5 (g + 1) (dRows ((l.filter fun x => !p x).map encL)))).length := by rw [setC_lt hlt]; exact Nat.le_refl _
  have hba : belowL h.length [.own k g, .clo fn caps] = true := by simp only [belowL, belowP, hlt, hbc, decide_true, Bool.and_self]
  unfold idxI at hix
  cases hf : l.findIdx? p with
  | none =>
    rw [hf] at hix
    replace hf := Lib.hid hf
    refine ms_w tab_ok mixed Try.func71 rfl Try.ntmps71 Try.results71 (by kernel_rfl) hle hba hbh ?_
    repeat' (first | (with_reducible refine And.intro ?_ ?_) | (with_reducible refine gK_i (fun _ => ?_) (fun _ => ?_)) | (with_reducible refine condS_i (fun _ => ?_) (fun _ => ?_)) | (with_reducible refine drw_i (by kernel_rfl)) | simp -dsimp only [go_sem, ↓reduceIte, reduceCtorEq, Nat.reduceAdd, Nat.reduceMul, Nat.reduceSub, Nat.reduceLeDiff, Nat.reduceLT, Nat.reduceEqDiff, Int.reduceLE, Int.reduceLT, Int.reduceToNat, Int.reduceBEq, Int.reduceBNe, Int.reduceEq, Int.reduceAdd, Int.reduceSub, Int.reduceMul, Int.reduceNeg, Int.cast_ofNat_Int, *, hk, hd1] | ((with_reducible refine opK_c ?_); simp -dsimp only [go_sem, ↓reduceIte, reduceCtorEq, Nat.reduceAdd, Nat.reduceMul, Nat.reduceSub, Nat.reduceLeDiff, Nat.reduceLT, Nat.reduceEqDiff, Int.reduceLE, Int.reduceLT, Int.reduceToNat, Int.reduceBEq, Int.reduceBNe, Int.reduceEq, Int.reduceAdd, Int.reduceSub, Int.reduceMul, Int.reduceNeg, Int.cast_ofNat_Int, hk, hd1]; first | refine callK_r (by first | assumption | exact hix) (by first | exact .inl rfl | exact .inr rfl) ?_ | refine callK_i (by assumption) (by repeat (first | exact DLe.refl _ | exact DLe.nil _ | (refine DLe.tup ?_) | (refine DLe.agg ?_ rfl) | exact trivial | (refine And.intro ?_ ?_))) (by first | exact .inl rfl | exact .inr rfl) ?_) | omega | exact decide_eq_true (by omega) | exact DLe.refl _)
    have he : (l.filter fun x => !p x) = l := List.filter_eq_self.2 fun x hx => by
      have := List.findIdx?_eq_none_iff.1 hf.out x hx
      simp [this]
    rw [he]
    exact weak_ret_bump k g _ _ _ hk (weak_eq rfl rfl)
  | some i0 =>
    rw [hf] at hix
    have hst := mix_start hf
    replace hf := Lib.hid hf
    have hne1 : ((i0 : Int) == -1) = false := by rw [beq_eq_false_iff_ne]; omega
    have hw1 : IntKind.i64.wrap ((i0 : Int) + 1) = ((i0 + 1 : Nat) : Int) := by rw [IntKind.wrap_i64]; omega
    obtain ⟨ga, gb, gc, gd, ge, gf, gg, gi⟩ := hpOK hlt
    refine ms_w tab_ok mixed Try.func71 rfl Try.ntmps71 Try.results71 (by kernel_rfl) hle hba hbh ?_
    have hst := Lib.hid hst
    repeat' (first | (with_reducible refine And.intro ?_ ?_) | (with_reducible refine gK_i (fun _ => ?_) (fun _ => ?_)) | (with_reducible refine condS_i (fun _ => ?_) (fun _ => ?_)) | (with_reducible refine drw_i (by kernel_rfl)) | simp -dsimp only [go_sem, ↓reduceIte, reduceCtorEq, Nat.reduceAdd, Nat.reduceMul, Nat.reduceSub, Nat.reduceLeDiff, Nat.reduceLT, Nat.reduceEqDiff, Int.reduceLE, Int.reduceLT, Int.reduceToNat, Int.reduceBEq, Int.reduceBNe, Int.reduceEq, Int.reduceAdd, Int.reduceSub, Int.reduceMul, Int.reduceNeg, Int.cast_ofNat_Int, *, hk, hd1, hne1, hw1] | ((with_reducible refine opK_c ?_); simp -dsimp only [go_sem, ↓reduceIte, reduceCtorEq, Nat.reduceAdd, Nat.reduceMul, Nat.reduceSub, Nat.reduceLeDiff, Nat.reduceLT, Nat.reduceEqDiff, Int.reduceLE, Int.reduceLT, Int.reduceToNat, Int.reduceBEq, Int.reduceBNe, Int.reduceEq, Int.reduceAdd, Int.reduceSub, Int.reduceMul, Int.reduceNeg, Int.cast_ofNat_Int, hk, hd1, hne1, hw1]; first | refine callK_r (by first | assumption | exact hix) (by first | exact .inl rfl | exact .inr rfl) ?_ | refine callK_i (by assumption) (by repeat (first | exact DLe.refl _ | exact DLe.nil _ | (refine DLe.tup ?_) | (refine DLe.agg ?_ rfl) | exact trivial | (refine And.intro ?_ ?_))) (by first | exact .inl rfl | exact .inr rfl) ?_) | omega | exact decide_eq_true (by omega) | exact DLe.refl _)
    refine loopG tab_ok mixed (fun m e h' => ∃ j, j ≤ l.length ∧ i0 < j ∧ m = l.length - j ∧ e = [(6, .d (.v (.int .i64 j))), (5, .d (.v (.int .i64 (keptL p l j).length))), (4, .d (.v (.slice none 0 0))), (1, .clo fn caps), (0, .own k g)] ∧ h' = setC h k (.row 50 5 g (dRows ((mixL p l j).map encL)))) (l.length - (i0 + 1)) _ _ ⟨i0 + 1, hst.out.1, by omega, rfl, rfl, rfl⟩ ?_ ?_
    · rw [hst.out.2.1, hst.out.2.2]
      refine weak_forget [] (by rw [gb]; exact Nat.le_refl _) (by rw [setC_same h k _ hk hlt, List.append_nil]) ⟨rfl, rfl, rfl, rfl, rfl, trivial⟩ (by rw [gb]; simp only [belowE, belowP, hlt, hbc, decide_true, Bool.and_self]) (by rw [gb]; exact belowH_setC _ _ _ _ hbh (by simp only [belowC, belowR_d]) hlt)
    · rintro m e h' ⟨j, hj, hij, rfl, rfl, rfl⟩ C hC
      have hkl := kept_le p l j
      have hml := mix_len p l j
      by_cases hjl : j < l.length
      · obtain ⟨x, hx⟩ : ∃ x, l[j]? = some x := ⟨_, List.getElem?_eq_getElem hjl⟩
        have hmx : (mixL p l j)[j]? = some x := by rw [mix_get p l j j hkl.1]; exact hx
        obtain ⟨y, hmy⟩ : ∃ y, (mixL p l j)[(keptL p l j).length]? = some y := ⟨_, List.getElem?_eq_getElem (by omega)⟩
        have hjI : (j : Int) < (l.length : Int) := by omega
        have hw2 : IntKind.i64.wrap ((j : Int) + 1) = ((j + 1 : Nat) : Int) := by rw [IntKind.wrap_i64]; omega
        have hw3 : IntKind.i64.wrap (((keptL p l j).length : Int) + 1) = (((keptL p l j).length + 1 : Nat) : Int) := by rw [IntKind.wrap_i64]; omega
        have hk2 : (keptL p l j).length < l.length := by omega
        obtain ⟨ds2, hd3, hd4⟩ := h6 (mixL p l j) (.box 50 ((encL x).map .d))
        have hcx := hd4 x (List.mem_of_getElem? hx)
        have hx := Lib.hid hx
        have hrow := dRows_setrow encL (mixL p l j) (keptL p l j).length x
        simp only [encL, List.map_cons, List.map_nil] at hd3 hcx hrow
        repeat' (first | (with_reducible refine And.intro ?_ ?_) | (with_reducible refine gK_i (fun _ => ?_) (fun _ => ?_)) | (with_reducible refine condS_i (fun _ => ?_) (fun _ => ?_)) | (with_reducible refine drw_i (by kernel_rfl)) | simp -dsimp only [go_sem, ↓reduceIte, reduceCtorEq, Nat.reduceAdd, Nat.reduceMul, Nat.reduceSub, Nat.reduceLeDiff, Nat.reduceLT, Nat.reduceEqDiff, Int.reduceLE, Int.reduceLT, Int.reduceToNat, Int.reduceBEq, Int.reduceBNe, Int.reduceEq, Int.reduceAdd, Int.reduceSub, Int.reduceMul, Int.reduceNeg, Int.cast_ofNat_Int, *, encL, hmx, hmy, hjI, hw2, hw3, hd3, hml, gb] | ((with_reducible refine opK_c ?_); simp -dsimp only [go_sem, ↓reduceIte, reduceCtorEq, Nat.reduceAdd, Nat.reduceMul, Nat.reduceSub, Nat.reduceLeDiff, Nat.reduceLT, Nat.reduceEqDiff, Int.reduceLE, Int.reduceLT, Int.reduceToNat, Int.reduceBEq, Int.reduceBNe, Int.reduceEq, Int.reduceAdd, Int.reduceSub, Int.reduceMul, Int.reduceNeg, Int.cast_ofNat_Int, encL, hmx, hmy, hjI, hw2, hw3, hd3, hml, gb]; first | refine callK_r (by first | assumption | exact hcx) (by first | exact .inl rfl | exact .inr rfl) ?_ | refine callK_i (by assumption) (by repeat (first | exact DLe.refl _ | exact DLe.nil _ | (refine DLe.tup ?_) | (refine DLe.agg ?_ rfl) | exact trivial | (refine And.intro ?_ ?_))) (by first | exact .inl rfl | exact .inr rfl) ?_) | omega | exact decide_eq_true (by omega) | exact DLe.refl _)
        · rename_i hp
          obtain ⟨q1, q2⟩ := mix_t hx.out hp
          refine hC _ _ _ _ _ (by omega) ⟨j + 1, by omega, by omega, rfl, rfl, rfl⟩ ?_
          rw [q1, q2]
          exact weak_forget _ (by rw [gb]; exact Nat.le_refl _) rfl ⟨rfl, rfl, rfl, rfl, rfl, trivial⟩ (by rw [gb]; simp only [belowE, belowP, hlt, hbc, decide_true, Bool.and_self, Bool.and_true]) (by rw [gb]; exact belowH_setC _ _ _ _ hbh (by simp only [belowC, belowR_d]) hlt)
        · rename_i hp
          obtain ⟨q1, q2⟩ := mix_f hx.out hp
          refine hC _ _ _ _ _ (by omega) ⟨j + 1, by omega, by omega, rfl, rfl, rfl⟩ ?_
          rw [q1, q2]
          exact weak_forget _ (by rw [gb]; exact Nat.le_refl _) rfl ⟨rfl, rfl, rfl, rfl, rfl, trivial⟩ (by rw [gb]; simp only [belowE, belowP, hlt, hbc, decide_true, Bool.and_self, Bool.and_true]) (by rw [gb]; exact belowH_setC _ _ _ _ hbh (by simp only [belowC, belowR_d]) hlt)
      · obtain rfl : j = l.length := by omega
        have hm0 : mixL p l l.length ≠ [] := fun e => by rw [e] at hml; simp at hml; omega
        have hn1 : ¬ dRows ((mixL p l l.length).map encL) = [] := by simpa [dRows] using hm0
        have hl2 : ∀ z : List PV, (setAt (dRows ((mixL p l l.length).map encL)) (keptL p l l.length).length (List.replicate (l.length - (keptL p l l.length).length) z)).length = l.length := fun z => by
          rw [setAt_length (by simp [dRows_len, hml]; omega)]
          simp [dRows_len, hml]
        have hn2 : ∀ z : List PV, ¬ setAt (dRows ((mixL p l l.length).map encL)) (keptL p l l.length).length (List.replicate (l.length - (keptL p l l.length).length) z) = [] := fun z e => by
          have := hl2 z
          rw [e] at this; simp at this; omega
        repeat' (first | (with_reducible refine And.intro ?_ ?_) | (with_reducible refine gK_i (fun _ => ?_) (fun _ => ?_)) | (with_reducible refine condS_i (fun _ => ?_) (fun _ => ?_)) | (with_reducible refine drw_i (by kernel_rfl)) | simp -dsimp only [go_sem, ↓reduceIte, reduceCtorEq, Nat.reduceAdd, Nat.reduceMul, Nat.reduceSub, Nat.reduceLeDiff, Nat.reduceLT, Nat.reduceEqDiff, Int.reduceLE, Int.reduceLT, Int.reduceToNat, Int.reduceBEq, Int.reduceBNe, Int.reduceEq, Int.reduceAdd, Int.reduceSub, Int.reduceMul, Int.reduceNeg, Int.cast_ofNat_Int, *, encL, Int.lt_irrefl, hml, gb] | ((with_reducible refine opK_c ?_); simp -dsimp only [go_sem, ↓reduceIte, reduceCtorEq, Nat.reduceAdd, Nat.reduceMul, Nat.reduceSub, Nat.reduceLeDiff, Nat.reduceLT, Nat.reduceEqDiff, Int.reduceLE, Int.reduceLT, Int.reduceToNat, Int.reduceBEq, Int.reduceBNe, Int.reduceEq, Int.reduceAdd, Int.reduceSub, Int.reduceMul, Int.reduceNeg, Int.cast_ofNat_Int, encL, Int.lt_irrefl, hml, gb]; first | refine callK_r (by first | assumption | fail) (by first | exact .inl rfl | exact .inr rfl) ?_ | refine callK_i (by assumption) (by repeat (first | exact DLe.refl _ | exact DLe.nil _ | (refine DLe.tup ?_) | (refine DLe.agg ?_ rfl) | exact trivial | (refine And.intro ?_ ?_))) (by first | exact .inl rfl | exact .inr rfl) ?_) | omega | exact decide_eq_true (by omega) | exact DLe.refl _)
        have hfin := mixL_take p l
        rw [← hfin, List.map_take]
        exact delf_weak hlt (by simp [hml]; omega) (by simpa using hm0) (by simp [hml])
set_option maxHeartbeats 1000000 in
theorem delf_Pool (p : Pol → Bool) (l : List Pol) (k g fn : Nat) (caps : List PV) (h : List Chunk) (hk : hatL h k = .row 46 9 g (dRows (l.map encPol))) (hbc : belowL h.length caps = true) (hbh : belowH h.length h = true) (hl : l.length ≤ 1000000000)
    (h5 : ∃ ds, viewL (viewF (hatL h) 5) caps = some ds ∧ ∀ x ∈ l, PSpec Try.prog fn (.agg (encPol x) :: ds) (.v (.bool (p x))))
    (h6 : ∀ (m : List Pol) (b : Chunk), ∃ ds, viewL (vw (hatL (setC h k (.row 46 9 g (dRows (m.map encPol))) ++ [b]))) caps = some ds ∧ ∀ x ∈ l, PSpec Try.prog fn (.agg (encPol x) :: ds) (.v (.bool (p x)))) :
    MSpec Try.prog 69 [.own k g, .clo fn caps] h (.own k (g + 1)) (setC h k (.row 46 9 (g + 1) (dRows ((l.filter fun x => !p x).map encPol)))) := by
  have hlt : k < h.length := hatL_lt (by rw [hk]; simp)
  obtain ⟨ds, hd1, hd2⟩ := h5
  have hix := idxf_Pool encPol_len p l fn ds hl hd2
  have hle : h.length ≤ (setC h k (.row 46 9 (g + 1) (dRows ((l.filter fun x => !p x).map encPol)))).length := by rw [setC_lt hlt]; exact Nat.le_refl _
  have hba : belowL h.length [.own k g, .clo fn caps] = true := by simp only [belowL, belowP, hlt, hbc, decide_true, Bool.and_self]
  unfold idxI at hix
  cases hf : l.findIdx? p with
  | none =>
    rw [hf] at hix
    replace hf := Lib.hid hf
    refine ms_w tab_ok mixed Try.func69 rfl Try.ntmps69 Try.results69 (by kernel_rfl) hle hba hbh ?_
    repeat' (first | (with_reducible refine And.intro ?_ ?_) | (with_reducible refine gK_i (fun _ => ?_) (fun _ => ?_)) | (with_reducible refine condS_i (fun _ => ?_) (fun _ => ?_)) | (with_reducible refine drw_i (by kernel_rfl)) | simp -dsimp only [go_sem, ↓reduceIte, reduceCtorEq, Nat.reduceAdd, Nat.reduceMul, Nat.reduceSub, Nat.reduceLeDiff, Nat.reduceLT, Nat.reduceEqDiff, Int.reduceLE, Int.reduceLT, Int.reduceToNat, Int.reduceBEq, Int.reduceBNe, Int.reduceEq, Int.reduceAdd, Int.reduceSub, Int.reduceMul, Int.reduceNeg, Int.cast_ofNat_Int, *, hk, hd1] | ((with_reducible refine opK_c ?_); simp -dsimp only [go_sem, ↓reduceIte, reduceCtorEq, Nat.reduceAdd, Nat.reduceMul, Nat.reduceSub, Nat.reduceLeDiff, Nat.reduceLT, Nat.reduceEqDiff, Int.reduceLE, Int.reduceLT, Int.reduceToNat, Int.reduceBEq, Int.reduceBNe, Int.reduceEq, Int.reduceAdd, Int.reduceSub, Int.reduceMul, Int.reduceNeg, Int.cast_ofNat_Int, hk, hd1]; first | refine callK_r (by first | assumption | exact hix) (by first | exact .inl rfl | exact .inr rfl) ?_ | refine callK_i (by assumption) (by repeat (first | exact DLe.refl _ | exact DLe.nil _ | (refine DLe.tup ?_) | (refine DLe.agg ?_ rfl) | exact trivial | (refine And.intro ?_ ?_))) (by first | exact .inl rfl | exact .inr rfl) ?_) | omega | exact decide_eq_true (by omega) | exact DLe.refl _)
    have he : (l.filter fun x => !p x) = l := List.filter_eq_self.2 fun x hx => by
      have := List.findIdx?_eq_none_iff.1 hf.out x hx
      simp [this]
    rw [he]
    exact weak_ret_bump k g _ _ _ hk (weak_eq rfl rfl)
  | some i0 =>
    rw [hf] at hix
    have hst := mix_start hf
    replace hf := Lib.hid hf
    have hne1 : ((i0 : Int) == -1) = false := by rw [beq_eq_false_iff_ne]; omega
    have hw1 : IntKind.i64.wrap ((i0 : Int) + 1) = ((i0 + 1 : Nat) : Int) := by rw [IntKind.wrap_i64]; omega
    obtain ⟨ga, gb, gc, gd, ge, gf, gg, gi⟩ := hpOK hlt
    refine ms_w tab_ok mixed Try.func69 rfl Try.ntmps69 Try.results69 (by kernel_rfl) hle hba hbh ?_
    have hst := Lib.hid hst
    repeat' (first | (with_reducible refine And.intro ?_ ?_) | (with_reducible refine gK_i (fun _ => ?_) (fun _ => ?_)) | (with_reducible refine condS_i (fun _ => ?_) (fun _ => ?_)) | (with_reducible refine drw_i (by kernel_rfl)) | simp -dsimp only [go_sem, ↓reduceIte, reduceCtorEq, Nat.reduceAdd, Nat.reduceMul, Nat.reduceSub, Nat.reduceLeDiff, Nat.reduceLT, Nat.reduceEqDiff, Int.reduceLE, Int.reduceLT, Int.reduceToNat, Int.reduceBEq, Int.reduceBNe, Int.reduceEq, Int.reduceAdd, Int.reduceSub, Int.reduceMul, Int.reduceNeg, Int.cast_ofNat_Int, *, hk, hd1, hne1, hw1] | ((with_reducible refine opK_c ?_); simp -dsimp only [go_sem, ↓reduceIte, reduceCtorEq, Nat.reduceAdd, Nat.reduceMul, Nat.reduceSub, Nat.reduceLeDiff, Nat.reduceLT, Nat.reduceEqDiff, Int.reduceLE, Int.reduceLT, Int.reduceToNat, Int.reduceBEq, Int.reduceBNe, Int.reduceEq, Int.reduceAdd, Int.reduceSub, Int.reduceMul, Int.reduceNeg, Int.cast_ofNat_Int, hk, hd1, hne1, hw1]; first | refine callK_r (by first | assumption | exact hix) (by first | exact .inl rfl | exact .inr rfl) ?_ | refine callK_i (by assumption) (by repeat (first | exact DLe.refl _ | exact DLe.nil _ | (refine DLe.tup ?_) | (refine DLe.agg ?_ rfl) | exact trivial | (refine And.intro ?_ ?_))) (by first | exact .inl rfl | exact .inr rfl) ?_) | omega | exact decide_eq_true (by omega) | exact DLe.refl _)
    refine loopG tab_ok mixed (fun m e h' => ∃ j, j ≤ l.length ∧ i0 < j ∧ m = l.length - j ∧ e = [(6, .d (.v (.int .i64 j))), (5, .d (.v (.int .i64 (keptL p l j).length))), (4, .d (.v (.slice none 0 0))), (1, .clo fn caps), (0, .own k g)] ∧ h' = setC h k (.row 46 9 g (dRows ((mixL p l j).map encPol)))) (l.length - (i0 + 1)) _ _ ⟨i0 + 1, hst.out.1, by omega, rfl, rfl, rfl⟩ ?_ ?_
    · rw [hst.out.2.1, hst.out.2.2]
      refine weak_forget [] (by rw [gb]; exact Nat.le_refl _) (by rw [setC_same h k _ hk hlt, List.append_nil]) ⟨rfl, rfl, rfl, rfl, rfl, trivial⟩ (by rw [gb]; simp only [belowE, belowP, hlt, hbc, decide_true, Bool.and_self]) (by rw [gb]; exact belowH_setC _ _ _ _ hbh (by simp only [belowC, belowR_d]) hlt)
    · rintro m e h' ⟨j, hj, hij, rfl, rfl, rfl⟩ C hC
      have hkl := kept_le p l j
      have hml := mix_len p l j
      by_cases hjl : j < l.length
      · obtain ⟨x, hx⟩ : ∃ x, l[j]? = some x := ⟨_, List.getElem?_eq_getElem hjl⟩
        have hmx : (mixL p l j)[j]? = some x := by rw [mix_get p l j j hkl.1]; exact hx
        obtain ⟨y, hmy⟩ : ∃ y, (mixL p l j)[(keptL p l j).length]? = some y := ⟨_, List.getElem?_eq_getElem (by omega)⟩
        have hjI : (j : Int) < (l.length : Int) := by omega
        have hw2 : IntKind.i64.wrap ((j : Int) + 1) = ((j + 1 : Nat) : Int) := by rw [IntKind.wrap_i64]; omega
        have hw3 : IntKind.i64.wrap (((keptL p l j).length : Int) + 1) = (((keptL p l j).length + 1 : Nat) : Int) := by rw [IntKind.wrap_i64]; omega
        have hk2 : (keptL p l j).length < l.length := by omega
        obtain ⟨ds2, hd3, hd4⟩ := h6 (mixL p l j) (.box 46 ((encPol x).map .d))
        have hcx := hd4 x (List.mem_of_getElem? hx)
        have hx := Lib.hid hx
        have hrow := dRows_setrow encPol (mixL p l j) (keptL p l j).length x
        simp only [encPol, List.map_cons, List.map_nil] at hd3 hcx hrow
        repeat' (first | (with_reducible refine And.intro ?_ ?_) | (with_reducible refine gK_i (fun _ => ?_) (fun _ => ?_)) | (with_reducible refine condS_i (fun _ => ?_) (fun _ => ?_)) | (with_reducible refine drw_i (by kernel_rfl)) | simp -dsimp only [go_sem, ↓reduceIte, reduceCtorEq, Nat.reduceAdd, Nat.reduceMul, Nat.reduceSub, Nat.reduceLeDiff, Nat.reduceLT, Nat.reduceEqDiff, Int.reduceLE, Int.reduceLT, Int.reduceToNat, Int.reduceBEq, Int.reduceBNe, Int.reduceEq, Int.reduceAdd, Int.reduceSub, Int.reduceMul, Int.reduceNeg, Int.cast_ofNat_Int, *, encPol, hmx, hmy, hjI, hw2, hw3, hd3, hml, gb] | ((with_reducible refine opK_c ?_); simp -dsimp only [go_sem, ↓reduceIte, reduceCtorEq, Nat.reduceAdd, Nat.reduceMul, Nat.reduceSub, Nat.reduceLeDiff, Nat.reduceLT, Nat.reduceEqDiff, Int.reduceLE, Int.reduceLT, Int.reduceToNat, Int.reduceBEq, Int.reduceBNe, Int.reduceEq, Int.reduceAdd, Int.reduceSub, Int.reduceMul, Int.reduceNeg, Int.cast_ofNat_Int, encPol, hmx, hmy, hjI, hw2, hw3, hd3, hml, gb]; first | refine callK_r (by first | assumption | exact hcx) (by first | exact .inl rfl | exact .inr rfl) ?_ | refine callK_i (by assumption) (by repeat (first | exact DLe.refl _ | exact DLe.nil _ | (refine DLe.tup ?_) | (refine DLe.agg ?_ rfl) | exact trivial | (refine And.intro ?_ ?_))) (by first | exact .inl rfl | exact .inr rfl) ?_) | omega | exact decide_eq_true (by omega) | exact DLe.refl _)
        · rename_i hp
          obtain ⟨q1, q2⟩ := mix_t hx.out hp
          refine hC _ _ _ _ _ (by omega) ⟨j + 1, by omega, by omega, rfl, rfl, rfl⟩ ?_
          rw [q1, q2]
          exact weak_forget _ (by rw [gb]; exact Nat.le_refl _) rfl ⟨rfl, rfl, rfl, rfl, rfl, trivial⟩ (by rw [gb]; simp only [belowE, belowP, hlt, hbc, decide_true, Bool.and_self, Bool.and_true]) (by rw [gb]; exact belowH_setC _ _ _ _ hbh (by simp only [belowC, belowR_d]) hlt)
        · rename_i hp
          obtain ⟨q1, q2⟩ := mix_f hx.out hp
          refine hC _ _ _ _ _ (by omega) ⟨j + 1, by omega, by omega, rfl, rfl, rfl⟩ ?_
          rw [q1, q2]
          exact weak_forget _ (by rw [gb]; exact Nat.le_refl _) rfl ⟨rfl, rfl, rfl, rfl, rfl, trivial⟩ (by rw [gb]; simp only [belowE, belowP, hlt, hbc, decide_true, Bool.and_self, Bool.and_true]) (by rw [gb]; exact belowH_setC _ _ _ _ hbh (by simp only [belowC, belowR_d]) hlt)
      · obtain rfl : j = l.length := by omega
        have hm0 : mixL p l l.length ≠ [] := fun e => by rw [e] at hml; simp at hml; omega
        have hn1 : ¬ dRows ((mixL p l l.length).map encPol) = [] := by simpa [dRows] using hm0
        have hl2 : ∀ z : List PV, (setAt (dRows ((mixL p l l.length).map encPol)) (keptL p l l.length).length (List.replicate (l.length - (keptL p l l.length).length) z)).length = l.length := fun z => by
          rw [setAt_length (by simp [dRows_len, hml]; omega)]
          simp [dRows_len, hml]
        have hn2 : ∀ z : List PV, ¬ setAt (dRows ((mixL p l l.length).map encPol)) (keptL p l l.length).length (List.replicate (l.length - (keptL p l l.length).length) z) = [] := fun z e => by
          have := hl2 z
          rw [e] at this; simp at this; omega
        repeat' (first | (with_reducible refine And.intro ?_ ?_) | (with_reducible refine gK_i (fun _ => ?_) (fun _ => ?_)) | (with_reducible refine condS_i (fun _ => ?_) (fun _ => ?_)) | (with_reducible refine drw_i (by kernel_rfl)) | simp -dsimp only [go_sem, ↓reduceIte, reduceCtorEq, Nat.reduceAdd, Nat.reduceMul, Nat.reduceSub, Nat.reduceLeDiff, Nat.reduceLT, Nat.reduceEqDiff, Int.reduceLE, Int.reduceLT, Int.reduceToNat, Int.reduceBEq, Int.reduceBNe, Int.reduceEq, Int.reduceAdd, Int.reduceSub, Int.reduceMul, Int.reduceNeg, Int.cast_ofNat_Int, *, encPol, Int.lt_irrefl, hml, gb] | ((with_reducible refine opK_c ?_); simp -dsimp only [go_sem, ↓reduceIte, reduceCtorEq, Nat.reduceAdd, Nat.reduceMul, Nat.reduceSub, Nat.reduceLeDiff, Nat.reduceLT, Nat.reduceEqDiff, Int.reduceLE, Int.reduceLT, Int.reduceToNat, Int.reduceBEq, Int.reduceBNe, Int.reduceEq, Int.reduceAdd, Int.reduceSub, Int.reduceMul, Int.reduceNeg, Int.cast_ofNat_Int, encPol, Int.lt_irrefl, hml, gb]; first | refine callK_r (by first | assumption | fail) (by first | exact .inl rfl | exact .inr rfl) ?_ | refine callK_i (by assumption) (by repeat (first | exact DLe.refl _ | exact DLe.nil _ | (refine DLe.tup ?_) | (refine DLe.agg ?_ rfl) | exact trivial | (refine And.intro ?_ ?_))) (by first | exact .inl rfl | exact .inr rfl) ?_) | omega | exact decide_eq_true (by omega) | exact DLe.refl _)
        have hfin := mixL_take p l
        rw [← hfin, List.map_take]
        exact delf_weak hlt (by simp [hml]; omega) (by simpa using hm0) (by simp [hml])
end Go.Proofs.Ytbeocackphfijaa
namespace Go.Proofs.Ytbeocackphfijaa
open Go Go.RowKit
def poolOf (b : Bok) (id : Int) : Option Pol := b.pools.find? fun p => p.id == id
/-- The pools' numbers rise. -/
def Rise (l : List Pol) : Prop := l.Pairwise fun a b => a.id < b.id
theorem find_rise {α : Type} {key : α → Int} {t : Int} {l : List α} (hs : l.Pairwise fun a b => key a < key b) : (lbB key t l = true ∧ ∃ p, l[lbN key t l]? = some p ∧ l.find? (fun p => key p == t) = some p ∧ key p = t) ∨ (lbB key t l = false ∧ l.find? (fun p => key p == t) = none) := by
  have hlow : ∀ q (hq : q < l.length), q < lbN key t l → key l[q] < t := by
    intro q hq hlt
    have := List.not_of_lt_findIdx hlt
    simp at this; omega
  cases hx : l[lbN key t l]? with
  | none =>
    right
    have hb : lbB key t l = false := by unfold lbB; rw [hx]
    refine ⟨hb, ?_⟩
    rw [List.find?_eq_none]
    intro y hy
    obtain ⟨q, hq, rfl⟩ := List.mem_iff_getElem.1 hy
    have hlen : l.length ≤ lbN key t l := by
      rcases Nat.lt_or_ge (lbN key t l) l.length with h | h
      · rw [List.getElem?_eq_getElem h] at hx; cases hx
      · exact h
    have := hlow q hq (by omega)
    simp; omega
  | some p =>
    obtain ⟨hlt, hp⟩ := List.getElem?_eq_some_iff.1 hx
    have hge : t ≤ key p := by
      have := List.findIdx_getElem (xs := l) (p := fun x => decide (t ≤ key x)) (w := hlt)
      rw [show l[List.findIdx (fun x => decide (t ≤ key x)) l]'hlt = p from hp] at this
      simpa using this
    by_cases he : key p = t
    · left
      have hb : lbB key t l = true := by unfold lbB; rw [hx]; simpa using he
      refine ⟨hb, p, rfl, ?_, he⟩
      have hpl : p ∈ l := List.mem_of_getElem? hx
      cases hf : l.find? (fun p => key p == t) with
      | none => exact absurd he (by simpa using List.find?_eq_none.1 hf p hpl)
      | some q =>
        have hq1 : key q = t := by simpa using List.find?_some hf
        have hq2 := List.mem_of_find?_eq_some hf
        obtain ⟨i, hi, rfl⟩ := List.mem_iff_getElem.1 hq2
        rcases Nat.lt_trichotomy i (lbN key t l) with h | h | h
        · have := hlow i hi h; omega
        · subst h; rw [List.getElem?_eq_getElem hlt] at hx; rw [Option.some.inj hx]
        · have := List.pairwise_iff_getElem.1 hs _ i hlt hi h
          rw [hp] at this; omega
    · right
      have hb : lbB key t l = false := by unfold lbB; rw [hx]; simpa using he
      refine ⟨hb, ?_⟩
      rw [List.find?_eq_none]
      intro y hy
      obtain ⟨i, hi, rfl⟩ := List.mem_iff_getElem.1 hy
      rcases Nat.lt_trichotomy i (lbN key t l) with h | h | h
      · have := hlow i hi h; simp; omega
      · subst h; rw [hp]; simpa using he
      · have := List.pairwise_iff_getElem.1 hs _ i hlt hi h
        rw [hp] at this; simp; omega
theorem byId_p (p : Pol) (t : Int) : PSpec Try.prog 78 [.agg (encPol p), .v (.int .i64 t)] (.v (.int .i64 (cmpI p.id t))) := by
  refine ps_i tab_ok mixed Try.func78 rfl Try.ntmps78 Try.results78 (by kernel_rfl) ?_
  repeat' (first | (with_reducible refine And.intro ?_ ?_) | (with_reducible refine gK_i (fun _ => ?_) (fun _ => ?_)) | (with_reducible refine condS_i (fun _ => ?_) (fun _ => ?_)) | (with_reducible refine drw_i (by kernel_rfl)) | simp -dsimp only [go_sem, ↓reduceIte, reduceCtorEq, Nat.reduceAdd, Nat.reduceMul, Nat.reduceSub, Nat.reduceLeDiff, Nat.reduceLT, Nat.reduceEqDiff, Int.reduceLE, Int.reduceLT, Int.reduceToNat, Int.reduceBEq, Int.reduceBNe, Int.reduceEq, Int.reduceAdd, Int.reduceSub, Int.reduceMul, Int.reduceNeg, Int.cast_ofNat_Int, *, encPol] | ((with_reducible refine opK_c ?_); simp -dsimp only [go_sem, ↓reduceIte, reduceCtorEq, Nat.reduceAdd, Nat.reduceMul, Nat.reduceSub, Nat.reduceLeDiff, Nat.reduceLT, Nat.reduceEqDiff, Int.reduceLE, Int.reduceLT, Int.reduceToNat, Int.reduceBEq, Int.reduceBNe, Int.reduceEq, Int.reduceAdd, Int.reduceSub, Int.reduceMul, Int.reduceNeg, Int.cast_ofNat_Int, encPol]; first | refine callK_r (by first | assumption | exact compare_p p.id t) (by first | exact .inl rfl | exact .inr rfl) ?_ | (refine callK_i (by assumption) ?_ ?_ ?_; (solve | (repeat (first | exact DLe.refl _ | exact DLe.nil _ | (refine DLe.tup ?_) | (refine DLe.agg ?_ rfl) | exact trivial | (refine And.intro ?_ ?_)))); (solve | exact .inl rfl | exact .inr rfl))) | fail | omega | exact decide_eq_true (by omega) | exact DLe.refl _)
  all_goals exact DLe.refl _
def findR (b : Bok) (id : Int) : D := match poolOf b id with | some p => .tup [.ept (encPol p), .v (.bool true)] | none => .tup [.v (.pointer none), .v (.bool false)]
set_option maxHeartbeats 1000000 in
theorem find_p (b : Bok) (id : Int) (hb : b.pools.length ≤ 1000000000) (hs : Rise b.pools) : PSpec Try.prog 32 [.ept (encB b), .v (.int .i64 id)] (findR b id) := by
  have hbs := bsrf_Pool encPol_len (fun p => p.id) b.pools id 78 [] hb hs (fun p _ => byId_p p id)
  unfold findR poolOf
  rcases find_rise (t := id) hs with ⟨h1, p, h2, h3, -⟩ | ⟨h1, h2⟩
  · rw [h1] at hbs
    rw [h3]
    refine ps_i tab_ok mixed Try.func32 rfl Try.ntmps32 Try.results32 (by kernel_rfl) ?_
    repeat' (first | (with_reducible refine And.intro ?_ ?_) | (with_reducible refine gK_i (fun _ => ?_) (fun _ => ?_)) | (with_reducible refine condS_i (fun _ => ?_) (fun _ => ?_)) | (with_reducible refine drw_i (by kernel_rfl)) | simp -dsimp only [go_sem, ↓reduceIte, reduceCtorEq, Nat.reduceAdd, Nat.reduceMul, Nat.reduceSub, Nat.reduceLeDiff, Nat.reduceLT, Nat.reduceEqDiff, Int.reduceLE, Int.reduceLT, Int.reduceToNat, Int.reduceBEq, Int.reduceBNe, Int.reduceEq, Int.reduceAdd, Int.reduceSub, Int.reduceMul, Int.reduceNeg, Int.cast_ofNat_Int, *, encB, h2] | ((with_reducible refine opK_c ?_); simp -dsimp only [go_sem, ↓reduceIte, reduceCtorEq, Nat.reduceAdd, Nat.reduceMul, Nat.reduceSub, Nat.reduceLeDiff, Nat.reduceLT, Nat.reduceEqDiff, Int.reduceLE, Int.reduceLT, Int.reduceToNat, Int.reduceBEq, Int.reduceBNe, Int.reduceEq, Int.reduceAdd, Int.reduceSub, Int.reduceMul, Int.reduceNeg, Int.cast_ofNat_Int, encB, h2]; first | refine callK_r (by first | assumption | exact hbs) (by first | exact .inl rfl | exact .inr rfl) ?_ | (refine callK_i (by assumption) ?_ ?_ ?_; (solve | (repeat (first | exact DLe.refl _ | exact DLe.nil _ | (refine DLe.tup ?_) | (refine DLe.agg ?_ rfl) | exact trivial | (refine And.intro ?_ ?_)))); (solve | exact .inl rfl | exact .inr rfl))) | fail | omega | exact decide_eq_true (by omega) | exact DLe.refl _)
    all_goals exact DLe.refl _
  · rw [h1] at hbs
    rw [h2]
    refine ps_i tab_ok mixed Try.func32 rfl Try.ntmps32 Try.results32 (by kernel_rfl) ?_
    repeat' (first | (with_reducible refine And.intro ?_ ?_) | (with_reducible refine gK_i (fun _ => ?_) (fun _ => ?_)) | (with_reducible refine condS_i (fun _ => ?_) (fun _ => ?_)) | (with_reducible refine drw_i (by kernel_rfl)) | simp -dsimp only [go_sem, ↓reduceIte, reduceCtorEq, Nat.reduceAdd, Nat.reduceMul, Nat.reduceSub, Nat.reduceLeDiff, Nat.reduceLT, Nat.reduceEqDiff, Int.reduceLE, Int.reduceLT, Int.reduceToNat, Int.reduceBEq, Int.reduceBNe, Int.reduceEq, Int.reduceAdd, Int.reduceSub, Int.reduceMul, Int.reduceNeg, Int.cast_ofNat_Int, *, encB] | ((with_reducible refine opK_c ?_); simp -dsimp only [go_sem, ↓reduceIte, reduceCtorEq, Nat.reduceAdd, Nat.reduceMul, Nat.reduceSub, Nat.reduceLeDiff, Nat.reduceLT, Nat.reduceEqDiff, Int.reduceLE, Int.reduceLT, Int.reduceToNat, Int.reduceBEq, Int.reduceBNe, Int.reduceEq, Int.reduceAdd, Int.reduceSub, Int.reduceMul, Int.reduceNeg, Int.cast_ofNat_Int, encB]; first | refine callK_r (by first | assumption | exact hbs) (by first | exact .inl rfl | exact .inr rfl) ?_ | (refine callK_i (by assumption) ?_ ?_ ?_; (solve | (repeat (first | exact DLe.refl _ | exact DLe.nil _ | (refine DLe.tup ?_) | (refine DLe.agg ?_ rfl) | exact trivial | (refine And.intro ?_ ?_)))); (solve | exact .inl rfl | exact .inr rfl))) | fail | omega | exact decide_eq_true (by omega) | exact DLe.refl _)
    all_goals exact DLe.refl _
theorem eqP_list (p q : Pfx) : ([p.at_, p.len] == [q.at_, q.len]) = decide (p = q) := by
  rw [Bool.eq_iff_iff]
  cases p; cases q
  simp
/-- May a lease be one of a pool? -/
def leaseOK (b : Bok) (p : Pol) (l : Lse) : Bool :=
  if l.kind == 1 then idOK l.owner && (l.till == 0)
  else if l.kind == 2 then (match poolOf b l.owner with | some q => (q.up == p.id) && (decide (q.root = l.at_) && (l.till == 0)) | none => false)
  else if l.kind == 3 then (l.owner == 0) && (decide (l.till > b.tick) && decide (l.till ≤ b.tick + 1024)) else false
set_option maxHeartbeats 2000000 in
theorem lease_p (b : Bok) (p : Pol) (l : Lse) (hb : b.pools.length ≤ 1000000000) (hs : Rise b.pools) (ht : 0 ≤ b.tick ∧ b.tick ≤ 1073741824) : PSpec Try.prog 55 [.ept (encB b), .ept (encPol p), .agg (encL l)] (.v (.bool (leaseOK b p l))) := by
  unfold leaseOK
  cases h1 : l.kind == 1 with
  | true =>
    rw [if_pos rfl]
    cases h2 : idOK l.owner with
    | true =>
      have hi := ids_p l.owner
      rw [h2] at hi
      refine ps_i tab_ok mixed Try.func55 rfl Try.ntmps55 Try.results55 (by kernel_rfl) ?_
      repeat' (first | (with_reducible refine And.intro ?_ ?_) | (with_reducible refine gK_i (fun _ => ?_) (fun _ => ?_)) | (with_reducible refine condS_i (fun _ => ?_) (fun _ => ?_)) | (with_reducible refine drw_i (by kernel_rfl)) | simp -dsimp only [go_sem, ↓reduceIte, reduceCtorEq, Nat.reduceAdd, Nat.reduceMul, Nat.reduceSub, Nat.reduceLeDiff, Nat.reduceLT, Nat.reduceEqDiff, Int.reduceLE, Int.reduceLT, Int.reduceToNat, Int.reduceBEq, Int.reduceBNe, Int.reduceEq, Int.reduceAdd, Int.reduceSub, Int.reduceMul, Int.reduceNeg, Int.cast_ofNat_Int, *, encL, encB, encPol, h1] | ((with_reducible refine opK_c ?_); simp -dsimp only [go_sem, ↓reduceIte, reduceCtorEq, Nat.reduceAdd, Nat.reduceMul, Nat.reduceSub, Nat.reduceLeDiff, Nat.reduceLT, Nat.reduceEqDiff, Int.reduceLE, Int.reduceLT, Int.reduceToNat, Int.reduceBEq, Int.reduceBNe, Int.reduceEq, Int.reduceAdd, Int.reduceSub, Int.reduceMul, Int.reduceNeg, Int.cast_ofNat_Int, encL, encB, encPol, h1]; first | refine callK_r (by first | assumption | exact hi) (by first | exact .inl rfl | exact .inr rfl) ?_ | (refine callK_i (by assumption) ?_ ?_ ?_; (solve | (repeat (first | exact DLe.refl _ | exact DLe.nil _ | (refine DLe.tup ?_) | (refine DLe.agg ?_ rfl) | exact trivial | (refine And.intro ?_ ?_)))); (solve | exact .inl rfl | exact .inr rfl))) | fail | omega | exact decide_eq_true (by omega) | exact DLe.refl _)
      all_goals exact DLe.refl _
    | false =>
      have hi := ids_p l.owner
      rw [h2] at hi
      refine ps_i tab_ok mixed Try.func55 rfl Try.ntmps55 Try.results55 (by kernel_rfl) ?_
      repeat' (first | (with_reducible refine And.intro ?_ ?_) | (with_reducible refine gK_i (fun _ => ?_) (fun _ => ?_)) | (with_reducible refine condS_i (fun _ => ?_) (fun _ => ?_)) | (with_reducible refine drw_i (by kernel_rfl)) | simp -dsimp only [go_sem, ↓reduceIte, reduceCtorEq, Nat.reduceAdd, Nat.reduceMul, Nat.reduceSub, Nat.reduceLeDiff, Nat.reduceLT, Nat.reduceEqDiff, Int.reduceLE, Int.reduceLT, Int.reduceToNat, Int.reduceBEq, Int.reduceBNe, Int.reduceEq, Int.reduceAdd, Int.reduceSub, Int.reduceMul, Int.reduceNeg, Int.cast_ofNat_Int, *, encL, encB, encPol, h1] | ((with_reducible refine opK_c ?_); simp -dsimp only [go_sem, ↓reduceIte, reduceCtorEq, Nat.reduceAdd, Nat.reduceMul, Nat.reduceSub, Nat.reduceLeDiff, Nat.reduceLT, Nat.reduceEqDiff, Int.reduceLE, Int.reduceLT, Int.reduceToNat, Int.reduceBEq, Int.reduceBNe, Int.reduceEq, Int.reduceAdd, Int.reduceSub, Int.reduceMul, Int.reduceNeg, Int.cast_ofNat_Int, encL, encB, encPol, h1]; first | refine callK_r (by first | assumption | exact hi) (by first | exact .inl rfl | exact .inr rfl) ?_ | (refine callK_i (by assumption) ?_ ?_ ?_; (solve | (repeat (first | exact DLe.refl _ | exact DLe.nil _ | (refine DLe.tup ?_) | (refine DLe.agg ?_ rfl) | exact trivial | (refine And.intro ?_ ?_)))); (solve | exact .inl rfl | exact .inr rfl))) | fail | omega | exact decide_eq_true (by omega) | exact DLe.refl _)
      all_goals exact DLe.refl _
  | false =>
    rw [if_neg (by simp)]
    cases h2 : l.kind == 2 with
    | true =>
      rw [if_pos rfl]
      have hf := find_p b l.owner hb hs
      unfold findR at hf
      cases hq : poolOf b l.owner with
      | none =>
        rw [hq] at hf
        refine ps_i tab_ok mixed Try.func55 rfl Try.ntmps55 Try.results55 (by kernel_rfl) ?_
        repeat' (first | (with_reducible refine And.intro ?_ ?_) | (with_reducible refine gK_i (fun _ => ?_) (fun _ => ?_)) | (with_reducible refine condS_i (fun _ => ?_) (fun _ => ?_)) | (with_reducible refine drw_i (by kernel_rfl)) | simp -dsimp only [go_sem, ↓reduceIte, reduceCtorEq, Nat.reduceAdd, Nat.reduceMul, Nat.reduceSub, Nat.reduceLeDiff, Nat.reduceLT, Nat.reduceEqDiff, Int.reduceLE, Int.reduceLT, Int.reduceToNat, Int.reduceBEq, Int.reduceBNe, Int.reduceEq, Int.reduceAdd, Int.reduceSub, Int.reduceMul, Int.reduceNeg, Int.cast_ofNat_Int, *, encL, encB, encPol, h1, h2] | ((with_reducible refine opK_c ?_); simp -dsimp only [go_sem, ↓reduceIte, reduceCtorEq, Nat.reduceAdd, Nat.reduceMul, Nat.reduceSub, Nat.reduceLeDiff, Nat.reduceLT, Nat.reduceEqDiff, Int.reduceLE, Int.reduceLT, Int.reduceToNat, Int.reduceBEq, Int.reduceBNe, Int.reduceEq, Int.reduceAdd, Int.reduceSub, Int.reduceMul, Int.reduceNeg, Int.cast_ofNat_Int, encL, encB, encPol, h1, h2]; first | refine callK_r (by first | assumption | exact hf) (by first | exact .inl rfl | exact .inr rfl) ?_ | (refine callK_i (by assumption) ?_ ?_ ?_; (solve | (repeat (first | exact DLe.refl _ | exact DLe.nil _ | (refine DLe.tup ?_) | (refine DLe.agg ?_ rfl) | exact trivial | (refine And.intro ?_ ?_)))); (solve | exact .inl rfl | exact .inr rfl))) | fail | omega | exact decide_eq_true (by omega) | exact DLe.refl _)
        all_goals exact DLe.refl _
      | some q =>
        rw [hq] at hf
        have he := eqP_list q.root l.at_
        cases h3 : q.up == p.id <;> cases h4 : decide (q.root = l.at_) <;> rw [h4] at he
        all_goals
          refine ps_i tab_ok mixed Try.func55 rfl Try.ntmps55 Try.results55 (by kernel_rfl) ?_
          repeat' (first | (with_reducible refine And.intro ?_ ?_) | (with_reducible refine gK_i (fun _ => ?_) (fun _ => ?_)) | (with_reducible refine condS_i (fun _ => ?_) (fun _ => ?_)) | (with_reducible refine drw_i (by kernel_rfl)) | simp -dsimp only [go_sem, ↓reduceIte, reduceCtorEq, Nat.reduceAdd, Nat.reduceMul, Nat.reduceSub, Nat.reduceLeDiff, Nat.reduceLT, Nat.reduceEqDiff, Int.reduceLE, Int.reduceLT, Int.reduceToNat, Int.reduceBEq, Int.reduceBNe, Int.reduceEq, Int.reduceAdd, Int.reduceSub, Int.reduceMul, Int.reduceNeg, Int.cast_ofNat_Int, *, encL, encB, encPol, h1, h2, h3, he] | ((with_reducible refine opK_c ?_); simp -dsimp only [go_sem, ↓reduceIte, reduceCtorEq, Nat.reduceAdd, Nat.reduceMul, Nat.reduceSub, Nat.reduceLeDiff, Nat.reduceLT, Nat.reduceEqDiff, Int.reduceLE, Int.reduceLT, Int.reduceToNat, Int.reduceBEq, Int.reduceBNe, Int.reduceEq, Int.reduceAdd, Int.reduceSub, Int.reduceMul, Int.reduceNeg, Int.cast_ofNat_Int, encL, encB, encPol, h1, h2, h3, he]; first | refine callK_r (by first | assumption | exact hf) (by first | exact .inl rfl | exact .inr rfl) ?_ | (refine callK_i (by assumption) ?_ ?_ ?_; (solve | (repeat (first | exact DLe.refl _ | exact DLe.nil _ | (refine DLe.tup ?_) | (refine DLe.agg ?_ rfl) | exact trivial | (refine And.intro ?_ ?_)))); (solve | exact .inl rfl | exact .inr rfl))) | fail | omega | exact decide_eq_true (by omega) | exact DLe.refl _)
          all_goals simp only [h3, h4, Bool.true_and, Bool.false_and, Bool.and_false]
          all_goals exact DLe.refl _
    | false =>
      rw [if_neg (by simp)]
      have hw : IntKind.i64.wrap (b.tick + 1024) = b.tick + 1024 := by rw [IntKind.wrap_i64]; omega
      cases h3 : l.kind == 3 with
      | false =>
        rw [if_neg (by simp)]
        refine ps_i tab_ok mixed Try.func55 rfl Try.ntmps55 Try.results55 (by kernel_rfl) ?_
        repeat' (first | (with_reducible refine And.intro ?_ ?_) | (with_reducible refine gK_i (fun _ => ?_) (fun _ => ?_)) | (with_reducible refine condS_i (fun _ => ?_) (fun _ => ?_)) | (with_reducible refine drw_i (by kernel_rfl)) | simp -dsimp only [go_sem, ↓reduceIte, reduceCtorEq, Nat.reduceAdd, Nat.reduceMul, Nat.reduceSub, Nat.reduceLeDiff, Nat.reduceLT, Nat.reduceEqDiff, Int.reduceLE, Int.reduceLT, Int.reduceToNat, Int.reduceBEq, Int.reduceBNe, Int.reduceEq, Int.reduceAdd, Int.reduceSub, Int.reduceMul, Int.reduceNeg, Int.cast_ofNat_Int, *, encL, encB, encPol, h1, h2, h3] | ((with_reducible refine opK_c ?_); simp -dsimp only [go_sem, ↓reduceIte, reduceCtorEq, Nat.reduceAdd, Nat.reduceMul, Nat.reduceSub, Nat.reduceLeDiff, Nat.reduceLT, Nat.reduceEqDiff, Int.reduceLE, Int.reduceLT, Int.reduceToNat, Int.reduceBEq, Int.reduceBNe, Int.reduceEq, Int.reduceAdd, Int.reduceSub, Int.reduceMul, Int.reduceNeg, Int.cast_ofNat_Int, encL, encB, encPol, h1, h2, h3]; first | refine callK_r (by first | assumption | fail) (by first | exact .inl rfl | exact .inr rfl) ?_ | (refine callK_i (by assumption) ?_ ?_ ?_; (solve | (repeat (first | exact DLe.refl _ | exact DLe.nil _ | (refine DLe.tup ?_) | (refine DLe.agg ?_ rfl) | exact trivial | (refine And.intro ?_ ?_)))); (solve | exact .inl rfl | exact .inr rfl))) | fail | omega | exact decide_eq_true (by omega) | exact DLe.refl _)
        all_goals exact DLe.refl _
      | true =>
        rw [if_pos rfl]
        cases h4 : l.owner == 0 <;> cases h5 : decide (l.till > b.tick)
        all_goals
          refine ps_i tab_ok mixed Try.func55 rfl Try.ntmps55 Try.results55 (by kernel_rfl) ?_
          repeat' (first | (with_reducible refine And.intro ?_ ?_) | (with_reducible refine gK_i (fun _ => ?_) (fun _ => ?_)) | (with_reducible refine condS_i (fun _ => ?_) (fun _ => ?_)) | (with_reducible refine drw_i (by kernel_rfl)) | simp -dsimp only [go_sem, ↓reduceIte, reduceCtorEq, Nat.reduceAdd, Nat.reduceMul, Nat.reduceSub, Nat.reduceLeDiff, Nat.reduceLT, Nat.reduceEqDiff, Int.reduceLE, Int.reduceLT, Int.reduceToNat, Int.reduceBEq, Int.reduceBNe, Int.reduceEq, Int.reduceAdd, Int.reduceSub, Int.reduceMul, Int.reduceNeg, Int.cast_ofNat_Int, *, encL, encB, encPol, h1, h2, h3, h4, h5, hw] | ((with_reducible refine opK_c ?_); simp -dsimp only [go_sem, ↓reduceIte, reduceCtorEq, Nat.reduceAdd, Nat.reduceMul, Nat.reduceSub, Nat.reduceLeDiff, Nat.reduceLT, Nat.reduceEqDiff, Int.reduceLE, Int.reduceLT, Int.reduceToNat, Int.reduceBEq, Int.reduceBNe, Int.reduceEq, Int.reduceAdd, Int.reduceSub, Int.reduceMul, Int.reduceNeg, Int.cast_ofNat_Int, encL, encB, encPol, h1, h2, h3, h4, h5, hw]; first | refine callK_r (by first | assumption | fail) (by first | exact .inl rfl | exact .inr rfl) ?_ | (refine callK_i (by assumption) ?_ ?_ ?_; (solve | (repeat (first | exact DLe.refl _ | exact DLe.nil _ | (refine DLe.tup ?_) | (refine DLe.agg ?_ rfl) | exact trivial | (refine And.intro ?_ ?_)))); (solve | exact .inl rfl | exact .inr rfl))) | fail | omega | exact decide_eq_true (by omega) | exact DLe.refl _)
          all_goals exact DLe.refl _
/-- Is it the lease for a pool? -/
def forB (id : Int) (l : Lse) : Bool := (l.kind == 2) && (l.owner == id)
set_option maxHeartbeats 1000000 in
theorem above1_p (l : Lse) (p : Pol) : PSpec Try.prog 90 [.agg (encL l), .ept [.ept (encPol p)]] (.v (.bool (forB p.id l))) := by
  unfold forB
  cases h1 : l.kind == 2
  all_goals
    refine ps_i tab_ok mixed Try.func90 rfl Try.ntmps90 Try.results90 (by kernel_rfl) ?_
    repeat' (first | (with_reducible refine And.intro ?_ ?_) | (with_reducible refine gK_i (fun _ => ?_) (fun _ => ?_)) | (with_reducible refine condS_i (fun _ => ?_) (fun _ => ?_)) | (with_reducible refine drw_i (by kernel_rfl)) | simp -dsimp only [go_sem, ↓reduceIte, reduceCtorEq, Nat.reduceAdd, Nat.reduceMul, Nat.reduceSub, Nat.reduceLeDiff, Nat.reduceLT, Nat.reduceEqDiff, Int.reduceLE, Int.reduceLT, Int.reduceToNat, Int.reduceBEq, Int.reduceBNe, Int.reduceEq, Int.reduceAdd, Int.reduceSub, Int.reduceMul, Int.reduceNeg, Int.cast_ofNat_Int, *, encL, encPol, h1] | ((with_reducible refine opK_c ?_); simp -dsimp only [go_sem, ↓reduceIte, reduceCtorEq, Nat.reduceAdd, Nat.reduceMul, Nat.reduceSub, Nat.reduceLeDiff, Nat.reduceLT, Nat.reduceEqDiff, Int.reduceLE, Int.reduceLT, Int.reduceToNat, Int.reduceBEq, Int.reduceBNe, Int.reduceEq, Int.reduceAdd, Int.reduceSub, Int.reduceMul, Int.reduceNeg, Int.cast_ofNat_Int, encL, encPol, h1]; first | refine callK_r (by first | assumption | fail) (by first | exact .inl rfl | exact .inr rfl) ?_ | (refine callK_i (by assumption) ?_ ?_ ?_; (solve | (repeat (first | exact DLe.refl _ | exact DLe.nil _ | (refine DLe.tup ?_) | (refine DLe.agg ?_ rfl) | exact trivial | (refine And.intro ?_ ?_)))); (solve | exact .inl rfl | exact .inr rfl))) | fail | omega | exact decide_eq_true (by omega) | exact DLe.refl _)
    all_goals exact DLe.refl _
end Go.Proofs.Ytbeocackphfijaa
namespace Go.Proofs.Ytbeocackphfijaa
open Go Go.RowKit
/-- Has each pool above the lease for the one below, and comes an end within so many steps? -/
def upOK (b : Bok) : Nat → Pol → Bool
  | 0, p => p.up == 0
  | n + 1, p => (p.up == 0) || (match poolOf b p.up with | some q => q.leases.any (forB p.id) && upOK b n q | none => false)
theorem upOK_zero {b : Bok} {p : Pol} (n : Nat) (h : (p.up == 0) = true) : upOK b n p = true := by cases n <;> simp [upOK, h]
set_option maxRecDepth 100000 in
theorem above_p (b : Bok) (p : Pol) (hb : b.pools.length ≤ 8) (hs : Rise b.pools) (hl : ∀ q ∈ b.pools, q.leases.length ≤ 1000000000) : PSpec Try.prog 52 [.ept (encB b), .ept (encPol p)] (.v (.bool (upOK b b.pools.length p))) := by
  refine ps_i tab_ok mixed Try.func52 rfl Try.ntmps52 Try.results52 (by kernel_rfl) ?_
  repeat' (first | (with_reducible refine And.intro ?_ ?_) | (with_reducible refine gK_i (fun _ => ?_) (fun _ => ?_)) | (with_reducible refine condS_i (fun _ => ?_) (fun _ => ?_)) | (with_reducible refine drw_i (by kernel_rfl)) | simp -dsimp only [go_sem, ↓reduceIte, reduceCtorEq, Nat.reduceAdd, Nat.reduceMul, Nat.reduceSub, Nat.reduceLeDiff, Nat.reduceLT, Nat.reduceEqDiff, Int.reduceLE, Int.reduceLT, Int.reduceToNat, Int.reduceBEq, Int.reduceBNe, Int.reduceEq, Int.reduceAdd, Int.reduceSub, Int.reduceMul, Int.reduceNeg, Int.cast_ofNat_Int, *, encB] | ((with_reducible refine opK_c ?_); simp -dsimp only [go_sem, ↓reduceIte, reduceCtorEq, Nat.reduceAdd, Nat.reduceMul, Nat.reduceSub, Nat.reduceLeDiff, Nat.reduceLT, Nat.reduceEqDiff, Int.reduceLE, Int.reduceLT, Int.reduceToNat, Int.reduceBEq, Int.reduceBNe, Int.reduceEq, Int.reduceAdd, Int.reduceSub, Int.reduceMul, Int.reduceNeg, Int.cast_ofNat_Int, encB]; first | refine callK_r (by first | assumption | fail) (by first | exact .inl rfl | exact .inr rfl) ?_ | refine callK_i (by assumption) (by repeat (first | exact DLe.refl _ | exact DLe.nil _ | (refine DLe.tup ?_) | (refine DLe.agg ?_ rfl) | exact trivial | (refine And.intro ?_ ?_))) (by first | exact .inl rfl | exact .inr rfl) ?_) | omega | exact decide_eq_true (by omega) | exact DLe.refl _)
  refine loopG tab_ok mixed (fun m e h => ∃ (k : Nat) (q : Pol), k ≤ b.pools.length ∧ upOK b b.pools.length p = upOK b (b.pools.length - k) q ∧ m = b.pools.length - k ∧ e = [(12, .d (.v (.int .i64 k))), (11, .d (.v (.int .i64 b.pools.length))), (4, .d (.v (.bool false))), (3, .ptr 0 0), (0, .d (.ept (encB b)))] ∧
      h = [.box 57 [.d (.ept (encPol q))]]) _ _ _ ⟨0, p, Nat.zero_le _, rfl, rfl, rfl, rfl⟩ (weak_forget _ (by simp) (by (try simp only [encB]); rfl) (by (repeat' (first | exact trivial | (refine ⟨rfl, ?_⟩)))) (by first | rfl | simp only [belowH, belowE, belowC, belowL, belowR, belowP, belowL_d, belowR_d, List.length_cons, List.length_nil, Nat.reduceAdd, Nat.reduceLT, decide_true, Bool.and_self, Bool.and_true]) (by first | rfl | simp only [belowH, belowE, belowC, belowL, belowR, belowP, belowL_d, belowR_d, List.length_cons, List.length_nil, Nat.reduceAdd, Nat.reduceLT, decide_true, Bool.and_self, Bool.and_true])) ?_
  rintro m e h ⟨k, q, hk, hup, hm, rfl, rfl⟩ CL hCL
  by_cases hlt : k < b.pools.length
  · have hltI : (k : Int) < (b.pools.length : Int) := by omega
    have hwr : IntKind.i64.wrap ((k : Int) + 1) = ((k + 1 : Nat) : Int) := by rw [IntKind.wrap_i64]; omega
    obtain ⟨j, hj⟩ : ∃ j, b.pools.length - k = j + 1 := ⟨b.pools.length - k - 1, by omega⟩
    rw [hj] at hup
    replace hup := Lib.hid hup
    replace hj := Lib.hid hj
    replace hm := Lib.hid hm
    cases h0 : q.up == 0 with
    | true =>
      repeat' (first | (with_reducible refine And.intro ?_ ?_) | (with_reducible refine gK_i (fun _ => ?_) (fun _ => ?_)) | (with_reducible refine condS_i (fun _ => ?_) (fun _ => ?_)) | (with_reducible refine drw_i (by kernel_rfl)) | simp -dsimp only [go_sem, ↓reduceIte, reduceCtorEq, Nat.reduceAdd, Nat.reduceMul, Nat.reduceSub, Nat.reduceLeDiff, Nat.reduceLT, Nat.reduceEqDiff, Int.reduceLE, Int.reduceLT, Int.reduceToNat, Int.reduceBEq, Int.reduceBNe, Int.reduceEq, Int.reduceAdd, Int.reduceSub, Int.reduceMul, Int.reduceNeg, Int.cast_ofNat_Int, *, encB, encPol, hltI, h0] | ((with_reducible refine opK_c ?_); simp -dsimp only [go_sem, ↓reduceIte, reduceCtorEq, Nat.reduceAdd, Nat.reduceMul, Nat.reduceSub, Nat.reduceLeDiff, Nat.reduceLT, Nat.reduceEqDiff, Int.reduceLE, Int.reduceLT, Int.reduceToNat, Int.reduceBEq, Int.reduceBNe, Int.reduceEq, Int.reduceAdd, Int.reduceSub, Int.reduceMul, Int.reduceNeg, Int.cast_ofNat_Int, encB, encPol, hltI, h0]; first | refine callK_r (by first | assumption | fail) (by first | exact .inl rfl | exact .inr rfl) ?_ | refine callK_i (by assumption) (by repeat (first | exact DLe.refl _ | exact DLe.nil _ | (refine DLe.tup ?_) | (refine DLe.agg ?_ rfl) | exact trivial | (refine And.intro ?_ ?_))) (by first | exact .inl rfl | exact .inr rfl) ?_) | omega | exact decide_eq_true (by omega) | exact DLe.refl _)
      rw [hup.out, upOK_zero _ h0]; exact DLe.refl _
    | false =>
      have hf := find_p b q.up (by omega) hs
      unfold findR at hf
      cases hq : poolOf b q.up with
      | none =>
        rw [hq] at hf
        repeat' (first | (with_reducible refine And.intro ?_ ?_) | (with_reducible refine gK_i (fun _ => ?_) (fun _ => ?_)) | (with_reducible refine condS_i (fun _ => ?_) (fun _ => ?_)) | (with_reducible refine drw_i (by kernel_rfl)) | simp -dsimp only [go_sem, ↓reduceIte, reduceCtorEq, Nat.reduceAdd, Nat.reduceMul, Nat.reduceSub, Nat.reduceLeDiff, Nat.reduceLT, Nat.reduceEqDiff, Int.reduceLE, Int.reduceLT, Int.reduceToNat, Int.reduceBEq, Int.reduceBNe, Int.reduceEq, Int.reduceAdd, Int.reduceSub, Int.reduceMul, Int.reduceNeg, Int.cast_ofNat_Int, *, encB, encPol, hltI, h0] | ((with_reducible refine opK_c ?_); simp -dsimp only [go_sem, ↓reduceIte, reduceCtorEq, Nat.reduceAdd, Nat.reduceMul, Nat.reduceSub, Nat.reduceLeDiff, Nat.reduceLT, Nat.reduceEqDiff, Int.reduceLE, Int.reduceLT, Int.reduceToNat, Int.reduceBEq, Int.reduceBNe, Int.reduceEq, Int.reduceAdd, Int.reduceSub, Int.reduceMul, Int.reduceNeg, Int.cast_ofNat_Int, encB, encPol, hltI, h0]; first | refine callK_r (by first | assumption | exact hf) (by first | exact .inl rfl | exact .inr rfl) ?_ | refine callK_i (by assumption) (by repeat (first | exact DLe.refl _ | exact DLe.nil _ | (refine DLe.tup ?_) | (refine DLe.agg ?_ rfl) | exact trivial | (refine And.intro ?_ ?_))) (by first | exact .inl rfl | exact .inr rfl) ?_) | omega | exact decide_eq_true (by omega) | exact DLe.refl _)
        rw [hup.out]; simp only [upOK, h0, hq, Bool.false_or]; exact DLe.refl _
      | some r =>
        rw [hq] at hf
        have hr : r ∈ b.pools := List.mem_of_find?_eq_some hq
        have hcn := cntf_Lease encL_len (forB q.id) r.leases 90 [.ept [.ept (encPol q)]] (hl r hr) (fun x _ => above1_p x q)
        cases ha : r.leases.any (forB q.id) with
        | false =>
          rw [ha] at hcn
          repeat' (first | (with_reducible refine And.intro ?_ ?_) | (with_reducible refine gK_i (fun _ => ?_) (fun _ => ?_)) | (with_reducible refine condS_i (fun _ => ?_) (fun _ => ?_)) | (with_reducible refine drw_i (by kernel_rfl)) | simp -dsimp only [go_sem, ↓reduceIte, reduceCtorEq, Nat.reduceAdd, Nat.reduceMul, Nat.reduceSub, Nat.reduceLeDiff, Nat.reduceLT, Nat.reduceEqDiff, Int.reduceLE, Int.reduceLT, Int.reduceToNat, Int.reduceBEq, Int.reduceBNe, Int.reduceEq, Int.reduceAdd, Int.reduceSub, Int.reduceMul, Int.reduceNeg, Int.cast_ofNat_Int, *, encB, encPol, hltI, h0] | ((with_reducible refine opK_c ?_); simp -dsimp only [go_sem, ↓reduceIte, reduceCtorEq, Nat.reduceAdd, Nat.reduceMul, Nat.reduceSub, Nat.reduceLeDiff, Nat.reduceLT, Nat.reduceEqDiff, Int.reduceLE, Int.reduceLT, Int.reduceToNat, Int.reduceBEq, Int.reduceBNe, Int.reduceEq, Int.reduceAdd, Int.reduceSub, Int.reduceMul, Int.reduceNeg, Int.cast_ofNat_Int, encB, encPol, hltI, h0]; first | refine callK_r (by first | assumption | exact hf | exact hcn) (by first | exact .inl rfl | exact .inr rfl) ?_ | refine callK_i (by assumption) (by repeat (first | exact DLe.refl _ | exact DLe.nil _ | (refine DLe.tup ?_) | (refine DLe.agg ?_ rfl) | exact trivial | (refine And.intro ?_ ?_))) (by first | exact .inl rfl | exact .inr rfl) ?_) | omega | exact decide_eq_true (by omega) | exact DLe.refl _)
          rw [hup.out]; simp only [upOK, h0, hq, ha, Bool.false_or, Bool.false_and]; exact DLe.refl _
        | true =>
          rw [ha] at hcn
          repeat' (first | (with_reducible refine And.intro ?_ ?_) | (with_reducible refine gK_i (fun _ => ?_) (fun _ => ?_)) | (with_reducible refine condS_i (fun _ => ?_) (fun _ => ?_)) | (with_reducible refine drw_i (by kernel_rfl)) | simp -dsimp only [go_sem, ↓reduceIte, reduceCtorEq, Nat.reduceAdd, Nat.reduceMul, Nat.reduceSub, Nat.reduceLeDiff, Nat.reduceLT, Nat.reduceEqDiff, Int.reduceLE, Int.reduceLT, Int.reduceToNat, Int.reduceBEq, Int.reduceBNe, Int.reduceEq, Int.reduceAdd, Int.reduceSub, Int.reduceMul, Int.reduceNeg, Int.cast_ofNat_Int, *, encB, encPol, hltI, hwr, h0] | ((with_reducible refine opK_c ?_); simp -dsimp only [go_sem, ↓reduceIte, reduceCtorEq, Nat.reduceAdd, Nat.reduceMul, Nat.reduceSub, Nat.reduceLeDiff, Nat.reduceLT, Nat.reduceEqDiff, Int.reduceLE, Int.reduceLT, Int.reduceToNat, Int.reduceBEq, Int.reduceBNe, Int.reduceEq, Int.reduceAdd, Int.reduceSub, Int.reduceMul, Int.reduceNeg, Int.cast_ofNat_Int, encB, encPol, hltI, hwr, h0]; first | refine callK_r (by first | assumption | exact hf | exact hcn) (by first | exact .inl rfl | exact .inr rfl) ?_ | refine callK_i (by assumption) (by repeat (first | exact DLe.refl _ | exact DLe.nil _ | (refine DLe.tup ?_) | (refine DLe.agg ?_ rfl) | exact trivial | (refine And.intro ?_ ?_))) (by first | exact .inl rfl | exact .inr rfl) ?_) | omega | exact decide_eq_true (by omega) | exact DLe.refl _)
          refine hCL _ _ _ _ _ ?_ ⟨k + 1, r, hlt, ?_, rfl, rfl, rfl⟩ (weak_forget _ (by simp) (by (try simp only [encB]); rfl) (by (repeat' (first | exact trivial | (refine ⟨rfl, ?_⟩)))) (by first | rfl | simp only [belowH, belowE, belowC, belowL, belowR, belowP, belowL_d, belowR_d, List.length_cons, List.length_nil, Nat.reduceAdd, Nat.reduceLT, decide_true, Bool.and_self, Bool.and_true]) (by first | rfl | simp only [belowH, belowE, belowC, belowL, belowR, belowP, belowL_d, belowR_d, List.length_cons, List.length_nil, Nat.reduceAdd, Nat.reduceLT, decide_true, Bool.and_self, Bool.and_true]))
          · have := hm.out; omega
          · rw [hup.out]; simp only [upOK, h0, hq, ha, Bool.false_or, Bool.true_and]
            congr 1; have := hj.out; omega
  · obtain rfl : k = b.pools.length := by omega
    rw [Nat.sub_self] at hup
    replace hup := Lib.hid hup
    repeat' (first | (with_reducible refine And.intro ?_ ?_) | (with_reducible refine gK_i (fun _ => ?_) (fun _ => ?_)) | (with_reducible refine condS_i (fun _ => ?_) (fun _ => ?_)) | (with_reducible refine drw_i (by kernel_rfl)) | simp -dsimp only [go_sem, ↓reduceIte, reduceCtorEq, Nat.reduceAdd, Nat.reduceMul, Nat.reduceSub, Nat.reduceLeDiff, Nat.reduceLT, Nat.reduceEqDiff, Int.reduceLE, Int.reduceLT, Int.reduceToNat, Int.reduceBEq, Int.reduceBNe, Int.reduceEq, Int.reduceAdd, Int.reduceSub, Int.reduceMul, Int.reduceNeg, Int.cast_ofNat_Int, *, encB, encPol, Int.lt_irrefl] | ((with_reducible refine opK_c ?_); simp -dsimp only [go_sem, ↓reduceIte, reduceCtorEq, Nat.reduceAdd, Nat.reduceMul, Nat.reduceSub, Nat.reduceLeDiff, Nat.reduceLT, Nat.reduceEqDiff, Int.reduceLE, Int.reduceLT, Int.reduceToNat, Int.reduceBEq, Int.reduceBNe, Int.reduceEq, Int.reduceAdd, Int.reduceSub, Int.reduceMul, Int.reduceNeg, Int.cast_ofNat_Int, encB, encPol, Int.lt_irrefl]; first | refine callK_r (by first | assumption | fail) (by first | exact .inl rfl | exact .inr rfl) ?_ | refine callK_i (by assumption) (by repeat (first | exact DLe.refl _ | exact DLe.nil _ | (refine DLe.tup ?_) | (refine DLe.agg ?_ rfl) | exact trivial | (refine And.intro ?_ ?_))) (by first | exact .inl rfl | exact .inr rfl) ?_) | omega | exact decide_eq_true (by omega) | exact DLe.refl _)
    rw [hup.out]; exact DLe.refl _
theorem check1_p (b : Bok) (p : Pol) (l : Lse) (hb : b.pools.length ≤ 1000000000) (hs : Rise b.pools) (ht : 0 ≤ b.tick ∧ b.tick ≤ 1073741824) : PSpec Try.prog 54 [.agg (encL l), .ept (encB b), .ept [.ept (encPol p)]] (.v (.bool (!leaseOK b p l))) := by
  have hl := lease_p b p l hb hs ht
  refine ps_i tab_ok mixed Try.func54 rfl Try.ntmps54 Try.results54 (by kernel_rfl) ?_
  repeat' (first | (with_reducible refine And.intro ?_ ?_) | (with_reducible refine gK_i (fun _ => ?_) (fun _ => ?_)) | (with_reducible refine condS_i (fun _ => ?_) (fun _ => ?_)) | (with_reducible refine drw_i (by kernel_rfl)) | simp -dsimp only [go_sem, ↓reduceIte, reduceCtorEq, Nat.reduceAdd, Nat.reduceMul, Nat.reduceSub, Nat.reduceLeDiff, Nat.reduceLT, Nat.reduceEqDiff, Int.reduceLE, Int.reduceLT, Int.reduceToNat, Int.reduceBEq, Int.reduceBNe, Int.reduceEq, Int.reduceAdd, Int.reduceSub, Int.reduceMul, Int.reduceNeg, Int.cast_ofNat_Int, *, encL] | ((with_reducible refine opK_c ?_); simp -dsimp only [go_sem, ↓reduceIte, reduceCtorEq, Nat.reduceAdd, Nat.reduceMul, Nat.reduceSub, Nat.reduceLeDiff, Nat.reduceLT, Nat.reduceEqDiff, Int.reduceLE, Int.reduceLT, Int.reduceToNat, Int.reduceBEq, Int.reduceBNe, Int.reduceEq, Int.reduceAdd, Int.reduceSub, Int.reduceMul, Int.reduceNeg, Int.cast_ofNat_Int, encL]; first | refine callK_r (by first | assumption | exact hl) (by first | exact .inl rfl | exact .inr rfl) ?_ | refine callK_i (by assumption) (by repeat (first | exact DLe.refl _ | exact DLe.nil _ | (refine DLe.tup ?_) | (refine DLe.agg ?_ rfl) | exact trivial | (refine And.intro ?_ ?_))) (by first | exact .inl rfl | exact .inr rfl) ?_) | omega | exact decide_eq_true (by omega) | exact DLe.refl _)
theorem check2_p (p : Pol) (q : Pfx) : PSpec Try.prog 57 [.agg (encP q), .ept [.ept (encPol p)]] (.v (.bool (p.root.meets q))) := by
  have hm := meets_p p.root q
  refine ps_i tab_ok mixed Try.func57 rfl Try.ntmps57 Try.results57 (by kernel_rfl) ?_
  repeat' (first | (with_reducible refine And.intro ?_ ?_) | (with_reducible refine gK_i (fun _ => ?_) (fun _ => ?_)) | (with_reducible refine condS_i (fun _ => ?_) (fun _ => ?_)) | (with_reducible refine drw_i (by kernel_rfl)) | simp -dsimp only [go_sem, ↓reduceIte, reduceCtorEq, Nat.reduceAdd, Nat.reduceMul, Nat.reduceSub, Nat.reduceLeDiff, Nat.reduceLT, Nat.reduceEqDiff, Int.reduceLE, Int.reduceLT, Int.reduceToNat, Int.reduceBEq, Int.reduceBNe, Int.reduceEq, Int.reduceAdd, Int.reduceSub, Int.reduceMul, Int.reduceNeg, Int.cast_ofNat_Int, *, encP, encPol] | ((with_reducible refine opK_c ?_); simp -dsimp only [go_sem, ↓reduceIte, reduceCtorEq, Nat.reduceAdd, Nat.reduceMul, Nat.reduceSub, Nat.reduceLeDiff, Nat.reduceLT, Nat.reduceEqDiff, Int.reduceLE, Int.reduceLT, Int.reduceToNat, Int.reduceBEq, Int.reduceBNe, Int.reduceEq, Int.reduceAdd, Int.reduceSub, Int.reduceMul, Int.reduceNeg, Int.cast_ofNat_Int, encP, encPol]; first | refine callK_r (by first | assumption | exact hm) (by first | exact .inl rfl | exact .inr rfl) ?_ | refine callK_i (by assumption) (by repeat (first | exact DLe.refl _ | exact DLe.nil _ | (refine DLe.tup ?_) | (refine DLe.agg ?_ rfl) | exact trivial | (refine And.intro ?_ ?_))) (by first | exact .inl rfl | exact .inr rfl) ?_) | omega | exact decide_eq_true (by omega) | exact DLe.refl _)
def firstOK : Int → List Pol → Bool
  | _, [] => true
  | last, p :: l => (idOK p.id && (decide (last < p.id) && ((chkS p.root (usedP p) == 0) && ruleOK p.rule p.root.len))) && firstOK p.id l
def secondOK (b : Bok) : List Pol → List Pfx → Bool
  | [], _ => true
  | p :: l, roots => (upOK b b.pools.length p && p.leases.all (leaseOK b p)) && (if p.up == 0 then !(roots.any p.root.meets) && secondOK b l (roots ++ [p.root]) else secondOK b l roots)
/-- Check of a book. -/
def chkBk (b : Bok) : Int := if b.pools.length > 8 then 2 else if b.tick < 0 ∨ b.tick > 1073741824 then 1 else if firstOK 0 b.pools && secondOK b b.pools [] then 0 else 1
theorem firstOK_rise : ∀ (l : List Pol) (last : Int), firstOK last l = true → Rise l ∧ ∀ p ∈ l, last < p.id
  | [], _, _ => ⟨List.Pairwise.nil, fun p h => by simp at h⟩
  | p :: l, last, h => by
    simp only [firstOK, Bool.and_eq_true, decide_eq_true_eq] at h
    obtain ⟨h1, h2⟩ := firstOK_rise l p.id h.2
    refine ⟨List.pairwise_cons.2 ⟨fun q hq => h2 q hq, h1⟩, fun q hq => ?_⟩
    rcases List.mem_cons.1 hq with rfl | hq
    · exact h.1.2.1
    · have := h2 q hq; have := h.1.2.1; omega
theorem firstOK_mem : ∀ (l : List Pol) (last : Int), firstOK last l = true → ∀ p ∈ l, idOK p.id = true ∧ chkS p.root (usedP p) = 0 ∧ ruleOK p.rule p.root.len = true
  | p :: l, last, h, q, hq => by
    simp only [firstOK, Bool.and_eq_true, decide_eq_true_eq, beq_iff_eq] at h
    rcases List.mem_cons.1 hq with rfl | hq
    · exact ⟨h.1.1, h.1.2.2.1, h.1.2.2.2⟩
    · exact firstOK_mem l p.id h.2 q hq
theorem drop_get {α : Type} {l : List α} {k : Nat} {x : α} (h : l[k]? = some x) : l.drop k = x :: l.drop (k + 1) := by
  obtain ⟨hk, rfl⟩ := List.getElem?_eq_some_iff.1 h
  exact List.drop_eq_getElem_cons hk
set_option maxRecDepth 100000 in
set_option maxHeartbeats 1000000 in
theorem bkCheck_p (b : Bok) (hz : ∀ p ∈ b.pools, p.leases.length ≤ 3518437208882) : PSpec Try.prog 14 [.agg (encB b)] (.v (.int .i64 (chkBk b))) := by
  by_cases h8 : b.pools.length > 8
  · have h8I : decide ((b.pools.length : Int) > 8) = true := by simp; omega
    have hr : chkBk b = 2 := by simp [chkBk, h8]
    rw [hr]
    refine ps_i tab_ok mixed Try.func14 rfl Try.ntmps14 Try.results14 (by kernel_rfl) ?_
    repeat' (first | (with_reducible refine And.intro ?_ ?_) | (with_reducible refine gK_i (fun _ => ?_) (fun _ => ?_)) | (with_reducible refine condS_i (fun _ => ?_) (fun _ => ?_)) | (with_reducible refine drw_i (by kernel_rfl)) | simp -dsimp only [go_sem, ↓reduceIte, reduceCtorEq, Nat.reduceAdd, Nat.reduceMul, Nat.reduceSub, Nat.reduceLeDiff, Nat.reduceLT, Nat.reduceEqDiff, Int.reduceLE, Int.reduceLT, Int.reduceToNat, Int.reduceBEq, Int.reduceBNe, Int.reduceEq, Int.reduceAdd, Int.reduceSub, Int.reduceMul, Int.reduceNeg, Int.cast_ofNat_Int, *, encB, h8I] | ((with_reducible refine opK_c ?_); simp -dsimp only [go_sem, ↓reduceIte, reduceCtorEq, Nat.reduceAdd, Nat.reduceMul, Nat.reduceSub, Nat.reduceLeDiff, Nat.reduceLT, Nat.reduceEqDiff, Int.reduceLE, Int.reduceLT, Int.reduceToNat, Int.reduceBEq, Int.reduceBNe, Int.reduceEq, Int.reduceAdd, Int.reduceSub, Int.reduceMul, Int.reduceNeg, Int.cast_ofNat_Int, encB, h8I]; first | refine callK_r (by first | assumption | fail) (by first | exact .inl rfl | exact .inr rfl) ?_ | refine callK_i (by assumption) (by repeat (first | exact DLe.refl _ | exact DLe.nil _ | (refine DLe.tup ?_) | (refine DLe.agg ?_ rfl) | exact trivial | (refine And.intro ?_ ?_))) (by first | exact .inl rfl | exact .inr rfl) ?_) | omega | exact decide_eq_true (by omega) | exact DLe.refl _)
  · have h8I : decide ((b.pools.length : Int) > 8) = false := by simp; omega
    by_cases htk : b.tick < 0 ∨ b.tick > 1073741824
    · have hr : chkBk b = 1 := by simp [chkBk, h8, htk]
      rw [hr]
      rcases htk with h | h
      · have h1 : decide (b.tick < 0) = true := by simpa using h
        refine ps_i tab_ok mixed Try.func14 rfl Try.ntmps14 Try.results14 (by kernel_rfl) ?_
        repeat' (first | (with_reducible refine And.intro ?_ ?_) | (with_reducible refine gK_i (fun _ => ?_) (fun _ => ?_)) | (with_reducible refine condS_i (fun _ => ?_) (fun _ => ?_)) | (with_reducible refine drw_i (by kernel_rfl)) | simp -dsimp only [go_sem, ↓reduceIte, reduceCtorEq, Nat.reduceAdd, Nat.reduceMul, Nat.reduceSub, Nat.reduceLeDiff, Nat.reduceLT, Nat.reduceEqDiff, Int.reduceLE, Int.reduceLT, Int.reduceToNat, Int.reduceBEq, Int.reduceBNe, Int.reduceEq, Int.reduceAdd, Int.reduceSub, Int.reduceMul, Int.reduceNeg, Int.cast_ofNat_Int, *, encB, h8I, h1] | ((with_reducible refine opK_c ?_); simp -dsimp only [go_sem, ↓reduceIte, reduceCtorEq, Nat.reduceAdd, Nat.reduceMul, Nat.reduceSub, Nat.reduceLeDiff, Nat.reduceLT, Nat.reduceEqDiff, Int.reduceLE, Int.reduceLT, Int.reduceToNat, Int.reduceBEq, Int.reduceBNe, Int.reduceEq, Int.reduceAdd, Int.reduceSub, Int.reduceMul, Int.reduceNeg, Int.cast_ofNat_Int, encB, h8I, h1]; first | refine callK_r (by first | assumption | fail) (by first | exact .inl rfl | exact .inr rfl) ?_ | refine callK_i (by assumption) (by repeat (first | exact DLe.refl _ | exact DLe.nil _ | (refine DLe.tup ?_) | (refine DLe.agg ?_ rfl) | exact trivial | (refine And.intro ?_ ?_))) (by first | exact .inl rfl | exact .inr rfl) ?_) | omega | exact decide_eq_true (by omega) | exact DLe.refl _)
      · have h1 : decide (b.tick < 0) = false := by simp; omega
        have h2 : decide (b.tick > 1073741824) = true := by simpa using h
        refine ps_i tab_ok mixed Try.func14 rfl Try.ntmps14 Try.results14 (by kernel_rfl) ?_
        repeat' (first | (with_reducible refine And.intro ?_ ?_) | (with_reducible refine gK_i (fun _ => ?_) (fun _ => ?_)) | (with_reducible refine condS_i (fun _ => ?_) (fun _ => ?_)) | (with_reducible refine drw_i (by kernel_rfl)) | simp -dsimp only [go_sem, ↓reduceIte, reduceCtorEq, Nat.reduceAdd, Nat.reduceMul, Nat.reduceSub, Nat.reduceLeDiff, Nat.reduceLT, Nat.reduceEqDiff, Int.reduceLE, Int.reduceLT, Int.reduceToNat, Int.reduceBEq, Int.reduceBNe, Int.reduceEq, Int.reduceAdd, Int.reduceSub, Int.reduceMul, Int.reduceNeg, Int.cast_ofNat_Int, *, encB, h8I, h1, h2] | ((with_reducible refine opK_c ?_); simp -dsimp only [go_sem, ↓reduceIte, reduceCtorEq, Nat.reduceAdd, Nat.reduceMul, Nat.reduceSub, Nat.reduceLeDiff, Nat.reduceLT, Nat.reduceEqDiff, Int.reduceLE, Int.reduceLT, Int.reduceToNat, Int.reduceBEq, Int.reduceBNe, Int.reduceEq, Int.reduceAdd, Int.reduceSub, Int.reduceMul, Int.reduceNeg, Int.cast_ofNat_Int, encB, h8I, h1, h2]; first | refine callK_r (by first | assumption | fail) (by first | exact .inl rfl | exact .inr rfl) ?_ | refine callK_i (by assumption) (by repeat (first | exact DLe.refl _ | exact DLe.nil _ | (refine DLe.tup ?_) | (refine DLe.agg ?_ rfl) | exact trivial | (refine And.intro ?_ ?_))) (by first | exact .inl rfl | exact .inr rfl) ?_) | omega | exact decide_eq_true (by omega) | exact DLe.refl _)
    · have h1 : decide (b.tick < 0) = false := by simp; omega
      have h2 : decide (b.tick > 1073741824) = false := by simp; omega
      have ht : 0 ≤ b.tick ∧ b.tick ≤ 1073741824 := by omega
      have hr : chkBk b = if firstOK 0 b.pools && secondOK b b.pools [] then 0 else 1 := by simp only [chkBk, h8, htk, if_false]
      rw [hr]
      replace hr := Lib.hid hr
      replace ht := Lib.hid ht
      refine ps_i tab_ok mixed Try.func14 rfl Try.ntmps14 Try.results14 (by kernel_rfl) ?_
      repeat' (first | (with_reducible refine And.intro ?_ ?_) | (with_reducible refine gK_i (fun _ => ?_) (fun _ => ?_)) | (with_reducible refine condS_i (fun _ => ?_) (fun _ => ?_)) | (with_reducible refine drw_i (by kernel_rfl)) | simp -dsimp only [go_sem, ↓reduceIte, reduceCtorEq, Nat.reduceAdd, Nat.reduceMul, Nat.reduceSub, Nat.reduceLeDiff, Nat.reduceLT, Nat.reduceEqDiff, Int.reduceLE, Int.reduceLT, Int.reduceToNat, Int.reduceBEq, Int.reduceBNe, Int.reduceEq, Int.reduceAdd, Int.reduceSub, Int.reduceMul, Int.reduceNeg, Int.cast_ofNat_Int, *, encB, h8I, h1, h2] | ((with_reducible refine opK_c ?_); simp -dsimp only [go_sem, ↓reduceIte, reduceCtorEq, Nat.reduceAdd, Nat.reduceMul, Nat.reduceSub, Nat.reduceLeDiff, Nat.reduceLT, Nat.reduceEqDiff, Int.reduceLE, Int.reduceLT, Int.reduceToNat, Int.reduceBEq, Int.reduceBNe, Int.reduceEq, Int.reduceAdd, Int.reduceSub, Int.reduceMul, Int.reduceNeg, Int.cast_ofNat_Int, encB, h8I, h1, h2]; first | refine callK_r (by first | assumption | fail) (by first | exact .inl rfl | exact .inr rfl) ?_ | refine callK_i (by assumption) (by repeat (first | exact DLe.refl _ | exact DLe.nil _ | (refine DLe.tup ?_) | (refine DLe.agg ?_ rfl) | exact trivial | (refine And.intro ?_ ?_))) (by first | exact .inl rfl | exact .inr rfl) ?_) | omega | exact decide_eq_true (by omega) | exact DLe.refl _)
      refine loopG tab_ok mixed (fun m e h => ∃ (k : Nat) (last : Int), k ≤ b.pools.length ∧ firstOK 0 b.pools = firstOK last (b.pools.drop k) ∧ m = b.pools.length - k ∧ e = [(24, .d (.v (.int .i64 k))), (23, .d (.v (.int .i64 b.pools.length))), (3, .d (.v (.int .i64 last))), (2, .d (.v (.int .i64 0))), (1, .ptr 0 0)] ∧
        h = [.box 24 ((encB b).map .d)]) _ _ _ ⟨0, 0, Nat.zero_le _, rfl, rfl, rfl, rfl⟩ (weak_forget _ (by simp) (by (try simp only [encB]); rfl) (by (repeat' (first | exact trivial | (refine ⟨rfl, ?_⟩)))) (by first | rfl | simp only [belowH, belowE, belowC, belowL, belowR, belowP, belowL_d, belowR_d, List.length_cons, List.length_nil, Nat.reduceAdd, Nat.reduceLT, decide_true, Bool.and_self, Bool.and_true]) (by first | rfl | simp only [belowH, belowE, belowC, belowL, belowR, belowP, belowL_d, belowR_d, List.length_cons, List.length_nil, Nat.reduceAdd, Nat.reduceLT, decide_true, Bool.and_self, Bool.and_true])) ?_
      rintro m e h ⟨k, last, hk, hup, hm, rfl, rfl⟩ C hC
      by_cases hlt : k < b.pools.length
      · have hltI : (k : Int) < (b.pools.length : Int) := by omega
        have hwr : IntKind.i64.wrap ((k : Int) + 1) = ((k + 1 : Nat) : Int) := by rw [IntKind.wrap_i64]; omega
        obtain ⟨p, hp⟩ : ∃ p, b.pools[k]? = some p := ⟨_, List.getElem?_eq_getElem hlt⟩
        have hpm : p ∈ b.pools := List.mem_of_getElem? hp
        rw [drop_get hp] at hup
        simp only [firstOK] at hup
        have hi := ids_p p.id
        have htk := taken_p p (hz p hpm)
        have hsc := spCheck_p p.root (usedP p)
        have hru := rule_p p.rule p.root
        replace hup := Lib.hid hup
        replace hm := Lib.hid hm
        repeat' (first | (with_reducible refine And.intro ?_ ?_) | (with_reducible refine gK_i (fun _ => ?_) (fun _ => ?_)) | (with_reducible refine condS_i (fun _ => ?_) (fun _ => ?_)) | (with_reducible refine drw_i (by kernel_rfl)) | simp -dsimp only [go_sem, ↓reduceIte, reduceCtorEq, Nat.reduceAdd, Nat.reduceMul, Nat.reduceSub, Nat.reduceLeDiff, Nat.reduceLT, Nat.reduceEqDiff, Int.reduceLE, Int.reduceLT, Int.reduceToNat, Int.reduceBEq, Int.reduceBNe, Int.reduceEq, Int.reduceAdd, Int.reduceSub, Int.reduceMul, Int.reduceNeg, Int.cast_ofNat_Int, *, encB, encPol, hltI, hwr, hp] | ((with_reducible refine opK_c ?_); simp -dsimp only [go_sem, ↓reduceIte, reduceCtorEq, Nat.reduceAdd, Nat.reduceMul, Nat.reduceSub, Nat.reduceLeDiff, Nat.reduceLT, Nat.reduceEqDiff, Int.reduceLE, Int.reduceLT, Int.reduceToNat, Int.reduceBEq, Int.reduceBNe, Int.reduceEq, Int.reduceAdd, Int.reduceSub, Int.reduceMul, Int.reduceNeg, Int.cast_ofNat_Int, encB, encPol, hltI, hwr, hp]; first | refine callK_r (by first | assumption | exact hi | exact htk | exact hsc | exact hru) (by first | exact .inl rfl | exact .inr rfl) ?_ | refine callK_i (by assumption) (by repeat (first | exact DLe.refl _ | exact DLe.nil _ | (refine DLe.tup ?_) | (refine DLe.agg ?_ rfl) | exact trivial | (refine And.intro ?_ ?_))) (by first | exact .inl rfl | exact .inr rfl) ?_) | omega | exact decide_eq_true (by omega) | exact DLe.refl _)
        case' pos.refine_1.refine_2.refine_2.refine_2.refine_1 =>
          rename_i q1 q2 q3 q4
          refine hC _ _ _ _ _ ?_ ⟨k + 1, p.id, hlt, ?_, rfl, rfl, rfl⟩ (weak_forget _ (by simp) (by (try simp only [encB]); rfl) (by (repeat' (first | exact trivial | (refine ⟨rfl, ?_⟩)))) (by first | rfl | simp only [belowH, belowE, belowC, belowL, belowR, belowP, belowL_d, belowR_d, List.length_cons, List.length_nil, Nat.reduceAdd, Nat.reduceLT, decide_true, Bool.and_self, Bool.and_true]) (by first | rfl | simp only [belowH, belowE, belowC, belowL, belowR, belowP, belowL_d, belowR_d, List.length_cons, List.length_nil, Nat.reduceAdd, Nat.reduceLT, decide_true, Bool.and_self, Bool.and_true]))
          · have := hm.out; omega
          · rw [hup.out]
            have e1 : decide (last < p.id) = true := by simpa using q2
            have e2 : (chkS p.root (usedP p) == 0) = true := by simpa using q3
            rw [q1, e1, e2, q4]; rfl
        all_goals
          have hf : firstOK 0 b.pools = false := by
            rw [hup.out]
            clear hC hi htk hsc hru hz hup hm hr ht
            grind
          rw [hf]; exact DLe.refl _
      · obtain rfl : k = b.pools.length := by omega
        rw [List.drop_length] at hup
        have hf : firstOK 0 b.pools = true := by rw [hup]; rfl
        obtain ⟨hrise, -⟩ := firstOK_rise _ _ hf
        have hmem := firstOK_mem _ _ hf
        have hl32 : ∀ p ∈ b.pools, p.leases.length ≤ 32 := fun p hp => by
          have := (hmem p hp).2.1
          unfold chkS at this
          split at this
          · cases this
          · rename_i h; simpa [usedP] using h
        rw [hf]
        replace hf := Lib.hid hf
        replace hup := Lib.hid hup
        replace hm := Lib.hid hm
        replace hmem := Lib.hid hmem
        repeat' (first | (with_reducible refine And.intro ?_ ?_) | (with_reducible refine gK_i (fun _ => ?_) (fun _ => ?_)) | (with_reducible refine condS_i (fun _ => ?_) (fun _ => ?_)) | (with_reducible refine drw_i (by kernel_rfl)) | simp -dsimp only [go_sem, ↓reduceIte, reduceCtorEq, Nat.reduceAdd, Nat.reduceMul, Nat.reduceSub, Nat.reduceLeDiff, Nat.reduceLT, Nat.reduceEqDiff, Int.reduceLE, Int.reduceLT, Int.reduceToNat, Int.reduceBEq, Int.reduceBNe, Int.reduceEq, Int.reduceAdd, Int.reduceSub, Int.reduceMul, Int.reduceNeg, Int.cast_ofNat_Int, *, encB, Int.lt_irrefl] | ((with_reducible refine opK_c ?_); simp -dsimp only [go_sem, ↓reduceIte, reduceCtorEq, Nat.reduceAdd, Nat.reduceMul, Nat.reduceSub, Nat.reduceLeDiff, Nat.reduceLT, Nat.reduceEqDiff, Int.reduceLE, Int.reduceLT, Int.reduceToNat, Int.reduceBEq, Int.reduceBNe, Int.reduceEq, Int.reduceAdd, Int.reduceSub, Int.reduceMul, Int.reduceNeg, Int.cast_ofNat_Int, encB, Int.lt_irrefl]; first | refine callK_r (by first | assumption | fail) (by first | exact .inl rfl | exact .inr rfl) ?_ | refine callK_i (by assumption) (by repeat (first | exact DLe.refl _ | exact DLe.nil _ | (refine DLe.tup ?_) | (refine DLe.agg ?_ rfl) | exact trivial | (refine And.intro ?_ ?_))) (by first | exact .inl rfl | exact .inr rfl) ?_) | omega | exact decide_eq_true (by omega) | exact DLe.refl _)
        refine loopG tab_ok mixed (fun m e h => ∃ (k g : Nat) (roots : List Pfx), k ≤ b.pools.length ∧ secondOK b b.pools [] = secondOK b (b.pools.drop k) roots ∧ roots.length ≤ k ∧ m = b.pools.length - k ∧ e = [(71, .d (.v (.int .i64 k))), (70, .d (.v (.int .i64 b.pools.length))), (6, .own 1 g), (2, .d (.v (.int .i64 0))), (1, .ptr 0 0)] ∧
          h = [.box 24 ((encB b).map .d), .row 26 2 g (dRows (roots.map encP))]) _ _ _ ⟨0, 0, [], Nat.zero_le _, rfl, Nat.zero_le _, rfl, rfl, rfl⟩ ((weak_adopt (Nat.zero_le _) 6 26 2 rfl).trans (weak_forget _ (by simp) (by (try simp only [encB]); rfl) (by (repeat' (first | exact trivial | (refine ⟨rfl, ?_⟩)))) (by first | rfl | simp only [belowH, belowE, belowC, belowL, belowR, belowP, belowL_d, belowR_d, List.length_cons, List.length_nil, Nat.reduceAdd, Nat.reduceLT, decide_true, Bool.and_self, Bool.and_true]) (by first | rfl | simp only [belowH, belowE, belowC, belowL, belowR, belowP, belowL_d, belowR_d, List.length_cons, List.length_nil, Nat.reduceAdd, Nat.reduceLT, decide_true, Bool.and_self, Bool.and_true]))) ?_
        rintro m e h ⟨k, g, roots, hk, hup2, hrl, hm, rfl, rfl⟩ C hC
        by_cases hlt : k < b.pools.length
        · have hltI : (k : Int) < (b.pools.length : Int) := by omega
          have hwr : IntKind.i64.wrap ((k : Int) + 1) = ((k + 1 : Nat) : Int) := by rw [IntKind.wrap_i64]; omega
          obtain ⟨p, hp⟩ : ∃ p, b.pools[k]? = some p := ⟨_, List.getElem?_eq_getElem hlt⟩
          have hpm : p ∈ b.pools := List.mem_of_getElem? hp
          rw [drop_get hp] at hup2
          simp only [secondOK] at hup2
          have hab := above_p b p (by omega) hrise (fun q hq => by have := hl32 q hq; omega)
          have hcl := cntf_Lease encL_len (fun l => !leaseOK b p l) p.leases 54 [.ept (encB b), .ept [.ept (encPol p)]] (by have := hl32 p hpm; omega) (fun l _ => check1_p b p l (by omega) hrise ht.out)
          have hcp := cntf_Prefix encP_len p.root.meets roots 57 [.ept [.ept (encPol p)]] (by omega) (fun q _ => check2_p p q)
          have hbnd : (roots.length + 1) * 16 ≤ 140737488355328 := by omega
          replace hup2 := Lib.hid hup2
          replace hm := Lib.hid hm
          have hall : p.leases.all (leaseOK b p) = !(p.leases.any fun l => !leaseOK b p l) := by simp [List.all_eq_not_any_not]
          replace hall := Lib.hid hall
          repeat' (first | (with_reducible refine And.intro ?_ ?_) | (with_reducible refine gK_i (fun _ => ?_) (fun _ => ?_)) | (with_reducible refine condS_i (fun _ => ?_) (fun _ => ?_)) | (with_reducible refine drw_i (by kernel_rfl)) | simp -dsimp only [go_sem, ↓reduceIte, reduceCtorEq, Nat.reduceAdd, Nat.reduceMul, Nat.reduceSub, Nat.reduceLeDiff, Nat.reduceLT, Nat.reduceEqDiff, Int.reduceLE, Int.reduceLT, Int.reduceToNat, Int.reduceBEq, Int.reduceBNe, Int.reduceEq, Int.reduceAdd, Int.reduceSub, Int.reduceMul, Int.reduceNeg, Int.cast_ofNat_Int, *, encB, encPol, hltI, hwr, hp] | ((with_reducible refine opK_c ?_); simp -dsimp only [go_sem, ↓reduceIte, reduceCtorEq, Nat.reduceAdd, Nat.reduceMul, Nat.reduceSub, Nat.reduceLeDiff, Nat.reduceLT, Nat.reduceEqDiff, Int.reduceLE, Int.reduceLT, Int.reduceToNat, Int.reduceBEq, Int.reduceBNe, Int.reduceEq, Int.reduceAdd, Int.reduceSub, Int.reduceMul, Int.reduceNeg, Int.cast_ofNat_Int, encB, encPol, hltI, hwr, hp]; first | refine callK_r (by first | assumption | exact hab | exact hcl | exact hcp) (by first | exact .inl rfl | exact .inr rfl) ?_ | refine callK_i (by assumption) (by repeat (first | exact DLe.refl _ | exact DLe.nil _ | (refine DLe.tup ?_) | (refine DLe.agg ?_ rfl) | exact trivial | (refine And.intro ?_ ?_))) (by first | exact .inl rfl | exact .inr rfl) ?_) | omega | exact decide_eq_true (by omega) | exact DLe.refl _)
          case' pos.refine_1.refine_2.refine_1.refine_2 =>
            rename_i q1 q2 q3 q4
            refine hC _ _ _ _ _ ?_ ⟨k + 1, g + 1, roots ++ [p.root], hlt, ?_, by simp; omega, rfl, rfl, rfl⟩ (weak_forget _ (by simp) (by simp only [encB, List.map_append, List.map_cons, List.map_nil, encP]; rfl) (by (repeat' (first | exact trivial | (refine ⟨rfl, ?_⟩)))) (by first | rfl | simp only [belowH, belowE, belowC, belowL, belowR, belowP, belowL_d, belowR_d, List.length_cons, List.length_nil, Nat.reduceAdd, Nat.reduceLT, decide_true, Bool.and_self, Bool.and_true]) (by first | rfl | simp only [belowH, belowE, belowC, belowL, belowR, belowP, belowL_d, belowR_d, List.length_cons, List.length_nil, Nat.reduceAdd, Nat.reduceLT, decide_true, Bool.and_self, Bool.and_true]))
            · have := hm.out; omega
            · rw [hup2.out, q1, hall.out, q2, if_pos q3, q4]; rfl
          case' pos.refine_1.refine_2.refine_2 =>
            rename_i q1 q2 q3
            refine hC _ _ _ _ _ ?_ ⟨k + 1, g, roots, hlt, ?_, by omega, rfl, rfl, rfl⟩ (weak_forget _ (by simp) (by (try simp only [encB]); rfl) (by (repeat' (first | exact trivial | (refine ⟨rfl, ?_⟩)))) (by first | rfl | simp only [belowH, belowE, belowC, belowL, belowR, belowP, belowL_d, belowR_d, List.length_cons, List.length_nil, Nat.reduceAdd, Nat.reduceLT, decide_true, Bool.and_self, Bool.and_true]) (by first | rfl | simp only [belowH, belowE, belowC, belowL, belowR, belowP, belowL_d, belowR_d, List.length_cons, List.length_nil, Nat.reduceAdd, Nat.reduceLT, decide_true, Bool.and_self, Bool.and_true]))
            · have := hm.out; omega
            · rw [hup2.out, q1, hall.out, q2, if_neg (by rw [q3]; simp)]; rfl
          all_goals
            have hf2 : secondOK b b.pools [] = false := by
              rw [hup2.out, hall.out]
              clear hC hab hcl hcp hz hup2 hm hr ht hall
              grind
            rw [hf2]; exact DLe.refl _
        · obtain rfl : k = b.pools.length := by omega
          rw [List.drop_length] at hup2
          replace hup2 := Lib.hid hup2
          repeat' (first | (with_reducible refine And.intro ?_ ?_) | (with_reducible refine gK_i (fun _ => ?_) (fun _ => ?_)) | (with_reducible refine condS_i (fun _ => ?_) (fun _ => ?_)) | (with_reducible refine drw_i (by kernel_rfl)) | simp -dsimp only [go_sem, ↓reduceIte, reduceCtorEq, Nat.reduceAdd, Nat.reduceMul, Nat.reduceSub, Nat.reduceLeDiff, Nat.reduceLT, Nat.reduceEqDiff, Int.reduceLE, Int.reduceLT, Int.reduceToNat, Int.reduceBEq, Int.reduceBNe, Int.reduceEq, Int.reduceAdd, Int.reduceSub, Int.reduceMul, Int.reduceNeg, Int.cast_ofNat_Int, *, encB, Int.lt_irrefl] | ((with_reducible refine opK_c ?_); simp -dsimp only [go_sem, ↓reduceIte, reduceCtorEq, Nat.reduceAdd, Nat.reduceMul, Nat.reduceSub, Nat.reduceLeDiff, Nat.reduceLT, Nat.reduceEqDiff, Int.reduceLE, Int.reduceLT, Int.reduceToNat, Int.reduceBEq, Int.reduceBNe, Int.reduceEq, Int.reduceAdd, Int.reduceSub, Int.reduceMul, Int.reduceNeg, Int.cast_ofNat_Int, encB, Int.lt_irrefl]; first | refine callK_r (by first | assumption | fail) (by first | exact .inl rfl | exact .inr rfl) ?_ | refine callK_i (by assumption) (by repeat (first | exact DLe.refl _ | exact DLe.nil _ | (refine DLe.tup ?_) | (refine DLe.agg ?_ rfl) | exact trivial | (refine And.intro ?_ ?_))) (by first | exact .inl rfl | exact .inr rfl) ?_) | omega | exact decide_eq_true (by omega) | exact DLe.refl _)
          rw [hup2.out]; exact DLe.refl _
end Go.Proofs.Ytbeocackphfijaa
namespace Go.Proofs.Ytbeocackphfijaa
open Go Go.RowKit Go.Proofs
theorem run_copy_own {P : Program} {w : World} {dT sT e : TypeId} {ie : TypeInfo} {sz g o dl dc sl sc : Nat} {a : Addr} {cur : Array Value} {E : TypeId} (ys : List Value)
    (ht : P.underlying dT = some (.slice e)) (hi : P.info? e = some ie) (hsz : ie.size = sz) (hn : ys.length = Nat.min sl dl * sz) (hsrc : ∀ j u, ys[j]? = some u → w.cell? (a.add j) = some u) (h1 : ∀ u ∈ ys, u.oneCell' = true)
    (hh : w.heap[g]? = some (.cells cur E (0, 0))) (ho : o + ys.length ≤ cur.size) (ty : TypeId) :
    (Builtin.copy_ #[dT, sT] ty #[.slice (some ⟨g, o, none⟩) dl dc, .slice (some a) sl sc]).run P w = .ok (goInt (Nat.min sl dl)) (w.setRow g (setAt cur.toList o ys).toArray) := by
  have hfc := run_firstCells_some (P := P) w sz (Nat.min sl dl) a sl sc ys hn hsrc
  have hst := run_storeCells_at P g o E ys 0 cur w hh (by simp; omega) h1
  have hst2 : (storeCells ⟨g, o, none⟩ ys).run P w = .ok () (w.setRow g (setAt cur.toList o ys).toArray) := by
    rw [hst]
    simp [setAt]
  simp [Builtin.copy_, run_underlying ht, Builtin.lenOf, sizeOf, typeInfo, hi, hsz, hfc, hst2]
theorem wpList_copy_r {P : Program} (w : World) {ops : Array Oper} {rest : List Oper} {o : Oper} {a : Act} {Q : Exit → Act → World → Prop} (hgd : o.guard = none) (d s : Operand) (t t' : TypeId)
    (ho : o.op = .call { callee := .builtin .copy, args := #[d, s], argTypes := #[t, t'] }) (v u : Value) (hd : a.eval d = v) (hs : a.eval s = u) {v' : Value} {w' : World}
    (hr : (Builtin.copy_ #[t, t'] o.type #[v, u]).run P w = .ok v' w') (h : wpList P ops Q rest (a.put o.dst v') w') : wpList P ops Q (o :: rest) a w :=
  wpList_plain hgd fun _ hK => by
    unfold Oper.wp
    simp only [execOp, ho, resolve, invoke, builtin, Sem.run_bind, Sem.run_pure, Result.andThen_ok, List.map_toArray, List.map_cons, List.map_nil, hd, hs, hr]
    exact hK _ _ h
theorem step_copy_r {P : Program} {ops : Array Oper} {o : Oper} {a : Act} {w : World} {K : Act → World → Prop} {Q : Exit → Act → World → Prop} {E : Prop} (hg : o.guard = none) (d x : Operand) (dT sT : TypeId)
    (hop : o.op = Op.call { callee := Callee.builtin Builtin.copy, args := #[d, x], argTypes := #[dT, sT] }) (v u : Value) (hd : a.eval d = v) (hx : a.eval x = u) {v' : Value} {w' : World}
    (hr : (Builtin.copy_ #[dT, sT] o.type #[v, u]).run P w = .ok v' w') (hK : K (a.put o.dst v') w') : if Region.wanted o (yielded ops a.tmps) = true then Oper.wp P o a w K Q else E := by
  have hw : Region.wanted o (yielded ops a.tmps) = true := by simp [Region.wanted, hg]
  rw [if_pos hw]
  unfold Oper.wp
  simp only [execOp, hop, resolve, invoke, builtin, Sem.run_bind, Sem.run_pure, Result.andThen_ok, List.map_toArray, List.map_cons, List.map_nil, hd, hx, hr]
  exact hK
theorem wpList_appz_r {P : Program} (w : World) {ops : Array Oper} {rest : List Oper} {o : Oper} {a : Act} {Q : Exit → Act → World → Prop} (hgd : o.guard = none) (d s : Operand) (t t' : TypeId)
    (ho : o.op = .call { callee := .builtin .append, args := #[d, s], argTypes := #[t, t'] }) (v u : Value) (hd : a.eval d = v) (hs : a.eval s = u) {v' : Value} {w' : World}
    (hr : (Builtin.append_ #[t, t'] o.type #[v, u]).run P w = .ok v' w') (h : wpList P ops Q rest (a.put o.dst v') w') : wpList P ops Q (o :: rest) a w :=
  wpList_plain hgd fun _ hK => by
    unfold Oper.wp
    simp only [execOp, ho, resolve, invoke, builtin, Sem.run_bind, Sem.run_pure, Result.andThen_ok, List.map_toArray, List.map_cons, List.map_nil, hd, hs, hr]
    exact hK _ _ h
theorem run_overlaps_own {P : Program} (w : World) (tS tR e : TypeId) (ht : P.underlying tS = some (.slice e)) (size : Nat) (hz : ∀ w, (Go.sizeOf e).run P w = .ok size w) (a b : Addr) (la ca lb cb : Nat) (hne : a.block ≠ b.block) (sA : TypeId × Nat) (hsa : w.shape? a.block = some sA) (hA0 : sA.2 ≠ 0)
    (cur : Array Value) (E : TypeId) (hb : w.heap[b.block]? = some (.cells cur E (0, 0))) (hc : cur.size ≠ 0) :
    (Extern.SlicesOverlaps.overlaps #[tS, tS] #[tR] #[.slice (some a) la ca, .slice (some b) lb cb]).run P w = .ok (.bool false) w := by
  have hnb : (a.block != b.block) = true := by simpa using hne
  have hnb' : (a.block == b.block) = false := by simpa using hne
  have hsb : w.shape? b.block = some (E, cur.size) := by simp [World.shape?, hb]
  have hfb : ∀ o, w.frozen? ⟨b.block, o, none⟩ = false := fun o => by simp [World.frozen?, hb]
  have hfb' : w.frozen? b = false := by simp [World.frozen?, hb]
  obtain ⟨k, hk⟩ : ∃ k, cur.size = k + 1 := ⟨cur.size - 1, by omega⟩
  rw [hk] at hsb
  change Sem.run P (α := Value) (do
    let some t := (#[tS, tS] : Array TypeId)[0]? | stuck "slices.overlaps: no parameter types"
    let .slice elem ← underlying t | stuck "slices.overlaps: slice type expected"
    let size ← sizeOf elem
    match (some a : Option Addr), (some b : Option Addr) with
    | some a, some b =>
      if la = 0 ∨ lb = 0 ∨ size = 0 then pure (Value.bool false)
      else if a.block != b.block && (← frozen a) && (← frozen b) then unsupported .addressObserved
      else do
        if a.block != b.block then do
          noView a; noView b
          if ← mayBeOne a b then return Value.bool ((← choose (.extern "sameAddr.stringBytes" 2)) == 1)
        pure (Value.bool (a.block == b.block && a.off < b.off + lb * size && b.off < a.off + la * size))
    | _, _ => pure (Value.bool false)) w = _
  by_cases h0 : la = 0 ∨ lb = 0 ∨ size = 0
  · simp [run_underlying ht, hz, h0]
  · obtain ⟨tA, nA⟩ := sA
    obtain ⟨q, rfl⟩ : ∃ q, nA = q + 1 := ⟨nA - 1, by simp at hA0; omega⟩
    cases hfa : w.frozen? a <;> cases hfa2 : w.frozen? ⟨a.block, q + 1, none⟩ <;>
      simp [run_underlying ht, hz, h0, hnb, hnb', frozen, noView, viewAt, mayBeOne, stringish, shape, Sem.run, hsa, hsb, hfa, hfa2, hfb, hfb']
def InsNew (w : World) (E g sz n : Nat) (zs : List Value) (e : Ending) (w' : World) : Prop :=
  ∃ (G : Nat) (R : List Value), n + 1 ≤ G ∧ G ≤ 9223372036854775807 ∧ R.length = G * sz ∧ R.take ((n + 1) * sz) = zs ∧ e = .returned (.slice (some ⟨w.heap.size, 0, none⟩) (n + 1) G) ∧ OneB w w' (some g) ∧ w'.heap[w.heap.size]? = some (.cells R.toArray E (0, 0))
theorem cell_row {w : World} {g : Nat} {cur : Array Value} {E : TypeId} (hh : w.heap[g]? = some (.cells cur E (0, 0))) (o : Nat) : w.cell? ⟨g, o, none⟩ = cur[o]? := by
  simp [World.cell?, hh]
def InsAny (w : World) (E sz g n : Nat) (zs : List Value) (e : Ending) (w' : World) : Prop :=
  ∃ v', e = .returned v' ∧ OwnV w' E sz v' n zs ∧ OneB w w' (some g) ∧ (ownB v' = some g ∨ ∀ b, ownB v' = some b → w.heap.size ≤ b)
theorem cells_shape {w : World} {b o : Nat} {u : Value} (h : w.cell? ⟨b, o, none⟩ = some u) : ∃ sA, w.shape? b = some sA ∧ sA.2 ≠ 0 := by
  cases hb : w.heap[b]? with
  | none => simp [World.cell?, hb] at h
  | some ob =>
    cases ob with
    | cells c e f =>
      have h' : c[o]? = some u := by simpa [World.cell?, hb] using h
      have := (Array.getElem?_eq_some_iff.1 h').1
      exact ⟨(e, c.size), by simp [World.shape?, hb], by simp only; omega⟩
    | _ => simp [World.cell?, hb] at h
/-- What is proved on values of an insertion of one row, with chunks. -/
theorem ms_ins {P : Program} {f E sz g i : Nat} {rows : List (List D)} {x : List D} (hfn : FnOK P f) (hs0 : 0 < sz) (hi : i < rows.length)
    (raw : ∀ (w : World) (gb cap vb vo vc : Nat) (cur : Array Value) (xs ys : List Value), w.heap[gb]? = some (.cells cur E (0, 0)) → cap ≤ maxLen → rows.length ≤ cap → cur.size = cap * sz → xs.length = rows.length * sz → cur.toList.take (rows.length * sz) = xs → (∀ u ∈ xs, u.oneCell' = true) →
      ys.length = sz → (∀ u ∈ ys, u.oneCell' = true) → vb ≠ gb → (∀ j u, ys[j]? = some u → w.cell? ⟨vb, vo + j, none⟩ = some u) →
      Calls P f #[.slice (some ⟨gb, 0, none⟩) rows.length cap, .int .i64 i, .slice (some ⟨vb, vo, none⟩) 1 vc] w (InsAny w E sz gb (rows.length + 1) (xs.take (i * sz) ++ ys ++ xs.drop (i * sz)))) :
    MSpec P f [.own 0 g, .d (.v (.int .i64 i)), .d (.sl sz [x])] [.row E sz g (dRows rows)] (.own 0 (g + 1)) [.row E sz (g + 1) (dRows (rows.take i ++ x :: rows.drop i))] := by
  refine ⟨hfn, Nat.le_refl _, by simp [belowL, belowP], by simp [belowH, belowC, belowR_d], fun X hP hn hm w c vs hr hps => ?_⟩
  have hlen := hps.1
  match vs, hlen with
  | [v0, v1, v2], _ =>
    have r0 := hps.2 0 _ v0 rfl rfl
    have r1 := repD_inv (hps.2 1 _ v1 rfl rfl)
    have r2 := repD_inv (hps.2 2 _ v2 rfl rfl)
    have hne : dRows rows ≠ [] := fun e => by
      have : rows.length = 0 := by rw [← dRows_len rows, e]; rfl
      omega
    have hck := hr.chunk 0
    cases r0 with
    | own _ _ _ hov h1 =>
      obtain ⟨gb, cap, rfl⟩ := own_some hck hov hne
      obtain ⟨cur, xs, q1, q2, q3, q4, q5, q6, q7, q8, q9, q10, q11⟩ := row_cells hck hov hne
      have hxone := RepPs.one q2 (fun d hd => by obtain ⟨r, hr, hd⟩ := List.mem_flatten.1 hd; exact q6 r hr d hd)
      rw [dRows_len] at q3 q4 q8 q10 hov ⊢
      cases r1
      have hMg : c.M gb := (hr.mu gb).2 (.inr ⟨0, by
        have hcap : 0 < cap := by omega
        simp only [mkF, hatL, Cx.block, hov, Option.bind_some]
        exact ownB_pos hcap⟩)
      have hxs : cur.toList.take (rows.length * sz) = xs := by
        apply List.ext_getElem?
        intro j
        by_cases hj : j < rows.length * sz
        · rw [List.getElem?_take_of_lt hj, Array.getElem?_toList, q4 j hj]
        · rw [List.getElem?_eq_none (by rw [List.length_take]; omega), List.getElem?_eq_none (by omega)]
      cases r2 with
      | sl _ _ vb vo vc ff hM hb hc' hm' hr' h1' hcell hrep =>
        obtain ⟨ys, y1, -, y2, y3, y4, y5, y6⟩ := sl_cells (w := w) hs0 (RepD.sl (M := c.M) sz [x] vb vo vc ff hM hb hc' hm' hr' h1' hcell hrep)
        have y1' : ys.length = sz := by simpa using y1
        have hcall := raw w gb cap vb vo vc cur xs ys q1 q9 q10 q11 q3 hxs hxone y1' y4 (fun e => hM (e ▸ hMg)) (fun j u hj => by have := y3 j u hj; rwa [Addr.add_lit] at this)
        refine hcall.mono fun e w' ⟨v', he, hown, hone, hnew⟩ => ?_
        have hin2 : ∀ r ∈ dRows (rows.take i ++ x :: rows.drop i), r.length = sz := fun r hr => by
          obtain ⟨q, hq, rfl⟩ := dRows_mem hr
          rw [List.length_map]
          rcases List.mem_append.1 hq with h | h
          · have := q5 (q.map .d) (List.mem_map.2 ⟨q, List.mem_of_mem_take h, rfl⟩)
            simpa using this
          · rcases List.mem_cons.1 h with rfl | h
            · exact y5 _ (by simp)
            · have := q5 (q.map .d) (List.mem_map.2 ⟨q, List.mem_of_mem_drop h, rfl⟩)
              simpa using this
        have hin3 : ∀ r ∈ dRows (rows.take i ++ x :: rows.drop i), ∀ d ∈ r, d.one = true := fun r hr d hd => by
          obtain ⟨q, hq, rfl⟩ := dRows_mem hr
          rcases List.mem_append.1 hq with h | h
          · exact q6 (q.map .d) (List.mem_map.2 ⟨q, List.mem_of_mem_take h, rfl⟩) d hd
          · rcases List.mem_cons.1 h with rfl | h
            · obtain ⟨y, hy, rfl⟩ := List.mem_map.1 hd
              exact y6 _ (by simp) y hy
            · exact q6 (q.map .d) (List.mem_map.2 ⟨q, List.mem_of_mem_drop h, rfl⟩) d hd
        have hflat : (dRows (rows.take i ++ x :: rows.drop i)).flatten = ((dRows rows).flatten.take (i * sz)) ++ x.map .d ++ ((dRows rows).flatten.drop (i * sz)) := by
          rw [← flatten_take q5, ← flatten_drop q5]
          simp only [dRows, List.map_append, List.map_cons, List.flatten_append, List.flatten_cons, List.map_take, List.map_drop, List.append_assoc]
        have hrep' : RepPs c w (dRows (rows.take i ++ x :: rows.drop i)).flatten (xs.take (i * sz) ++ ys ++ xs.drop (i * sz)) := by
          rw [hflat]
          refine repPs_app (repPs_app ?_ ?_) ?_
          · have := q2.part 0 (i * sz)
            simpa using this
          · have := repPs_d y2
            simpa using this
          · have := q2.part (i * sz) xs.length
            rw [List.take_of_length_le (by rw [List.length_drop, q2.1]; omega), List.take_of_length_le (by rw [List.length_drop]; omega)] at this
            exact this
        have hcap : 0 < cap := by omega
        obtain ⟨c', s1, s2⟩ := hr.set_row (k := 0) (rows' := dRows (rows.take i ++ x :: rows.drop i)) (v' := v') rfl hov (by rw [ownB_pos hcap]; exact hone) (by
            have : (dRows (rows.take i ++ x :: rows.drop i)).length = rows.length + 1 := by rw [dRows_len, List.length_append, List.length_take, List.length_cons, List.length_drop]; omega
            rw [this]; exact hown) (by rw [ownB_pos hcap]; exact hnew) hrep' hin2 hin3
        have hfun : effH [(0, Chunk.row E sz (g + 1) (dRows (rows.take i ++ x :: rows.drop i)))] (mkF [] [.row E sz g (dRows rows)]).heap = hatL [.row E sz (g + 1) (dRows (rows.take i ++ x :: rows.drop i))] := by
          funext k
          rw [effH1]
          cases k with
          | zero => rfl
          | succ k => rfl
        rw [hfun] at s1
        exact ⟨v', c', he, s2, s1⟩
theorem ins_take {sz n i : Nat} {cur : List Value} {xs ys : List Value} (hn : n < i + 1 + n) (hi : i < n) (hc : (n + 1) * sz ≤ cur.length) (hl : xs.length = n * sz) (hyl : ys.length = sz) (ht : cur.take (n * sz) = xs) :
    (setAt (setAt cur ((i + 1) * sz) (xs.drop (i * sz))) (i * sz) ys).take ((n + 1) * sz) = xs.take (i * sz) ++ ys ++ xs.drop (i * sz) ∧ (setAt (setAt cur ((i + 1) * sz) (xs.drop (i * sz))) (i * sz) ys).length = cur.length := by
  have h1 : i * sz ≤ n * sz := Nat.mul_le_mul_right sz (by omega)
  have h2 : (i + 1) * sz = i * sz + sz := Nat.succ_mul i sz
  have h3 : (n + 1) * sz = n * sz + sz := Nat.succ_mul n sz
  have hdl : (xs.drop (i * sz)).length = n * sz - i * sz := by rw [List.length_drop, hl]
  have hA : (setAt cur ((i + 1) * sz) (xs.drop (i * sz))).length = cur.length := setAt_length (by omega)
  have hB : (setAt (setAt cur ((i + 1) * sz) (xs.drop (i * sz))) (i * sz) ys).length = cur.length := by rw [setAt_length (by omega)]; exact hA
  refine ⟨?_, hB⟩
  apply List.ext_getElem?
  intro q
  by_cases hq : q < (n + 1) * sz
  · rw [List.getElem?_take_of_lt hq, setAt_get (by omega), setAt_get (by omega)]
    by_cases c1 : q < i * sz
    · rw [if_neg (by omega), if_neg (by omega), List.append_assoc, List.getElem?_append_left (by rw [List.length_take]; omega), List.getElem?_take_of_lt c1, ← ht, List.getElem?_take_of_lt (by omega)]
    · by_cases c2 : q < i * sz + sz
      · rw [if_pos (by omega), List.append_assoc, List.getElem?_append_right (by rw [List.length_take]; omega), List.getElem?_append_left (by rw [List.length_take]; omega), List.length_take]
        congr 1; omega
      · rw [if_neg (by omega), if_pos (by omega), List.getElem?_append_right (by rw [List.length_append, List.length_take]; omega)]
        congr 1
        rw [List.length_append, List.length_take]; omega
  · rw [List.getElem?_eq_none (by rw [List.length_take]; omega), List.getElem?_eq_none (by simp only [List.length_append, List.length_take, hdl]; omega)]
theorem Try.infoLease : (Try.prog.info? 50).map (fun i => (i.zero, i.size, i.bytes)) = some (some (.agg #[.int .i64 0, .int .i64 0, .int .i64 0, .int .i64 0, .int .i64 0]), 5, 40) := by kernel_rfl
set_option maxHeartbeats 4000000 in
set_option maxRecDepth 100000 in
theorem insertB2_Lease (g cap n i vb vo vc : Nat) (cur : Array Value) (xs ys : List Value) (w : World) (hh : w.heap[g]? = some (.cells cur 50 (0, 0))) (hm : cap ≤ 9223372036854775807) (hs : cur.size = cap * 5) (hl : xs.length = n * 5) (ht : cur.toList.take (n * 5) = xs)
    (hx1 : ∀ u ∈ xs, u.oneCell' = true) (hi : i < n) (hroom : n + 1 ≤ cap) (hyl : ys.length = 5) (hy1 : ∀ u ∈ ys, u.oneCell' = true) (hvb : vb ≠ g) (hys : ∀ j u, ys[j]? = some u → w.cell? ⟨vb, vo + j, none⟩ = some u)
    (sA : TypeId × Nat) (hsa : w.shape? vb = some sA) (hA0 : sA.2 ≠ 0) :
    Calls Try.prog 86 #[.slice (some ⟨g, 0, none⟩) n cap, .int .i64 i, .slice (some ⟨vb, vo, none⟩) 1 vc] w fun e w' =>
      e = .returned (.slice (some ⟨g, 0, none⟩) (n + 1) cap) ∧ w' = (w.drew.setRow g (setAt cur.toList ((i + 1) * 5) (xs.drop (i * 5))).toArray).setRow g (setAt (setAt cur.toList ((i + 1) * 5) (xs.drop (i * 5))) (i * 5) ys).toArray := by
  obtain ⟨i0, hi0, hz0, hz1, hz2⟩ := info_parts Try.infoLease
  have mixed : Try.prog.follows .mixedOrders = true := by kernel_rfl
  have hn0 : (i : Int) + 1 = ((i + 1 : Nat) : Int) := by omega
  obtain ⟨j, hj⟩ : ∃ j, j = i + 1 := ⟨_, rfl⟩
  obtain ⟨m, hmm⟩ : ∃ m, m = n + 1 := ⟨_, rfl⟩
  have hsz : ∀ w, (sizeOf 50).run Try.prog w = .ok 5 w := fun w => by simp [sizeOf, typeInfo, hi0, hz1]
  have hov : ∀ lb cb, (callFunc 100 #[.slice (some ⟨vb, vo, none⟩) 1 vc, .slice (some ⟨g, j * 5, none⟩) lb cb]).run Try.prog w = .ok (.value (.bool false)) w := fun lb cb => by
    rw [run_callFunc_extern (fn := Try.f100) (by kernel_rfl) (by kernel_rfl) (by kernel_rfl) (by kernel_rfl) (e := Extern.SlicesOverlaps.overlaps #[44, 44] #[4]) (by kernel_rfl),
      run_overlaps_own w 44 4 50 Try.underlying44 5 hsz ⟨vb, vo, none⟩ ⟨g, j * 5, none⟩ 1 vc lb cb hvb sA hsa hA0 cur 50 hh (by omega)]
    rfl
  have hdl : (xs.drop (i * 5)).length = (n - i) * 5 := by rw [List.length_drop, hl]; omega
  have hcx : ∀ q u, xs[q]? = some u → cur[q]? = some u := fun q u hq => by
    rw [← ht, List.getElem?_take] at hq
    split at hq
    · rwa [Array.getElem?_toList] at hq
    · cases hq
  obtain ⟨C1, hC1⟩ : ∃ C1 : Array Value, C1 = (setAt cur.toList (j * 5) (xs.drop (i * 5))).toArray := ⟨_, rfl⟩
  have hC1s : C1.size = cap * 5 := by rw [hC1, List.size_toArray, setAt_length (by simp; omega)]; simpa using hs
  obtain ⟨W1, hW1⟩ : ∃ W1, W1 = w.drew.setRow g C1 := ⟨_, rfl⟩
  have hcp1 : ∀ ty dc sc, (Builtin.copy_ #[44, 44] ty #[.slice (some ⟨g, j * 5, none⟩) (m - j) dc, .slice (some ⟨g, i * 5, none⟩) (m - i) sc]).run Try.prog w.drew = .ok (goInt (Nat.min (m - i) (m - j))) W1 := fun ty dc sc => by
    rw [hW1, hC1]
    exact run_copy_own (e := 50) (sz := 5) (xs.drop (i * 5)) Try.underlying44 hi0 hz1 (by rw [hdl, show Nat.min (m - i) (m - j) = n - i from (by simp only [Nat.min_def]; split <;> omega)]) (fun q u hq => by
        rw [Addr.add_lit, cell_row (w := w.drew) hh]
        rw [List.getElem?_drop] at hq
        have := hcx _ u hq
        rw [← this]) (fun u hu => hx1 u (List.mem_of_mem_drop hu)) (w := w.drew) hh (by rw [hdl, hs]; omega) ty
  have hh1 : W1.heap[g]? = some (.cells C1 50 (0, 0)) := by rw [hW1]; exact setRow_heap _ g _ _ _ _ hh
  have hcp2 : ∀ (W : World), W = W1 → ∀ ty dc, (Builtin.copy_ #[44, 44] ty #[.slice (some ⟨g, i * 5, none⟩) (m - i) dc, .slice (some ⟨vb, vo, none⟩) 1 vc]).run Try.prog W = .ok (goInt (Nat.min 1 (m - i))) (W1.setRow g (setAt C1.toList (i * 5) ys).toArray) := fun W hW ty dc => by
    subst hW
    exact run_copy_own (e := 50) (sz := 5) ys Try.underlying44 hi0 hz1 (by rw [hyl, show Nat.min 1 (m - i) = 1 from (by simp only [Nat.min_def]; split <;> omega)]) (fun q u hq => by
        rw [Addr.add_lit, hW1]
        have := hys q u hq
        rw [← this]
        exact World.cell?_of_block (a := ⟨vb, vo + q, none⟩) (by rw [setRow_other _ _ _ _ hvb]; rfl)) hy1 hh1 (by rw [hyl, hC1s]; omega) ty
  have hw1 : IntKind.i64.wrap ((i : Int) + 1) = (j : Int) := by rw [IntKind.wrap_i64]; omega
  have hw2 : IntKind.i64.wrap ((n : Int) + 1) = (m : Int) := by rw [IntKind.wrap_i64]; omega
  have hfin : Hid (W1.setRow g (setAt C1.toList (i * 5) ys).toArray = (w.drew.setRow g (setAt cur.toList ((i + 1) * 5) (xs.drop (i * 5))).toArray).setRow g (setAt (setAt cur.toList ((i + 1) * 5) (xs.drop (i * 5))) (i * 5) ys).toArray) := by
    show W1.setRow g (setAt C1.toList (i * 5) ys).toArray = _
    rw [hW1, hC1, hj]
  have hz2' : ¬ ((i : Int) = (n : Int)) := by omega
  have hb1 : i ≤ n := by omega
  have hb2 : ¬ (cap = j) := by omega
  have hb3 : ¬ (cap = i) := by omega
  have hb4 : j ≤ m := by omega
  have hb5 : i ≤ m := by omega
  have hb6 : m ≤ cap := by omega
  have hb7 : ¬ ((cap : Int) < (m : Int)) := by omega
  rw [← hmm]
  have hj2 := Lib.hid hj
  have hm2 := Lib.hid hmm
  have hW := Lib.hid hW1
  have hC := Lib.hid hC1
  clear hj hmm hW1 hC1 ht hl hs hyl hC1s hdl hcx hn0 hh1 hz0 hz1 hz2 hh
  go_enter Try.func86, Try.ntmps86
  go_wp2_with (simp only [hov])
  go_region_law_o (refine step_copy_r rfl _ _ 44 44 rfl _ _ (by simp [Act.eval, Act.put]) (by simp [Act.eval, Act.put]) (hcp1 _ _ _) ?_)
  go_wp2_with (at_builtin; refine wpList_copy_r _ rfl _ _ 44 44 rfl _ _ rfl rfl (hcp2 _ rfl _ _) ?_)
  go_ret
  exact ⟨rfl, hfin.out⟩
set_option maxHeartbeats 4000000 in
set_option maxRecDepth 100000 in
theorem insertB1_Lease (g cap n i vb vo vc : Nat) (cur : Array Value) (xs ys : List Value) (w : World) (hh : w.heap[g]? = some (.cells cur 50 (0, 0))) (hm : cap ≤ 1000000000) (hnc : n ≤ cap) (hs : cur.size = cap * 5) (hl : xs.length = n * 5) (ht : cur.toList.take (n * 5) = xs)
    (hx1 : ∀ u ∈ xs, u.oneCell' = true) (hi : i < n) (hroom : ¬ n + 1 ≤ cap) (hyl : ys.length = 5) (hy1 : ∀ u ∈ ys, u.oneCell' = true) (hys : ∀ j u, ys[j]? = some u → w.cell? ⟨vb, vo + j, none⟩ = some u) :
    Calls Try.prog 86 #[.slice (some ⟨g, 0, none⟩) n cap, .int .i64 i, .slice (some ⟨vb, vo, none⟩) 1 vc] w (InsNew w 50 g 5 n (xs.take (i * 5) ++ ys ++ xs.drop (i * 5))) := by
  obtain ⟨i0, hi0, hz0, hz1, hz2⟩ := info_parts Try.infoLease
  have mixed : Try.prog.follows .mixedOrders = true := by kernel_rfl
  obtain ⟨j, hj⟩ : ∃ j, j = i + 1 := ⟨_, rfl⟩
  obtain ⟨m, hmm⟩ : ∃ m, m = n + 1 := ⟨_, rfl⟩
  obtain ⟨k, hk⟩ : ∃ k, k = m - i := ⟨_, rfl⟩
  obtain ⟨B, hB⟩ : ∃ B, B = w.heap.size := ⟨_, rfl⟩
  have hgB : g < B := by rw [hB]; exact block_lt hh
  have hvB : vb < B := by
    obtain ⟨u, hu⟩ : ∃ u, ys[0]? = some u := ⟨_, List.getElem?_eq_getElem (by omega)⟩
    have := hys 0 u hu
    rw [hB]
    rcases Nat.lt_or_ge vb w.heap.size with h | h
    · exact h
    · simp [World.cell?, Array.getElem?_eq_none h] at this
  have hcx : ∀ q u, xs[q]? = some u → cur[q]? = some u := fun q u hq => by
    rw [← ht, List.getElem?_take] at hq
    split at hq
    · rwa [Array.getElem?_toList] at hq
    · cases hq
  have hold : (Builtin.firstCells i0.size i (.slice (some ⟨g, 0, none⟩) i cap)).run Try.prog w.drew = .ok (xs.take (i * 5)).toArray w.drew := by
    rw [hz1]
    exact run_firstCells_some w.drew 5 i ⟨g, 0, none⟩ i cap (xs.take (i * 5)) (by rw [List.length_take]; omega) (fun q u hq => by
      rw [Addr.add_lit, cell_row (w := w.drew) hh, Nat.zero_add]
      rw [List.getElem?_take] at hq
      split at hq
      · exact hcx q u hq
      · cases hq)
  obtain ⟨G, hG⟩ : ∃ G, G = grownCap w (i + k) cap 50 := ⟨_, rfl⟩
  have hik : i + k = m := by omega
  have hGm : m ≤ G := by rw [hG, hik]; exact grownCap_ge w _ _ _
  have hG63 : G ≤ 9223372036854775807 := by
    have := grownCap_le_maxLen w (i + k) cap 50 (by unfold maxLen; omega)
    rw [← hG] at this
    unfold maxLen at this
    omega
  obtain ⟨C0, hC0⟩ : ∃ C0 : Array Value, C0 = (xs.take (i * 5)).toArray ++ Builtin.zeroCells (Value.agg #[.int .i64 0, .int .i64 0, .int .i64 0, .int .i64 0, .int .i64 0]).cells k ++ Builtin.zeroCells (Value.agg #[.int .i64 0, .int .i64 0, .int .i64 0, .int .i64 0, .int .i64 0]).cells (G - m) := ⟨_, rfl⟩
  have hz3 : ∀ ty, (Builtin.append_ #[44, 3] ty #[.slice (some ⟨g, 0, none⟩) i cap, .int .i64 ((m : Int) - (i : Int))]).run Try.prog w = .ok (.slice (some ⟨B, 0, none⟩) m G) (w.drew.alloc (.cells C0 50)) := fun ty => by
    have hz := Lib.run_append_grow_zeros (P := Try.prog) w 44 3 ty 50 i0 _ .i64 .i64 Try.underlying44 Try.underlying3 hi0 hz0 (some ⟨g, 0, none⟩) i cap (xs.take (i * 5)) hold k (by omega) (by omega) (by omega) (by omega) (by rw [hz2]; omega) (by rw [hz2]; exact growslice_fits (by omega) (by omega))
    rw [← hG, hik, ← hB] at hz
    rw [show (m : Int) - (i : Int) = (k : Int) by omega, hz, hC0]
  have hC0s : C0.size = G * 5 := by
    rw [hC0]
    simp [Builtin.zeroCells, Value.cells]
    omega
  obtain ⟨W0, hW0⟩ : ∃ W0, W0 = w.drew.alloc (.cells C0 50) := ⟨_, rfl⟩
  rw [← hW0] at hz3
  have hh0 : W0.heap[B]? = some (.cells C0 50 (0, 0)) := by rw [hW0, hB]; exact alloc_at w.drew _
  have hold0 : ∀ b, b < B → W0.heap[b]? = w.heap[b]? := fun b hb => by
    rw [hW0]
    simp only [World.alloc, Array.getElem?_push]
    rw [if_neg (by show ¬ b = w.heap.size; omega)]
    rfl
  obtain ⟨C1, hC1⟩ : ∃ C1 : Array Value, C1 = (setAt C0.toList (i * 5) ys).toArray := ⟨_, rfl⟩
  have hC1s : C1.size = G * 5 := by rw [hC1, List.size_toArray, setAt_length (by simp; omega)]; simpa using hC0s
  obtain ⟨W1, hW1⟩ : ∃ W1, W1 = W0.setRow B C1 := ⟨_, rfl⟩
  have hcp1 : ∀ ty dc, (Builtin.copy_ #[44, 44] ty #[.slice (some ⟨B, i * 5, none⟩) (m - i) dc, .slice (some ⟨vb, vo, none⟩) 1 vc]).run Try.prog W0 = .ok (goInt (Nat.min 1 (m - i))) W1 := fun ty dc => by
    rw [hW1, hC1]
    exact run_copy_own (e := 50) (sz := 5) ys Try.underlying44 hi0 hz1 (by rw [hyl, show Nat.min 1 (m - i) = 1 from (by simp only [Nat.min_def]; split <;> omega)]) (fun q u hq => by
        rw [Addr.add_lit]
        rw [← hys q u hq]
        exact World.cell?_of_block (a := ⟨vb, vo + q, none⟩) (hold0 vb hvB)) hy1 hh0 (by rw [hyl, hC0s]; omega) ty
  have hh1 : W1.heap[B]? = some (.cells C1 50 (0, 0)) := by rw [hW1]; exact setRow_heap _ B _ _ _ _ hh0
  have hold1 : ∀ b, b < B → W1.heap[b]? = w.heap[b]? := fun b hb => by rw [hW1, setRow_other _ _ _ _ (by omega)]; exact hold0 b hb
  have hdl : (xs.drop (i * 5)).length = (n - i) * 5 := by rw [List.length_drop, hl]; omega
  have hcp2 : ∀ ty dc sc, (Builtin.copy_ #[44, 44] ty #[.slice (some ⟨B, j * 5, none⟩) (m - j) dc, .slice (some ⟨g, i * 5, none⟩) (n - i) sc]).run Try.prog W1.drew = .ok (goInt (Nat.min (n - i) (m - j))) (W1.drew.setRow B (setAt C1.toList (j * 5) (xs.drop (i * 5))).toArray) := fun ty dc sc => by
    exact run_copy_own (e := 50) (sz := 5) (xs.drop (i * 5)) Try.underlying44 hi0 hz1 (by rw [hdl, show Nat.min (n - i) (m - j) = n - i from (by simp only [Nat.min_def]; split <;> omega)]) (fun q u hq => by
        rw [Addr.add_lit, cell_row (w := W1.drew) (show W1.heap[g]? = _ from (hold1 g hgB).trans hh)]
        rw [List.getElem?_drop] at hq
        have := hcx _ u hq
        rw [← this]) (fun u hu => hx1 u (List.mem_of_mem_drop hu)) (w := W1.drew) hh1 (by rw [hdl, hC1s]; omega) ty
  have hR : Hid (∀ e, e = Ending.returned (.slice (some ⟨B, 0, none⟩) m G) → InsNew w 50 g 5 n (xs.take (i * 5) ++ ys ++ xs.drop (i * 5)) e (W1.drew.setRow B (setAt C1.toList (j * 5) (xs.drop (i * 5))).toArray)) := by
    intro e he
    refine ⟨G, setAt C1.toList (j * 5) (xs.drop (i * 5)), by omega, hG63, ?_, ?_, by rw [he, hB, hmm], ?_, ?_⟩
    · rw [setAt_length (by rw [hdl]; simp; omega)]; simpa using hC1s
    · rw [hC1, List.toList_toArray]
      have e1 : C0.toList.take (i * 5) = xs.take (i * 5) := by
        rw [hC0]
        simp only [Array.toList_append, List.append_assoc]
        rw [List.take_append_of_le_length (by simp; omega), List.take_of_length_le (by rw [List.length_take]; omega)]
      rw [show (n + 1) * 5 = j * 5 + (xs.drop (i * 5)).length by rw [hdl]; omega]
      unfold setAt
      rw [List.take_append_of_le_length (by simp; omega), List.take_of_length_le (by simp; omega)]
      congr 1
      rw [e1, List.take_append_of_le_length (by simp; omega), List.take_of_length_le (by simp; omega)]
    · refine ⟨?_, ?_, ?_, ?_, fun b hb _ => ?_⟩
      · rw [hW1, hW0]; rfl
      · rw [hW1, hW0]; rfl
      · rw [hW1, hW0]; rfl
      · rw [hW1, hW0]; simp [World.setRow]
      · rw [setRow_other _ _ _ _ (by omega)]; exact hold1 b (by omega)
    · rw [← hB]
      exact setRow_heap W1.drew B _ _ _ _ hh1
  have hw1 : IntKind.i64.wrap ((i : Int) + 1) = (j : Int) := by rw [IntKind.wrap_i64]; omega
  have hw2 : IntKind.i64.wrap ((n : Int) + 1) = (m : Int) := by rw [IntKind.wrap_i64]; omega
  have hw3 : IntKind.i64.wrap ((m : Int) - (i : Int)) = (m : Int) - (i : Int) := by rw [IntKind.wrap_i64]; omega
  have hz2' : ¬ ((i : Int) = (n : Int)) := by omega
  have hb1 : i ≤ n := by omega
  have hb2 : ¬ (G = j) := by omega
  have hb3 : ¬ (G = i) := by omega
  have hb4 : j ≤ m := by omega
  have hb5 : i ≤ m := by omega
  have hb6 : i ≤ cap := by omega
  have hb7 : (cap : Int) < (m : Int) := by omega
  have hb8 : ¬ (cap = i) := by omega
  have hb9 : j ≤ G := by omega
  have hb10 : i ≤ G := by omega
  clear hold hC0s hC1s hdl hyl hl hs ht hh hh0 hh1 hold0 hold1 hcx hik hz0 hz1 hz2 hG hW0 hW1 hC0 hC1 hk hj hmm hB hroom
  go_enter Try.func86, Try.ntmps86
  go_wp2_with (at_builtin; first | refine wpList_appz_r _ rfl _ _ 44 3 rfl _ _ rfl rfl (hz3 _) ?_ | refine wpList_copy_r _ rfl _ _ 44 44 rfl _ _ rfl rfl (hcp1 _ _) ?_)
  go_region_law_o (refine step_copy_r rfl _ _ 44 44 rfl _ _ (by simp [Act.eval, Act.put]) (by simp [Act.eval, Act.put]) (hcp2 _ _ _) ?_)
  go_wp2_with fail
  go_ret
  exact hR.out _ rfl
/-- slices.Insert of one. -/
theorem insert_Lease (l : List Lse) (x : Lse) (i g : Nat) (hi : i ≤ l.length) (hl : l.length ≤ 1000000) :
    MSpec Try.prog 86 [.own 0 g, .d (.v (.int .i64 i)), .d (.sl 5 [encL x])] [.row 50 5 g (dRows (l.map encL))] (.own 0 (g + 1)) [.row 50 5 (g + 1) (dRows ((l.take i ++ x :: l.drop i).map encL))] := by
  rcases Nat.lt_or_ge i l.length with hlt | hge
  · have h1 := ms_ins (P := Try.prog) (f := 86) (E := 50) (sz := 5) (g := g) (i := i) (rows := l.map encL) (x := encL x) (fnok_of Try.func86 (by kernel_rfl) rfl) (by omega) (by simpa using hlt) (by
      simp only [List.length_map]
      intro w gb cap vb vo vc cur xs ys q1 q2 q3 q4 q5 q6 q7 q8 q9 q10 q11
      obtain ⟨u, hu⟩ : ∃ u, ys[0]? = some u := ⟨_, List.getElem?_eq_getElem (by omega)⟩
      obtain ⟨sA, hsa, hA0⟩ := cells_shape (q11 0 u hu)
      unfold maxLen at q2
      by_cases hroom : l.length + 1 ≤ cap
      · refine (insertB2_Lease gb cap l.length i vb vo vc cur xs ys w q1 (by omega) q4 q5 q6 q7 hlt hroom q8 q9 q10 q11 sA hsa hA0).mono ?_
        rintro e w' ⟨rfl, rfl⟩
        obtain ⟨t1, t2⟩ := ins_take (sz := 5) (n := l.length) (i := i) (cur := cur.toList) (xs := xs) (ys := ys) (by omega) hlt (by simp; omega) q5 q8 q6
        have hg1 : (w.drew.setRow gb (setAt cur.toList ((i + 1) * 5) (xs.drop (i * 5))).toArray).heap[gb]? = some (.cells (setAt cur.toList ((i + 1) * 5) (xs.drop (i * 5))).toArray 50 (0, 0)) := setRow_heap _ gb _ _ _ _ q1
        refine ⟨_, rfl, .row gb (l.length + 1) cap _ _ (by omega) (setRow_heap _ gb _ _ _ _ hg1) hroom q2 (by rw [List.size_toArray, t2]; simpa using q4) (by rw [← t1, List.length_take, t2]; simp; omega) (by rw [List.toList_toArray]; exact t1), ⟨rfl, rfl, rfl, by simp [World.setRow], fun b hb hne => ?_⟩, .inl (ownB_pos (by omega))⟩
        have hbg : b ≠ gb := fun e => hne (by rw [e])
        rw [setRow_other _ _ _ _ hbg, setRow_other _ _ _ _ hbg]; rfl
      · refine (insertB1_Lease gb cap l.length i vb vo vc cur xs ys w q1 (by omega) q3 q4 q5 q6 q7 hlt hroom q8 q9 q11).mono ?_
        rintro e w' ⟨G, R, h1, h2, h3, h4, rfl, h6, h7⟩
        exact ⟨_, rfl, .row w.heap.size (l.length + 1) G R.toArray _ (by omega) h7 h1 h2 (by simpa using h3) (by rw [← h4, List.length_take, h3]; omega) (by simpa using h4), h6, .inr fun b hb => by rw [ownB_pos (by omega)] at hb; cases hb; exact Nat.le_refl _⟩)
    rw [List.map_append, List.map_take, List.map_cons, List.map_drop]
    exact h1
  · obtain rfl : i = l.length := by omega
    rw [List.take_length, List.drop_length]
    by_cases h0 : l = []
    · subst h0
      refine ms_i tab_ok mixed Try.func86 rfl Try.ntmps86 Try.results86 (by kernel_rfl) (by simp) (by simp [belowL, belowP]) (by simp [belowH, belowC, belowL, belowP, belowL_d, belowR_d]) ?_
      repeat' (first | (with_reducible refine And.intro ?_ ?_) | (with_reducible refine gK_i (fun _ => ?_) (fun _ => ?_)) | (with_reducible refine condS_i (fun _ => ?_) (fun _ => ?_)) | (with_reducible refine drw_i (by kernel_rfl)) | simp -dsimp only [go_sem, ↓reduceIte, reduceCtorEq, Nat.reduceAdd, Nat.reduceMul, Nat.reduceSub, Nat.reduceLeDiff, Nat.reduceLT, Nat.reduceEqDiff, Int.reduceLE, Int.reduceLT, Int.reduceToNat, Int.reduceBEq, Int.reduceBNe, Int.reduceEq, Int.reduceAdd, Int.reduceSub, Int.reduceMul, Int.reduceNeg, Int.cast_ofNat_Int, *, encL, dRows, Option.isSome_some] | ((with_reducible refine opK_c ?_); simp -dsimp only [go_sem, ↓reduceIte, reduceCtorEq, Nat.reduceAdd, Nat.reduceMul, Nat.reduceSub, Nat.reduceLeDiff, Nat.reduceLT, Nat.reduceEqDiff, Int.reduceLE, Int.reduceLT, Int.reduceToNat, Int.reduceBEq, Int.reduceBNe, Int.reduceEq, Int.reduceAdd, Int.reduceSub, Int.reduceMul, Int.reduceNeg, Int.cast_ofNat_Int, encL, dRows, Option.isSome_some]; first | refine callK_r (by first | assumption | fail) (by first | exact .inl rfl | exact .inr rfl) ?_ | refine callK_i (by assumption) (by repeat (first | exact DLe.refl _ | exact DLe.nil _ | (refine DLe.tup ?_) | (refine DLe.agg ?_ rfl) | exact trivial | (refine And.intro ?_ ?_))) (by first | exact .inl rfl | exact .inr rfl) ?_) | omega | exact decide_eq_true (by omega) | exact DLe.refl _)
      all_goals exact weak_eq rfl rfl
    · have hne : ¬ dRows (l.map encL) = [] := by simpa [dRows] using h0
      refine ms_i tab_ok mixed Try.func86 rfl Try.ntmps86 Try.results86 (by kernel_rfl) (by simp) (by simp [belowL, belowP]) (by simp [belowH, belowC, belowL, belowP, belowL_d, belowR_d]) ?_
      repeat' (first | (with_reducible refine And.intro ?_ ?_) | (with_reducible refine gK_i (fun _ => ?_) (fun _ => ?_)) | (with_reducible refine condS_i (fun _ => ?_) (fun _ => ?_)) | (with_reducible refine drw_i (by kernel_rfl)) | simp -dsimp only [go_sem, ↓reduceIte, reduceCtorEq, Nat.reduceAdd, Nat.reduceMul, Nat.reduceSub, Nat.reduceLeDiff, Nat.reduceLT, Nat.reduceEqDiff, Int.reduceLE, Int.reduceLT, Int.reduceToNat, Int.reduceBEq, Int.reduceBNe, Int.reduceEq, Int.reduceAdd, Int.reduceSub, Int.reduceMul, Int.reduceNeg, Int.cast_ofNat_Int, *, encL, Option.isSome_some] | ((with_reducible refine opK_c ?_); simp -dsimp only [go_sem, ↓reduceIte, reduceCtorEq, Nat.reduceAdd, Nat.reduceMul, Nat.reduceSub, Nat.reduceLeDiff, Nat.reduceLT, Nat.reduceEqDiff, Int.reduceLE, Int.reduceLT, Int.reduceToNat, Int.reduceBEq, Int.reduceBNe, Int.reduceEq, Int.reduceAdd, Int.reduceSub, Int.reduceMul, Int.reduceNeg, Int.cast_ofNat_Int, encL, Option.isSome_some]; first | refine callK_r (by first | assumption | fail) (by first | exact .inl rfl | exact .inr rfl) ?_ | refine callK_i (by assumption) (by repeat (first | exact DLe.refl _ | exact DLe.nil _ | (refine DLe.tup ?_) | (refine DLe.agg ?_ rfl) | exact trivial | (refine And.intro ?_ ?_))) (by first | exact .inl rfl | exact .inr rfl) ?_) | omega | exact decide_eq_true (by omega) | exact DLe.refl _)
      all_goals exact weak_eq rfl (by simp [encL, dRows])
theorem Try.infoPool : (Try.prog.info? 46).map (fun i => (i.zero, i.size, i.bytes)) = some (some (.agg #[.int .i64 0, .int .i64 0, .int .i64 0, .int .i64 0, .int .i64 0, .int .i64 0, .int .i64 0, .int .i64 0, .slice none 0 0]), 9, 88) := by kernel_rfl
set_option maxHeartbeats 4000000 in
set_option maxRecDepth 100000 in
theorem insertB2_Pool (g cap n i vb vo vc : Nat) (cur : Array Value) (xs ys : List Value) (w : World) (hh : w.heap[g]? = some (.cells cur 46 (0, 0))) (hm : cap ≤ 9223372036854775807) (hs : cur.size = cap * 9) (hl : xs.length = n * 9) (ht : cur.toList.take (n * 9) = xs)
    (hx1 : ∀ u ∈ xs, u.oneCell' = true) (hi : i < n) (hroom : n + 1 ≤ cap) (hyl : ys.length = 9) (hy1 : ∀ u ∈ ys, u.oneCell' = true) (hvb : vb ≠ g) (hys : ∀ j u, ys[j]? = some u → w.cell? ⟨vb, vo + j, none⟩ = some u)
    (sA : TypeId × Nat) (hsa : w.shape? vb = some sA) (hA0 : sA.2 ≠ 0) :
    Calls Try.prog 81 #[.slice (some ⟨g, 0, none⟩) n cap, .int .i64 i, .slice (some ⟨vb, vo, none⟩) 1 vc] w fun e w' =>
      e = .returned (.slice (some ⟨g, 0, none⟩) (n + 1) cap) ∧ w' = (w.drew.setRow g (setAt cur.toList ((i + 1) * 9) (xs.drop (i * 9))).toArray).setRow g (setAt (setAt cur.toList ((i + 1) * 9) (xs.drop (i * 9))) (i * 9) ys).toArray := by
  obtain ⟨i0, hi0, hz0, hz1, hz2⟩ := info_parts Try.infoPool
  have mixed : Try.prog.follows .mixedOrders = true := by kernel_rfl
  have hn0 : (i : Int) + 1 = ((i + 1 : Nat) : Int) := by omega
  obtain ⟨j, hj⟩ : ∃ j, j = i + 1 := ⟨_, rfl⟩
  obtain ⟨m, hmm⟩ : ∃ m, m = n + 1 := ⟨_, rfl⟩
  have hsz : ∀ w, (sizeOf 46).run Try.prog w = .ok 9 w := fun w => by simp [sizeOf, typeInfo, hi0, hz1]
  have hov : ∀ lb cb, (callFunc 96 #[.slice (some ⟨vb, vo, none⟩) 1 vc, .slice (some ⟨g, j * 9, none⟩) lb cb]).run Try.prog w = .ok (.value (.bool false)) w := fun lb cb => by
    rw [run_callFunc_extern (fn := Try.f96) (by kernel_rfl) (by kernel_rfl) (by kernel_rfl) (by kernel_rfl) (e := Extern.SlicesOverlaps.overlaps #[22, 22] #[4]) (by kernel_rfl),
      run_overlaps_own w 22 4 46 Try.underlying22 9 hsz ⟨vb, vo, none⟩ ⟨g, j * 9, none⟩ 1 vc lb cb hvb sA hsa hA0 cur 46 hh (by omega)]
    rfl
  have hdl : (xs.drop (i * 9)).length = (n - i) * 9 := by rw [List.length_drop, hl]; omega
  have hcx : ∀ q u, xs[q]? = some u → cur[q]? = some u := fun q u hq => by
    rw [← ht, List.getElem?_take] at hq
    split at hq
    · rwa [Array.getElem?_toList] at hq
    · cases hq
  obtain ⟨C1, hC1⟩ : ∃ C1 : Array Value, C1 = (setAt cur.toList (j * 9) (xs.drop (i * 9))).toArray := ⟨_, rfl⟩
  have hC1s : C1.size = cap * 9 := by rw [hC1, List.size_toArray, setAt_length (by simp; omega)]; simpa using hs
  obtain ⟨W1, hW1⟩ : ∃ W1, W1 = w.drew.setRow g C1 := ⟨_, rfl⟩
  have hcp1 : ∀ ty dc sc, (Builtin.copy_ #[22, 22] ty #[.slice (some ⟨g, j * 9, none⟩) (m - j) dc, .slice (some ⟨g, i * 9, none⟩) (m - i) sc]).run Try.prog w.drew = .ok (goInt (Nat.min (m - i) (m - j))) W1 := fun ty dc sc => by
    rw [hW1, hC1]
    exact run_copy_own (e := 46) (sz := 9) (xs.drop (i * 9)) Try.underlying22 hi0 hz1 (by rw [hdl, show Nat.min (m - i) (m - j) = n - i from (by simp only [Nat.min_def]; split <;> omega)]) (fun q u hq => by
        rw [Addr.add_lit, cell_row (w := w.drew) hh]
        rw [List.getElem?_drop] at hq
        have := hcx _ u hq
        rw [← this]) (fun u hu => hx1 u (List.mem_of_mem_drop hu)) (w := w.drew) hh (by rw [hdl, hs]; omega) ty
  have hh1 : W1.heap[g]? = some (.cells C1 46 (0, 0)) := by rw [hW1]; exact setRow_heap _ g _ _ _ _ hh
  have hcp2 : ∀ (W : World), W = W1 → ∀ ty dc, (Builtin.copy_ #[22, 22] ty #[.slice (some ⟨g, i * 9, none⟩) (m - i) dc, .slice (some ⟨vb, vo, none⟩) 1 vc]).run Try.prog W = .ok (goInt (Nat.min 1 (m - i))) (W1.setRow g (setAt C1.toList (i * 9) ys).toArray) := fun W hW ty dc => by
    subst hW
    exact run_copy_own (e := 46) (sz := 9) ys Try.underlying22 hi0 hz1 (by rw [hyl, show Nat.min 1 (m - i) = 1 from (by simp only [Nat.min_def]; split <;> omega)]) (fun q u hq => by
        rw [Addr.add_lit, hW1]
        have := hys q u hq
        rw [← this]
        exact World.cell?_of_block (a := ⟨vb, vo + q, none⟩) (by rw [setRow_other _ _ _ _ hvb]; rfl)) hy1 hh1 (by rw [hyl, hC1s]; omega) ty
  have hw1 : IntKind.i64.wrap ((i : Int) + 1) = (j : Int) := by rw [IntKind.wrap_i64]; omega
  have hw2 : IntKind.i64.wrap ((n : Int) + 1) = (m : Int) := by rw [IntKind.wrap_i64]; omega
  have hfin : Hid (W1.setRow g (setAt C1.toList (i * 9) ys).toArray = (w.drew.setRow g (setAt cur.toList ((i + 1) * 9) (xs.drop (i * 9))).toArray).setRow g (setAt (setAt cur.toList ((i + 1) * 9) (xs.drop (i * 9))) (i * 9) ys).toArray) := by
    show W1.setRow g (setAt C1.toList (i * 9) ys).toArray = _
    rw [hW1, hC1, hj]
  have hz2' : ¬ ((i : Int) = (n : Int)) := by omega
  have hb1 : i ≤ n := by omega
  have hb2 : ¬ (cap = j) := by omega
  have hb3 : ¬ (cap = i) := by omega
  have hb4 : j ≤ m := by omega
  have hb5 : i ≤ m := by omega
  have hb6 : m ≤ cap := by omega
  have hb7 : ¬ ((cap : Int) < (m : Int)) := by omega
  rw [← hmm]
  have hj2 := Lib.hid hj
  have hm2 := Lib.hid hmm
  have hW := Lib.hid hW1
  have hC := Lib.hid hC1
  clear hj hmm hW1 hC1 ht hl hs hyl hC1s hdl hcx hn0 hh1 hz0 hz1 hz2 hh
  go_enter Try.func81, Try.ntmps81
  go_wp2_with (simp only [hov])
  go_region_law_o (refine step_copy_r rfl _ _ 22 22 rfl _ _ (by simp [Act.eval, Act.put]) (by simp [Act.eval, Act.put]) (hcp1 _ _ _) ?_)
  go_wp2_with (at_builtin; refine wpList_copy_r _ rfl _ _ 22 22 rfl _ _ rfl rfl (hcp2 _ rfl _ _) ?_)
  go_ret
  exact ⟨rfl, hfin.out⟩
set_option maxHeartbeats 4000000 in
set_option maxRecDepth 100000 in
theorem insertB1_Pool (g cap n i vb vo vc : Nat) (cur : Array Value) (xs ys : List Value) (w : World) (hh : w.heap[g]? = some (.cells cur 46 (0, 0))) (hm : cap ≤ 1000000000) (hnc : n ≤ cap) (hs : cur.size = cap * 9) (hl : xs.length = n * 9) (ht : cur.toList.take (n * 9) = xs)
    (hx1 : ∀ u ∈ xs, u.oneCell' = true) (hi : i < n) (hroom : ¬ n + 1 ≤ cap) (hyl : ys.length = 9) (hy1 : ∀ u ∈ ys, u.oneCell' = true) (hys : ∀ j u, ys[j]? = some u → w.cell? ⟨vb, vo + j, none⟩ = some u) :
    Calls Try.prog 81 #[.slice (some ⟨g, 0, none⟩) n cap, .int .i64 i, .slice (some ⟨vb, vo, none⟩) 1 vc] w (InsNew w 46 g 9 n (xs.take (i * 9) ++ ys ++ xs.drop (i * 9))) := by
  obtain ⟨i0, hi0, hz0, hz1, hz2⟩ := info_parts Try.infoPool
  have mixed : Try.prog.follows .mixedOrders = true := by kernel_rfl
  obtain ⟨j, hj⟩ : ∃ j, j = i + 1 := ⟨_, rfl⟩
  obtain ⟨m, hmm⟩ : ∃ m, m = n + 1 := ⟨_, rfl⟩
  obtain ⟨k, hk⟩ : ∃ k, k = m - i := ⟨_, rfl⟩
  obtain ⟨B, hB⟩ : ∃ B, B = w.heap.size := ⟨_, rfl⟩
  have hgB : g < B := by rw [hB]; exact block_lt hh
  have hvB : vb < B := by
    obtain ⟨u, hu⟩ : ∃ u, ys[0]? = some u := ⟨_, List.getElem?_eq_getElem (by omega)⟩
    have := hys 0 u hu
    rw [hB]
    rcases Nat.lt_or_ge vb w.heap.size with h | h
    · exact h
    · simp [World.cell?, Array.getElem?_eq_none h] at this
  have hcx : ∀ q u, xs[q]? = some u → cur[q]? = some u := fun q u hq => by
    rw [← ht, List.getElem?_take] at hq
    split at hq
    · rwa [Array.getElem?_toList] at hq
    · cases hq
  have hold : (Builtin.firstCells i0.size i (.slice (some ⟨g, 0, none⟩) i cap)).run Try.prog w.drew = .ok (xs.take (i * 9)).toArray w.drew := by
    rw [hz1]
    exact run_firstCells_some w.drew 9 i ⟨g, 0, none⟩ i cap (xs.take (i * 9)) (by rw [List.length_take]; omega) (fun q u hq => by
      rw [Addr.add_lit, cell_row (w := w.drew) hh, Nat.zero_add]
      rw [List.getElem?_take] at hq
      split at hq
      · exact hcx q u hq
      · cases hq)
  obtain ⟨G, hG⟩ : ∃ G, G = grownCap w (i + k) cap 46 := ⟨_, rfl⟩
  have hik : i + k = m := by omega
  have hGm : m ≤ G := by rw [hG, hik]; exact grownCap_ge w _ _ _
  have hG63 : G ≤ 9223372036854775807 := by
    have := grownCap_le_maxLen w (i + k) cap 46 (by unfold maxLen; omega)
    rw [← hG] at this
    unfold maxLen at this
    omega
  obtain ⟨C0, hC0⟩ : ∃ C0 : Array Value, C0 = (xs.take (i * 9)).toArray ++ Builtin.zeroCells (Value.agg #[.int .i64 0, .int .i64 0, .int .i64 0, .int .i64 0, .int .i64 0, .int .i64 0, .int .i64 0, .int .i64 0, .slice none 0 0]).cells k ++ Builtin.zeroCells (Value.agg #[.int .i64 0, .int .i64 0, .int .i64 0, .int .i64 0, .int .i64 0, .int .i64 0, .int .i64 0, .int .i64 0, .slice none 0 0]).cells (G - m) := ⟨_, rfl⟩
  have hz3 : ∀ ty, (Builtin.append_ #[22, 3] ty #[.slice (some ⟨g, 0, none⟩) i cap, .int .i64 ((m : Int) - (i : Int))]).run Try.prog w = .ok (.slice (some ⟨B, 0, none⟩) m G) (w.drew.alloc (.cells C0 46)) := fun ty => by
    have hz := Lib.run_append_grow_zeros (P := Try.prog) w 22 3 ty 46 i0 _ .i64 .i64 Try.underlying22 Try.underlying3 hi0 hz0 (some ⟨g, 0, none⟩) i cap (xs.take (i * 9)) hold k (by omega) (by omega) (by omega) (by omega) (by rw [hz2]; omega) (by rw [hz2]; exact growslice_fits (by omega) (by omega))
    rw [← hG, hik, ← hB] at hz
    rw [show (m : Int) - (i : Int) = (k : Int) by omega, hz, hC0]
  have hC0s : C0.size = G * 9 := by
    rw [hC0]
    simp [Builtin.zeroCells, Value.cells]
    omega
  obtain ⟨W0, hW0⟩ : ∃ W0, W0 = w.drew.alloc (.cells C0 46) := ⟨_, rfl⟩
  rw [← hW0] at hz3
  have hh0 : W0.heap[B]? = some (.cells C0 46 (0, 0)) := by rw [hW0, hB]; exact alloc_at w.drew _
  have hold0 : ∀ b, b < B → W0.heap[b]? = w.heap[b]? := fun b hb => by
    rw [hW0]
    simp only [World.alloc, Array.getElem?_push]
    rw [if_neg (by show ¬ b = w.heap.size; omega)]
    rfl
  obtain ⟨C1, hC1⟩ : ∃ C1 : Array Value, C1 = (setAt C0.toList (i * 9) ys).toArray := ⟨_, rfl⟩
  have hC1s : C1.size = G * 9 := by rw [hC1, List.size_toArray, setAt_length (by simp; omega)]; simpa using hC0s
  obtain ⟨W1, hW1⟩ : ∃ W1, W1 = W0.setRow B C1 := ⟨_, rfl⟩
  have hcp1 : ∀ ty dc, (Builtin.copy_ #[22, 22] ty #[.slice (some ⟨B, i * 9, none⟩) (m - i) dc, .slice (some ⟨vb, vo, none⟩) 1 vc]).run Try.prog W0 = .ok (goInt (Nat.min 1 (m - i))) W1 := fun ty dc => by
    rw [hW1, hC1]
    exact run_copy_own (e := 46) (sz := 9) ys Try.underlying22 hi0 hz1 (by rw [hyl, show Nat.min 1 (m - i) = 1 from (by simp only [Nat.min_def]; split <;> omega)]) (fun q u hq => by
        rw [Addr.add_lit]
        rw [← hys q u hq]
        exact World.cell?_of_block (a := ⟨vb, vo + q, none⟩) (hold0 vb hvB)) hy1 hh0 (by rw [hyl, hC0s]; omega) ty
  have hh1 : W1.heap[B]? = some (.cells C1 46 (0, 0)) := by rw [hW1]; exact setRow_heap _ B _ _ _ _ hh0
  have hold1 : ∀ b, b < B → W1.heap[b]? = w.heap[b]? := fun b hb => by rw [hW1, setRow_other _ _ _ _ (by omega)]; exact hold0 b hb
  have hdl : (xs.drop (i * 9)).length = (n - i) * 9 := by rw [List.length_drop, hl]; omega
  have hcp2 : ∀ ty dc sc, (Builtin.copy_ #[22, 22] ty #[.slice (some ⟨B, j * 9, none⟩) (m - j) dc, .slice (some ⟨g, i * 9, none⟩) (n - i) sc]).run Try.prog W1.drew = .ok (goInt (Nat.min (n - i) (m - j))) (W1.drew.setRow B (setAt C1.toList (j * 9) (xs.drop (i * 9))).toArray) := fun ty dc sc => by
    exact run_copy_own (e := 46) (sz := 9) (xs.drop (i * 9)) Try.underlying22 hi0 hz1 (by rw [hdl, show Nat.min (n - i) (m - j) = n - i from (by simp only [Nat.min_def]; split <;> omega)]) (fun q u hq => by
        rw [Addr.add_lit, cell_row (w := W1.drew) (show W1.heap[g]? = _ from (hold1 g hgB).trans hh)]
        rw [List.getElem?_drop] at hq
        have := hcx _ u hq
        rw [← this]) (fun u hu => hx1 u (List.mem_of_mem_drop hu)) (w := W1.drew) hh1 (by rw [hdl, hC1s]; omega) ty
  have hR : Hid (∀ e, e = Ending.returned (.slice (some ⟨B, 0, none⟩) m G) → InsNew w 46 g 9 n (xs.take (i * 9) ++ ys ++ xs.drop (i * 9)) e (W1.drew.setRow B (setAt C1.toList (j * 9) (xs.drop (i * 9))).toArray)) := by
    intro e he
    refine ⟨G, setAt C1.toList (j * 9) (xs.drop (i * 9)), by omega, hG63, ?_, ?_, by rw [he, hB, hmm], ?_, ?_⟩
    · rw [setAt_length (by rw [hdl]; simp; omega)]; simpa using hC1s
    · rw [hC1, List.toList_toArray]
      have e1 : C0.toList.take (i * 9) = xs.take (i * 9) := by
        rw [hC0]
        simp only [Array.toList_append, List.append_assoc]
        rw [List.take_append_of_le_length (by simp; omega), List.take_of_length_le (by rw [List.length_take]; omega)]
      rw [show (n + 1) * 9 = j * 9 + (xs.drop (i * 9)).length by rw [hdl]; omega]
      unfold setAt
      rw [List.take_append_of_le_length (by simp; omega), List.take_of_length_le (by simp; omega)]
      congr 1
      rw [e1, List.take_append_of_le_length (by simp; omega), List.take_of_length_le (by simp; omega)]
    · refine ⟨?_, ?_, ?_, ?_, fun b hb _ => ?_⟩
      · rw [hW1, hW0]; rfl
      · rw [hW1, hW0]; rfl
      · rw [hW1, hW0]; rfl
      · rw [hW1, hW0]; simp [World.setRow]
      · rw [setRow_other _ _ _ _ (by omega)]; exact hold1 b (by omega)
    · rw [← hB]
      exact setRow_heap W1.drew B _ _ _ _ hh1
  have hw1 : IntKind.i64.wrap ((i : Int) + 1) = (j : Int) := by rw [IntKind.wrap_i64]; omega
  have hw2 : IntKind.i64.wrap ((n : Int) + 1) = (m : Int) := by rw [IntKind.wrap_i64]; omega
  have hw3 : IntKind.i64.wrap ((m : Int) - (i : Int)) = (m : Int) - (i : Int) := by rw [IntKind.wrap_i64]; omega
  have hz2' : ¬ ((i : Int) = (n : Int)) := by omega
  have hb1 : i ≤ n := by omega
  have hb2 : ¬ (G = j) := by omega
  have hb3 : ¬ (G = i) := by omega
  have hb4 : j ≤ m := by omega
  have hb5 : i ≤ m := by omega
  have hb6 : i ≤ cap := by omega
  have hb7 : (cap : Int) < (m : Int) := by omega
  have hb8 : ¬ (cap = i) := by omega
  have hb9 : j ≤ G := by omega
  have hb10 : i ≤ G := by omega
  clear hold hC0s hC1s hdl hyl hl hs ht hh hh0 hh1 hold0 hold1 hcx hik hz0 hz1 hz2 hG hW0 hW1 hC0 hC1 hk hj hmm hB hroom
  go_enter Try.func81, Try.ntmps81
  go_wp2_with (at_builtin; first | refine wpList_appz_r _ rfl _ _ 22 3 rfl _ _ rfl rfl (hz3 _) ?_ | refine wpList_copy_r _ rfl _ _ 22 22 rfl _ _ rfl rfl (hcp1 _ _) ?_)
  go_region_law_o (refine step_copy_r rfl _ _ 22 22 rfl _ _ (by simp [Act.eval, Act.put]) (by simp [Act.eval, Act.put]) (hcp2 _ _ _) ?_)
  go_wp2_with fail
  go_ret
  exact hR.out _ rfl
/-- slices.Insert of one. -/
theorem insert_Pool (l : List Pol) (x : Pol) (i g : Nat) (hi : i ≤ l.length) (hl : l.length ≤ 1000000) :
    MSpec Try.prog 81 [.own 0 g, .d (.v (.int .i64 i)), .d (.sl 9 [encPol x])] [.row 46 9 g (dRows (l.map encPol))] (.own 0 (g + 1)) [.row 46 9 (g + 1) (dRows ((l.take i ++ x :: l.drop i).map encPol))] := by
  rcases Nat.lt_or_ge i l.length with hlt | hge
  · have h1 := ms_ins (P := Try.prog) (f := 81) (E := 46) (sz := 9) (g := g) (i := i) (rows := l.map encPol) (x := encPol x) (fnok_of Try.func81 (by kernel_rfl) rfl) (by omega) (by simpa using hlt) (by
      simp only [List.length_map]
      intro w gb cap vb vo vc cur xs ys q1 q2 q3 q4 q5 q6 q7 q8 q9 q10 q11
      obtain ⟨u, hu⟩ : ∃ u, ys[0]? = some u := ⟨_, List.getElem?_eq_getElem (by omega)⟩
      obtain ⟨sA, hsa, hA0⟩ := cells_shape (q11 0 u hu)
      unfold maxLen at q2
      by_cases hroom : l.length + 1 ≤ cap
      · refine (insertB2_Pool gb cap l.length i vb vo vc cur xs ys w q1 (by omega) q4 q5 q6 q7 hlt hroom q8 q9 q10 q11 sA hsa hA0).mono ?_
        rintro e w' ⟨rfl, rfl⟩
        obtain ⟨t1, t2⟩ := ins_take (sz := 9) (n := l.length) (i := i) (cur := cur.toList) (xs := xs) (ys := ys) (by omega) hlt (by simp; omega) q5 q8 q6
        have hg1 : (w.drew.setRow gb (setAt cur.toList ((i + 1) * 9) (xs.drop (i * 9))).toArray).heap[gb]? = some (.cells (setAt cur.toList ((i + 1) * 9) (xs.drop (i * 9))).toArray 46 (0, 0)) := setRow_heap _ gb _ _ _ _ q1
        refine ⟨_, rfl, .row gb (l.length + 1) cap _ _ (by omega) (setRow_heap _ gb _ _ _ _ hg1) hroom q2 (by rw [List.size_toArray, t2]; simpa using q4) (by rw [← t1, List.length_take, t2]; simp; omega) (by rw [List.toList_toArray]; exact t1), ⟨rfl, rfl, rfl, by simp [World.setRow], fun b hb hne => ?_⟩, .inl (ownB_pos (by omega))⟩
        have hbg : b ≠ gb := fun e => hne (by rw [e])
        rw [setRow_other _ _ _ _ hbg, setRow_other _ _ _ _ hbg]; rfl
      · refine (insertB1_Pool gb cap l.length i vb vo vc cur xs ys w q1 (by omega) q3 q4 q5 q6 q7 hlt hroom q8 q9 q11).mono ?_
        rintro e w' ⟨G, R, h1, h2, h3, h4, rfl, h6, h7⟩
        exact ⟨_, rfl, .row w.heap.size (l.length + 1) G R.toArray _ (by omega) h7 h1 h2 (by simpa using h3) (by rw [← h4, List.length_take, h3]; omega) (by simpa using h4), h6, .inr fun b hb => by rw [ownB_pos (by omega)] at hb; cases hb; exact Nat.le_refl _⟩)
    rw [List.map_append, List.map_take, List.map_cons, List.map_drop]
    exact h1
  · obtain rfl : i = l.length := by omega
    rw [List.take_length, List.drop_length]
    by_cases h0 : l = []
    · subst h0
      refine ms_i tab_ok mixed Try.func81 rfl Try.ntmps81 Try.results81 (by kernel_rfl) (by simp) (by simp [belowL, belowP]) (by simp [belowH, belowC, belowL, belowP, belowL_d, belowR_d]) ?_
      repeat' (first | (with_reducible refine And.intro ?_ ?_) | (with_reducible refine gK_i (fun _ => ?_) (fun _ => ?_)) | (with_reducible refine condS_i (fun _ => ?_) (fun _ => ?_)) | (with_reducible refine drw_i (by kernel_rfl)) | simp -dsimp only [go_sem, ↓reduceIte, reduceCtorEq, Nat.reduceAdd, Nat.reduceMul, Nat.reduceSub, Nat.reduceLeDiff, Nat.reduceLT, Nat.reduceEqDiff, Int.reduceLE, Int.reduceLT, Int.reduceToNat, Int.reduceBEq, Int.reduceBNe, Int.reduceEq, Int.reduceAdd, Int.reduceSub, Int.reduceMul, Int.reduceNeg, Int.cast_ofNat_Int, *, encPol, dRows, Option.isSome_some] | ((with_reducible refine opK_c ?_); simp -dsimp only [go_sem, ↓reduceIte, reduceCtorEq, Nat.reduceAdd, Nat.reduceMul, Nat.reduceSub, Nat.reduceLeDiff, Nat.reduceLT, Nat.reduceEqDiff, Int.reduceLE, Int.reduceLT, Int.reduceToNat, Int.reduceBEq, Int.reduceBNe, Int.reduceEq, Int.reduceAdd, Int.reduceSub, Int.reduceMul, Int.reduceNeg, Int.cast_ofNat_Int, encPol, dRows, Option.isSome_some]; first | refine callK_r (by first | assumption | fail) (by first | exact .inl rfl | exact .inr rfl) ?_ | refine callK_i (by assumption) (by repeat (first | exact DLe.refl _ | exact DLe.nil _ | (refine DLe.tup ?_) | (refine DLe.agg ?_ rfl) | exact trivial | (refine And.intro ?_ ?_))) (by first | exact .inl rfl | exact .inr rfl) ?_) | omega | exact decide_eq_true (by omega) | exact DLe.refl _)
      all_goals exact weak_eq rfl rfl
    · have hne : ¬ dRows (l.map encPol) = [] := by simpa [dRows] using h0
      refine ms_i tab_ok mixed Try.func81 rfl Try.ntmps81 Try.results81 (by kernel_rfl) (by simp) (by simp [belowL, belowP]) (by simp [belowH, belowC, belowL, belowP, belowL_d, belowR_d]) ?_
      repeat' (first | (with_reducible refine And.intro ?_ ?_) | (with_reducible refine gK_i (fun _ => ?_) (fun _ => ?_)) | (with_reducible refine condS_i (fun _ => ?_) (fun _ => ?_)) | (with_reducible refine drw_i (by kernel_rfl)) | simp -dsimp only [go_sem, ↓reduceIte, reduceCtorEq, Nat.reduceAdd, Nat.reduceMul, Nat.reduceSub, Nat.reduceLeDiff, Nat.reduceLT, Nat.reduceEqDiff, Int.reduceLE, Int.reduceLT, Int.reduceToNat, Int.reduceBEq, Int.reduceBNe, Int.reduceEq, Int.reduceAdd, Int.reduceSub, Int.reduceMul, Int.reduceNeg, Int.cast_ofNat_Int, *, encPol, Option.isSome_some] | ((with_reducible refine opK_c ?_); simp -dsimp only [go_sem, ↓reduceIte, reduceCtorEq, Nat.reduceAdd, Nat.reduceMul, Nat.reduceSub, Nat.reduceLeDiff, Nat.reduceLT, Nat.reduceEqDiff, Int.reduceLE, Int.reduceLT, Int.reduceToNat, Int.reduceBEq, Int.reduceBNe, Int.reduceEq, Int.reduceAdd, Int.reduceSub, Int.reduceMul, Int.reduceNeg, Int.cast_ofNat_Int, encPol, Option.isSome_some]; first | refine callK_r (by first | assumption | fail) (by first | exact .inl rfl | exact .inr rfl) ?_ | refine callK_i (by assumption) (by repeat (first | exact DLe.refl _ | exact DLe.nil _ | (refine DLe.tup ?_) | (refine DLe.agg ?_ rfl) | exact trivial | (refine And.intro ?_ ?_))) (by first | exact .inl rfl | exact .inr rfl) ?_) | omega | exact decide_eq_true (by omega) | exact DLe.refl _)
      all_goals exact weak_eq rfl (by simp [encPol, dRows])
end Go.Proofs.Ytbeocackphfijaa
namespace Go.Proofs.Ytbeocackphfijaa
open Go Go.RowKit
set_option maxRecDepth 100000 in
theorem ownD_m (b : Bok) (h8 : b.pools.length ≤ 8) (h32 : ∀ p ∈ b.pools, p.leases.length ≤ 32) :
    MSpec Try.prog 76 [.d (.agg (encB b))] [] (.ptr 1 0) [.gone, .box 24 [.d (.v (.int .i64 b.tick)), .own 2 b.pools.length], .row 46 9 b.pools.length (dRows (b.pools.map encPol))] := by
  refine ms_i tab_ok mixed Try.func76 rfl Try.ntmps76 Try.results76 (by kernel_rfl) (by simp) (by simp [belowL, belowP]) (by simp [belowH, belowC, belowL, belowP, belowL_d, belowR_d]) ?_
  repeat' (first | (with_reducible refine And.intro ?_ ?_) | (with_reducible refine gK_i (fun _ => ?_) (fun _ => ?_)) | (with_reducible refine condS_i (fun _ => ?_) (fun _ => ?_)) | (with_reducible refine drw_i (by kernel_rfl)) | simp -dsimp only [go_sem, ↓reduceIte, reduceCtorEq, Nat.reduceAdd, Nat.reduceMul, Nat.reduceSub, Nat.reduceLeDiff, Nat.reduceLT, Nat.reduceEqDiff, Int.reduceLE, Int.reduceLT, Int.reduceToNat, Int.reduceBEq, Int.reduceBNe, Int.reduceEq, Int.reduceAdd, Int.reduceSub, Int.reduceMul, Int.reduceNeg, Int.cast_ofNat_Int, *, encB] | ((with_reducible refine opK_c ?_); simp -dsimp only [go_sem, ↓reduceIte, reduceCtorEq, Nat.reduceAdd, Nat.reduceMul, Nat.reduceSub, Nat.reduceLeDiff, Nat.reduceLT, Nat.reduceEqDiff, Int.reduceLE, Int.reduceLT, Int.reduceToNat, Int.reduceBEq, Int.reduceBNe, Int.reduceEq, Int.reduceAdd, Int.reduceSub, Int.reduceMul, Int.reduceNeg, Int.cast_ofNat_Int, encB]; first | refine callK_r (by first | assumption | fail) (by first | exact .inl rfl | exact .inr rfl) ?_ | refine callK_i (by assumption) (by repeat (first | exact DLe.refl _ | exact DLe.nil _ | (refine DLe.tup ?_) | (refine DLe.agg ?_ rfl) | exact trivial | (refine And.intro ?_ ?_))) (by first | exact .inl rfl | exact .inr rfl) ?_) | omega | exact decide_eq_true (by omega) | exact DLe.refl _)
  refine loopL tab_ok mixed b.pools (fun _ => True) (fun k => [(13, .d (.v (.int .i64 k))), (12, .d (.v (.int .i64 b.pools.length))), (11, .d (.sl 9 (b.pools.map encPol))), (3, .ptr 1 0), (2, .d (.v (.pointer none)))])
    (fun k => [.gone, .box 24 [.d (.v (.int .i64 b.tick)), .own 2 k], .row 46 9 k (dRows ((b.pools.take k).map encPol))]) trivial ?_ ?_ ?_
  · refine (weak_gone 0 (by simp)).trans ((weak_adopt_box (by simp) 1 24 [.d (.v (.int .i64 b.tick)), .d (.v (.slice none 0 0))] 1 46 9 rfl rfl rfl).trans ?_)
    exact weak_forget _ (by simp) (by (try simp only [encB]); rfl) (by (repeat' (first | exact trivial | (refine ⟨rfl, ?_⟩)))) (by first | rfl | simp only [belowH, belowE, belowC, belowL, belowR, belowP, belowL_d, belowR_d, List.length_cons, List.length_nil, Nat.reduceAdd, Nat.reduceLT, decide_true, Bool.and_self, Bool.and_true]) (by first | rfl | simp only [belowH, belowE, belowC, belowL, belowR, belowP, belowL_d, belowR_d, List.length_cons, List.length_nil, Nat.reduceAdd, Nat.reduceLT, decide_true, Bool.and_self, Bool.and_true])
  · intro k p hp hk _ C hC
    have hkI : (k : Int) < (b.pools.length : Int) := by omega
    have hwr : IntKind.i64.wrap ((k : Int) + 1) = ((k + 1 : Nat) : Int) := by rw [IntKind.wrap_i64]; omega
    have hpl := h32 p (List.mem_of_getElem? hp)
    have hb1 : k + 1 ≤ 100 := by omega
    have hlt : (List.take k b.pools).length = k := by rw [List.length_take]; omega
    repeat' (first | (with_reducible refine And.intro ?_ ?_) | (with_reducible refine gK_i (fun _ => ?_) (fun _ => ?_)) | (with_reducible refine condS_i (fun _ => ?_) (fun _ => ?_)) | (with_reducible refine drw_i (by kernel_rfl)) | simp -dsimp only [go_sem, ↓reduceIte, reduceCtorEq, Nat.reduceAdd, Nat.reduceMul, Nat.reduceSub, Nat.reduceLeDiff, Nat.reduceLT, Nat.reduceEqDiff, Int.reduceLE, Int.reduceLT, Int.reduceToNat, Int.reduceBEq, Int.reduceBNe, Int.reduceEq, Int.reduceAdd, Int.reduceSub, Int.reduceMul, Int.reduceNeg, Int.cast_ofNat_Int, *, encB, encPol, hkI, hwr, hp] | ((with_reducible refine opK_c ?_); simp -dsimp only [go_sem, ↓reduceIte, reduceCtorEq, Nat.reduceAdd, Nat.reduceMul, Nat.reduceSub, Nat.reduceLeDiff, Nat.reduceLT, Nat.reduceEqDiff, Int.reduceLE, Int.reduceLT, Int.reduceToNat, Int.reduceBEq, Int.reduceBNe, Int.reduceEq, Int.reduceAdd, Int.reduceSub, Int.reduceMul, Int.reduceNeg, Int.cast_ofNat_Int, encB, encPol, hkI, hwr, hp]; first | refine callK_r (by first | assumption | fail) (by first | exact .inl rfl | exact .inr rfl) ?_ | (refine callK_i (by assumption) ?_ ?_ ?_; (solve | (repeat (first | exact DLe.refl _ | exact DLe.nil _ | (refine DLe.tup ?_) | (refine DLe.agg ?_ rfl) | exact trivial | (refine And.intro ?_ ?_)))); (solve | exact .inl rfl | exact .inr rfl))) | (refine opK_M [] (clone_Lease encL p.leases (by omega)) ?_ ?_ ?_ ?_ ?_ ?_; (solve | rfl | simp only [go_sem, ↓reduceIte, reduceCtorEq, Nat.reduceAdd, Nat.reduceMul, Nat.reduceSub, Nat.reduceLeDiff, Nat.reduceLT, Nat.reduceEqDiff, Int.reduceLE, Int.reduceLT, Int.reduceToNat, Int.reduceBEq, Int.reduceBNe, Int.reduceEq, Int.reduceAdd, Int.reduceSub, Int.reduceMul, Int.reduceNeg, Int.cast_ofNat_Int, encPol]); (solve | rfl); (solve | decide); (solve | simp); (solve | simp only [go_sem, ↓reduceIte, reduceCtorEq, Nat.reduceAdd, Nat.reduceMul, Nat.reduceSub, Nat.reduceLeDiff, Nat.reduceLT, Nat.reduceEqDiff, Int.reduceLE, Int.reduceLT, Int.reduceToNat, Int.reduceBEq, Int.reduceBNe, Int.reduceEq, Int.reduceAdd, Int.reduceSub, Int.reduceMul, Int.reduceNeg, Int.cast_ofNat_Int, lentOK, encPol])) | omega | exact decide_eq_true (by omega) | exact DLe.refl _)
    refine hC _ _ trivial ((weak_freeze 4 1 50 5 (p.leases.map encL) rfl).trans ?_)
    simp only [fzE, fz, fzL, fzH, fzC, fzR, fzR_app, fzR_d, fzL_d, List.map_cons, List.map_nil, Nat.reduceAdd, Nat.reduceEqDiff, reduceIte, and_true, true_and, and_self, and_false, false_and, Nat.zero_add, Nat.add_zero, reduceCtorEq]
    exact weak_forget _ (by simp) (by rw [take_snoc hp, List.map_append, List.map_cons, List.map_nil, ← dRows_app]; rfl) (by (repeat' (first | exact trivial | (refine ⟨rfl, ?_⟩)))) (by first | rfl | simp only [belowH, belowE, belowC, belowL, belowR, belowP, belowL_d, belowR_d, List.length_cons, List.length_nil, Nat.reduceAdd, Nat.reduceLT, decide_true, Bool.and_self, Bool.and_true]) (by first | rfl | simp only [belowH, belowE, belowC, belowL, belowR, belowP, belowL_d, belowR_d, List.length_cons, List.length_nil, Nat.reduceAdd, Nat.reduceLT, decide_true, Bool.and_self, Bool.and_true])
  · intro _ C
    repeat' (first | (with_reducible refine And.intro ?_ ?_) | (with_reducible refine gK_i (fun _ => ?_) (fun _ => ?_)) | (with_reducible refine condS_i (fun _ => ?_) (fun _ => ?_)) | (with_reducible refine drw_i (by kernel_rfl)) | simp -dsimp only [go_sem, ↓reduceIte, reduceCtorEq, Nat.reduceAdd, Nat.reduceMul, Nat.reduceSub, Nat.reduceLeDiff, Nat.reduceLT, Nat.reduceEqDiff, Int.reduceLE, Int.reduceLT, Int.reduceToNat, Int.reduceBEq, Int.reduceBNe, Int.reduceEq, Int.reduceAdd, Int.reduceSub, Int.reduceMul, Int.reduceNeg, Int.cast_ofNat_Int, *, encB, Int.lt_irrefl] | ((with_reducible refine opK_c ?_); simp -dsimp only [go_sem, ↓reduceIte, reduceCtorEq, Nat.reduceAdd, Nat.reduceMul, Nat.reduceSub, Nat.reduceLeDiff, Nat.reduceLT, Nat.reduceEqDiff, Int.reduceLE, Int.reduceLT, Int.reduceToNat, Int.reduceBEq, Int.reduceBNe, Int.reduceEq, Int.reduceAdd, Int.reduceSub, Int.reduceMul, Int.reduceNeg, Int.cast_ofNat_Int, encB, Int.lt_irrefl]; first | refine callK_r (by first | assumption | fail) (by first | exact .inl rfl | exact .inr rfl) ?_ | (refine callK_i (by assumption) ?_ ?_ ?_; (solve | (repeat (first | exact DLe.refl _ | exact DLe.nil _ | (refine DLe.tup ?_) | (refine DLe.agg ?_ rfl) | exact trivial | (refine And.intro ?_ ?_)))); (solve | exact .inl rfl | exact .inr rfl))) | fail | omega | exact decide_eq_true (by omega) | exact DLe.refl _)
    rw [List.take_length]
    exact weak_eq rfl rfl
/-- A pool's row, with a slice of one's own for its leases. -/
def polRow (p : Pol) (v : PV) : List PV := [.d (.v (.int .i64 p.id)), .d (.v (.int .i64 p.up)), .d (.v (.int .i64 p.root.at_)), .d (.v (.int .i64 p.root.len)), .d (.v (.int .i64 p.rule.min)), .d (.v (.int .i64 p.rule.max)), .d (.v (.int .i64 p.rule.usual)), .d (.v (.int .i64 p.rule.cool)), v]
/-- Pools, one of which has its leases for itself. -/
def zipR (pre : List Pol) (r : List PV) (post : List Pol) : List (List PV) := dRows (pre.map encPol) ++ r :: dRows (post.map encPol)
theorem zipR_len (pre : List Pol) (r : List PV) (post : List Pol) : (zipR pre r post).length = pre.length + 1 + post.length := by
  simp [zipR, dRows_len]; omega
theorem belowR_app (n : Nat) : ∀ (l m : List (List PV)), belowR n (l ++ m) = (belowR n l && belowR n m)
  | [], m => rfl
  | r :: l, m => by simp only [List.cons_append, belowR, belowR_app n l m, Bool.and_assoc]
theorem belowR_zip (n : Nat) (pre : List Pol) (r : List PV) (post : List Pol) : belowR n (zipR pre r post) = belowL n r := by
  simp only [zipR, belowR_app, belowR, belowR_d, Bool.true_and, Bool.and_true]
theorem fzR_zip (k g : Nat) (d : D) (pre : List Pol) (r : List PV) (post : List Pol) : fzR k g d (zipR pre r post) = zipR pre (fzL k g d r) post := by
  simp only [zipR, fzR_app, fzR, fzR_d]
theorem zipR_snoc (pre : List Pol) (r : List PV) (post : List Pol) (q : Pol) : zipR pre r post ++ [(encPol q).map .d] = zipR pre r (post ++ [q]) := by
  simp [zipR, dRows]
set_option maxRecDepth 100000 in
set_option maxHeartbeats 1000000 in
theorem ownZ_m (b : Bok) (pre post : List Pol) (p : Pol) (hb : b.pools = pre ++ p :: post) (h8 : b.pools.length ≤ 8) (h32 : ∀ p ∈ b.pools, p.leases.length ≤ 32) :
    MSpec Try.prog 76 [.d (.agg (encB b))] [] (.ptr 1 0) [.gone, .box 24 [.d (.v (.int .i64 b.tick)), .own 2 b.pools.length], .row 46 9 b.pools.length (zipR pre (polRow p (.own 4 1)) post), .gone, .row 50 5 1 (dRows (p.leases.map encL))] := by
  have hlen : b.pools.length = pre.length + 1 + post.length := by rw [hb]; simp; omega
  have hL := Lib.hid hb
  have hlen2 := Lib.hid hlen
  clear hb hlen
  refine ms_i tab_ok mixed Try.func76 rfl Try.ntmps76 Try.results76 (by kernel_rfl) (by simp) (by simp [belowL, belowP]) (by simp [belowH, belowC, belowL, belowP, belowL_d, belowR_d]) ?_
  repeat' (first | (with_reducible refine And.intro ?_ ?_) | (with_reducible refine gK_i (fun _ => ?_) (fun _ => ?_)) | (with_reducible refine condS_i (fun _ => ?_) (fun _ => ?_)) | (with_reducible refine drw_i (by kernel_rfl)) | simp -dsimp only [go_sem, ↓reduceIte, reduceCtorEq, Nat.reduceAdd, Nat.reduceMul, Nat.reduceSub, Nat.reduceLeDiff, Nat.reduceLT, Nat.reduceEqDiff, Int.reduceLE, Int.reduceLT, Int.reduceToNat, Int.reduceBEq, Int.reduceBNe, Int.reduceEq, Int.reduceAdd, Int.reduceSub, Int.reduceMul, Int.reduceNeg, Int.cast_ofNat_Int, *, encB] | ((with_reducible refine opK_c ?_); simp -dsimp only [go_sem, ↓reduceIte, reduceCtorEq, Nat.reduceAdd, Nat.reduceMul, Nat.reduceSub, Nat.reduceLeDiff, Nat.reduceLT, Nat.reduceEqDiff, Int.reduceLE, Int.reduceLT, Int.reduceToNat, Int.reduceBEq, Int.reduceBNe, Int.reduceEq, Int.reduceAdd, Int.reduceSub, Int.reduceMul, Int.reduceNeg, Int.cast_ofNat_Int, encB]; first | refine callK_r (by first | assumption | fail) (by first | exact .inl rfl | exact .inr rfl) ?_ | refine callK_i (by assumption) (by repeat (first | exact DLe.refl _ | exact DLe.nil _ | (refine DLe.tup ?_) | (refine DLe.agg ?_ rfl) | exact trivial | (refine And.intro ?_ ?_))) (by first | exact .inl rfl | exact .inr rfl) ?_) | omega | exact decide_eq_true (by omega) | exact DLe.refl _)
  refine loopG tab_ok mixed (fun m e h => (∃ k, k ≤ pre.length ∧ m = b.pools.length - k ∧ e = [(13, .d (.v (.int .i64 k))), (12, .d (.v (.int .i64 b.pools.length))), (11, .d (.sl 9 (b.pools.map encPol))), (3, .ptr 1 0), (2, .d (.v (.pointer none)))] ∧
      h = [.gone, .box 24 [.d (.v (.int .i64 b.tick)), .own 2 k], .row 46 9 k (dRows ((pre.take k).map encPol))]) ∨
    ∃ k j, k = pre.length + 1 + j ∧ j ≤ post.length ∧ m = b.pools.length - k ∧ e = [(13, .d (.v (.int .i64 k))), (12, .d (.v (.int .i64 b.pools.length))), (11, .d (.sl 9 (b.pools.map encPol))), (3, .ptr 1 0), (2, .d (.v (.pointer none)))] ∧
      h = [.gone, .box 24 [.d (.v (.int .i64 b.tick)), .own 2 k], .row 46 9 k (zipR pre (polRow p (.own 4 1)) (post.take j)), .gone, .row 50 5 1 (dRows (p.leases.map encL))]) _ _ _ (.inl ⟨0, Nat.zero_le _, rfl, rfl, rfl⟩) ?_ ?_
  · refine (weak_gone 0 (by simp)).trans ((weak_adopt_box (by simp) 1 24 [.d (.v (.int .i64 b.tick)), .d (.v (.slice none 0 0))] 1 46 9 rfl rfl rfl).trans ?_)
    exact weak_forget _ (by simp) (by (try simp only [encB]); rfl) (by (repeat' (first | exact trivial | (refine ⟨rfl, ?_⟩)))) (by first | rfl | simp only [belowH, belowE, belowC, belowL, belowR, belowP, belowL_d, belowR_d, List.length_cons, List.length_nil, Nat.reduceAdd, Nat.reduceLT, decide_true, Bool.and_self, Bool.and_true]) (by first | rfl | simp only [belowH, belowE, belowC, belowL, belowR, belowP, belowL_d, belowR_d, List.length_cons, List.length_nil, Nat.reduceAdd, Nat.reduceLT, decide_true, Bool.and_self, Bool.and_true])
  · rintro m e h (⟨k, hk, hm, rfl, rfl⟩ | ⟨k, j, hkj, hj, hm, rfl, rfl⟩) C hC
    · have hkI : (k : Int) < (b.pools.length : Int) := by have := hlen2.out; omega
      have hwr : IntKind.i64.wrap ((k : Int) + 1) = ((k + 1 : Nat) : Int) := by rw [IntKind.wrap_i64]; omega
      have hb1 : k + 1 ≤ 100 := by have := hlen2.out; omega
      have hlt : (List.take k pre).length = k := by rw [List.length_take]; omega
      have hm := Lib.hid hm
      by_cases hkp : k < pre.length
      · obtain ⟨q, hq⟩ : ∃ q, pre[k]? = some q := ⟨_, List.getElem?_eq_getElem hkp⟩
        have hq2 : b.pools[k]? = some q := by rw [hL.out, List.getElem?_append_left hkp]; exact hq
        have hpl := h32 q (List.mem_of_getElem? hq2)
        have hq := Lib.hid hq
        repeat' (first | (with_reducible refine And.intro ?_ ?_) | (with_reducible refine gK_i (fun _ => ?_) (fun _ => ?_)) | (with_reducible refine condS_i (fun _ => ?_) (fun _ => ?_)) | (with_reducible refine drw_i (by kernel_rfl)) | simp -dsimp only [go_sem, ↓reduceIte, reduceCtorEq, Nat.reduceAdd, Nat.reduceMul, Nat.reduceSub, Nat.reduceLeDiff, Nat.reduceLT, Nat.reduceEqDiff, Int.reduceLE, Int.reduceLT, Int.reduceToNat, Int.reduceBEq, Int.reduceBNe, Int.reduceEq, Int.reduceAdd, Int.reduceSub, Int.reduceMul, Int.reduceNeg, Int.cast_ofNat_Int, *, encB, encPol, hkI, hwr, hq2] | ((with_reducible refine opK_c ?_); simp -dsimp only [go_sem, ↓reduceIte, reduceCtorEq, Nat.reduceAdd, Nat.reduceMul, Nat.reduceSub, Nat.reduceLeDiff, Nat.reduceLT, Nat.reduceEqDiff, Int.reduceLE, Int.reduceLT, Int.reduceToNat, Int.reduceBEq, Int.reduceBNe, Int.reduceEq, Int.reduceAdd, Int.reduceSub, Int.reduceMul, Int.reduceNeg, Int.cast_ofNat_Int, encB, encPol, hkI, hwr, hq2]; first | refine callK_r (by first | assumption | fail) (by first | exact .inl rfl | exact .inr rfl) ?_ | (refine callK_i (by assumption) ?_ ?_ ?_; (solve | (repeat (first | exact DLe.refl _ | exact DLe.nil _ | (refine DLe.tup ?_) | (refine DLe.agg ?_ rfl) | exact trivial | (refine And.intro ?_ ?_)))); (solve | exact .inl rfl | exact .inr rfl))) | (refine opK_M [] (clone_Lease encL q.leases (by omega)) ?_ ?_ ?_ ?_ ?_ ?_; (solve | rfl | simp only [go_sem, ↓reduceIte, reduceCtorEq, Nat.reduceAdd, Nat.reduceMul, Nat.reduceSub, Nat.reduceLeDiff, Nat.reduceLT, Nat.reduceEqDiff, Int.reduceLE, Int.reduceLT, Int.reduceToNat, Int.reduceBEq, Int.reduceBNe, Int.reduceEq, Int.reduceAdd, Int.reduceSub, Int.reduceMul, Int.reduceNeg, Int.cast_ofNat_Int, encPol]); (solve | rfl); (solve | decide); (solve | simp); (solve | simp only [go_sem, ↓reduceIte, reduceCtorEq, Nat.reduceAdd, Nat.reduceMul, Nat.reduceSub, Nat.reduceLeDiff, Nat.reduceLT, Nat.reduceEqDiff, Int.reduceLE, Int.reduceLT, Int.reduceToNat, Int.reduceBEq, Int.reduceBNe, Int.reduceEq, Int.reduceAdd, Int.reduceSub, Int.reduceMul, Int.reduceNeg, Int.cast_ofNat_Int, lentOK, encPol])) | omega | exact decide_eq_true (by omega) | exact DLe.refl _)
        refine hC _ _ _ _ _ ?_ (.inl ⟨k + 1, hkp, rfl, rfl, rfl⟩) ((weak_freeze 4 1 50 5 (q.leases.map encL) rfl).trans ?_)
        · have := hm.out; have := hlen2.out; omega
        simp only [fzE, fz, fzL, fzH, fzC, fzR, fzR_app, fzR_d, fzL_d, List.map_cons, List.map_nil, Nat.reduceAdd, Nat.reduceEqDiff, reduceIte, and_true, true_and, and_self, and_false, false_and, Nat.zero_add, Nat.add_zero, reduceCtorEq]
        exact weak_forget _ (by simp) (by rw [take_snoc hq.out, List.map_append, List.map_cons, List.map_nil, ← dRows_app]; rfl) (by (repeat' (first | exact trivial | (refine ⟨rfl, ?_⟩)))) (by first | rfl | simp only [belowH, belowE, belowC, belowL, belowR, belowP, belowL_d, belowR_d, List.length_cons, List.length_nil, Nat.reduceAdd, Nat.reduceLT, decide_true, Bool.and_self, Bool.and_true]) (by first | rfl | simp only [belowH, belowE, belowC, belowL, belowR, belowP, belowL_d, belowR_d, List.length_cons, List.length_nil, Nat.reduceAdd, Nat.reduceLT, decide_true, Bool.and_self, Bool.and_true])
      · obtain rfl : k = pre.length := by omega
        have hq2 : b.pools[pre.length]? = some p := by rw [hL.out, List.getElem?_append_right (Nat.le_refl _), Nat.sub_self]; rfl
        have hpl := h32 p (List.mem_of_getElem? hq2)
        repeat' (first | (with_reducible refine And.intro ?_ ?_) | (with_reducible refine gK_i (fun _ => ?_) (fun _ => ?_)) | (with_reducible refine condS_i (fun _ => ?_) (fun _ => ?_)) | (with_reducible refine drw_i (by kernel_rfl)) | simp -dsimp only [go_sem, ↓reduceIte, reduceCtorEq, Nat.reduceAdd, Nat.reduceMul, Nat.reduceSub, Nat.reduceLeDiff, Nat.reduceLT, Nat.reduceEqDiff, Int.reduceLE, Int.reduceLT, Int.reduceToNat, Int.reduceBEq, Int.reduceBNe, Int.reduceEq, Int.reduceAdd, Int.reduceSub, Int.reduceMul, Int.reduceNeg, Int.cast_ofNat_Int, *, encB, encPol, hkI, hwr, hq2, List.take_length] | ((with_reducible refine opK_c ?_); simp -dsimp only [go_sem, ↓reduceIte, reduceCtorEq, Nat.reduceAdd, Nat.reduceMul, Nat.reduceSub, Nat.reduceLeDiff, Nat.reduceLT, Nat.reduceEqDiff, Int.reduceLE, Int.reduceLT, Int.reduceToNat, Int.reduceBEq, Int.reduceBNe, Int.reduceEq, Int.reduceAdd, Int.reduceSub, Int.reduceMul, Int.reduceNeg, Int.cast_ofNat_Int, encB, encPol, hkI, hwr, hq2, List.take_length]; first | refine callK_r (by first | assumption | fail) (by first | exact .inl rfl | exact .inr rfl) ?_ | (refine callK_i (by assumption) ?_ ?_ ?_; (solve | (repeat (first | exact DLe.refl _ | exact DLe.nil _ | (refine DLe.tup ?_) | (refine DLe.agg ?_ rfl) | exact trivial | (refine And.intro ?_ ?_)))); (solve | exact .inl rfl | exact .inr rfl))) | (refine opK_M [] (clone_Lease encL p.leases (by omega)) ?_ ?_ ?_ ?_ ?_ ?_; (solve | rfl | simp only [go_sem, ↓reduceIte, reduceCtorEq, Nat.reduceAdd, Nat.reduceMul, Nat.reduceSub, Nat.reduceLeDiff, Nat.reduceLT, Nat.reduceEqDiff, Int.reduceLE, Int.reduceLT, Int.reduceToNat, Int.reduceBEq, Int.reduceBNe, Int.reduceEq, Int.reduceAdd, Int.reduceSub, Int.reduceMul, Int.reduceNeg, Int.cast_ofNat_Int, encPol]); (solve | rfl); (solve | decide); (solve | simp); (solve | simp only [go_sem, ↓reduceIte, reduceCtorEq, Nat.reduceAdd, Nat.reduceMul, Nat.reduceSub, Nat.reduceLeDiff, Nat.reduceLT, Nat.reduceEqDiff, Int.reduceLE, Int.reduceLT, Int.reduceToNat, Int.reduceBEq, Int.reduceBNe, Int.reduceEq, Int.reduceAdd, Int.reduceSub, Int.reduceMul, Int.reduceNeg, Int.cast_ofNat_Int, lentOK, encPol])) | omega | exact decide_eq_true (by omega) | exact DLe.refl _)
        refine hC _ _ _ _ _ ?_ (.inr ⟨pre.length + 1, 0, rfl, Nat.zero_le _, rfl, rfl, rfl⟩) ((weak_gone 3 (by simp)).trans ?_)
        · have := hm.out; have := hlen2.out; omega
        exact weak_forget _ (by simp) (by rfl) (by (repeat' (first | exact trivial | (refine ⟨rfl, ?_⟩)))) (by first | rfl | simp only [belowH, belowE, belowC, belowL, belowR, belowP, belowL_d, belowR_d, belowR_zip, polRow, List.length_cons, List.length_nil, Nat.reduceAdd, Nat.reduceLT, decide_true, Bool.and_self, Bool.and_true]) (by first | rfl | simp only [belowH, belowE, belowC, belowL, belowR, belowP, belowL_d, belowR_d, belowR_zip, polRow, List.length_cons, List.length_nil, Nat.reduceAdd, Nat.reduceLT, decide_true, Bool.and_self, Bool.and_true])
    · have hm := Lib.hid hm
      have hkj2 := Lib.hid hkj
      have hb1 : pre.length + 1 + j + 1 ≤ 100 := by have := hlen2.out; omega
      have hlt : (List.take j post).length = j := by rw [List.length_take]; omega
      have hkl : k ≤ b.pools.length := by have := hlen2.out; omega
      by_cases hjp : j < post.length
      · obtain ⟨q, hq⟩ : ∃ q, post[j]? = some q := ⟨_, List.getElem?_eq_getElem hjp⟩
        have hq2 : b.pools[k]? = some q := by
          rw [hL.out, List.getElem?_append_right (by omega), show k - pre.length = j + 1 by omega, List.getElem?_cons_succ]; exact hq
        have hpl := h32 q (List.mem_of_getElem? hq2)
        have hkI : (k : Int) < (b.pools.length : Int) := by have := hlen2.out; omega
        have hwr : IntKind.i64.wrap ((k : Int) + 1) = ((k + 1 : Nat) : Int) := by rw [IntKind.wrap_i64]; omega
        have hq := Lib.hid hq
        clear hkj
        repeat' (first | (with_reducible refine And.intro ?_ ?_) | (with_reducible refine gK_i (fun _ => ?_) (fun _ => ?_)) | (with_reducible refine condS_i (fun _ => ?_) (fun _ => ?_)) | (with_reducible refine drw_i (by kernel_rfl)) | simp -dsimp only [go_sem, ↓reduceIte, reduceCtorEq, Nat.reduceAdd, Nat.reduceMul, Nat.reduceSub, Nat.reduceLeDiff, Nat.reduceLT, Nat.reduceEqDiff, Int.reduceLE, Int.reduceLT, Int.reduceToNat, Int.reduceBEq, Int.reduceBNe, Int.reduceEq, Int.reduceAdd, Int.reduceSub, Int.reduceMul, Int.reduceNeg, Int.cast_ofNat_Int, *, encB, encPol, hkI, hwr, hq2, zipR_len, hlt] | ((with_reducible refine opK_c ?_); simp -dsimp only [go_sem, ↓reduceIte, reduceCtorEq, Nat.reduceAdd, Nat.reduceMul, Nat.reduceSub, Nat.reduceLeDiff, Nat.reduceLT, Nat.reduceEqDiff, Int.reduceLE, Int.reduceLT, Int.reduceToNat, Int.reduceBEq, Int.reduceBNe, Int.reduceEq, Int.reduceAdd, Int.reduceSub, Int.reduceMul, Int.reduceNeg, Int.cast_ofNat_Int, encB, encPol, hkI, hwr, hq2, zipR_len, hlt]; first | refine callK_r (by first | assumption | fail) (by first | exact .inl rfl | exact .inr rfl) ?_ | (refine callK_i (by assumption) ?_ ?_ ?_; (solve | (repeat (first | exact DLe.refl _ | exact DLe.nil _ | (refine DLe.tup ?_) | (refine DLe.agg ?_ rfl) | exact trivial | (refine And.intro ?_ ?_)))); (solve | exact .inl rfl | exact .inr rfl))) | (refine opK_M [] (clone_Lease encL q.leases (by omega)) ?_ ?_ ?_ ?_ ?_ ?_; (solve | rfl | simp only [go_sem, ↓reduceIte, reduceCtorEq, Nat.reduceAdd, Nat.reduceMul, Nat.reduceSub, Nat.reduceLeDiff, Nat.reduceLT, Nat.reduceEqDiff, Int.reduceLE, Int.reduceLT, Int.reduceToNat, Int.reduceBEq, Int.reduceBNe, Int.reduceEq, Int.reduceAdd, Int.reduceSub, Int.reduceMul, Int.reduceNeg, Int.cast_ofNat_Int, encPol]); (solve | rfl); (solve | decide); (solve | simp); (solve | simp only [go_sem, ↓reduceIte, reduceCtorEq, Nat.reduceAdd, Nat.reduceMul, Nat.reduceSub, Nat.reduceLeDiff, Nat.reduceLT, Nat.reduceEqDiff, Int.reduceLE, Int.reduceLT, Int.reduceToNat, Int.reduceBEq, Int.reduceBNe, Int.reduceEq, Int.reduceAdd, Int.reduceSub, Int.reduceMul, Int.reduceNeg, Int.cast_ofNat_Int, lentOK, encPol])) | omega | exact decide_eq_true (by omega) | exact DLe.refl _)
        refine hC _ _ _ _ _ ?_ (.inr ⟨k + 1, j + 1, by have := hkj2.out; omega, hjp, rfl, rfl, rfl⟩) ((weak_freeze 6 1 50 5 (q.leases.map encL) rfl).trans ?_)
        · have := hm.out; have := hlen2.out; have := hkj2.out; omega
        simp only [fzE, fz, fzL, fzH, fzC, fzR, fzR_app, fzR_d, fzL_d, List.map_cons, List.map_nil, Nat.reduceAdd, Nat.reduceEqDiff, reduceIte, and_true, true_and, and_self, and_false, false_and, Nat.zero_add, Nat.add_zero, reduceCtorEq, fzR_zip, polRow]
        exact weak_forget _ (by simp) (by rw [take_snoc hq.out, ← zipR_snoc]; rfl) (by (repeat' (first | exact trivial | (refine ⟨rfl, ?_⟩)))) (by first | rfl | simp only [belowH, belowE, belowC, belowL, belowR, belowP, belowL_d, belowR_d, belowR_zip, polRow, List.length_cons, List.length_nil, Nat.reduceAdd, Nat.reduceLT, decide_true, Bool.and_self, Bool.and_true]) (by first | rfl | simp only [belowH, belowE, belowC, belowL, belowR, belowP, belowL_d, belowR_d, belowR_zip, polRow, List.length_cons, List.length_nil, Nat.reduceAdd, Nat.reduceLT, decide_true, Bool.and_self, Bool.and_true])
      · obtain rfl : j = post.length := by omega
        obtain rfl : k = b.pools.length := by have := hlen2.out; omega
        clear hkj
        repeat' (first | (with_reducible refine And.intro ?_ ?_) | (with_reducible refine gK_i (fun _ => ?_) (fun _ => ?_)) | (with_reducible refine condS_i (fun _ => ?_) (fun _ => ?_)) | (with_reducible refine drw_i (by kernel_rfl)) | simp -dsimp only [go_sem, ↓reduceIte, reduceCtorEq, Nat.reduceAdd, Nat.reduceMul, Nat.reduceSub, Nat.reduceLeDiff, Nat.reduceLT, Nat.reduceEqDiff, Int.reduceLE, Int.reduceLT, Int.reduceToNat, Int.reduceBEq, Int.reduceBNe, Int.reduceEq, Int.reduceAdd, Int.reduceSub, Int.reduceMul, Int.reduceNeg, Int.cast_ofNat_Int, *, encB, Int.lt_irrefl] | ((with_reducible refine opK_c ?_); simp -dsimp only [go_sem, ↓reduceIte, reduceCtorEq, Nat.reduceAdd, Nat.reduceMul, Nat.reduceSub, Nat.reduceLeDiff, Nat.reduceLT, Nat.reduceEqDiff, Int.reduceLE, Int.reduceLT, Int.reduceToNat, Int.reduceBEq, Int.reduceBNe, Int.reduceEq, Int.reduceAdd, Int.reduceSub, Int.reduceMul, Int.reduceNeg, Int.cast_ofNat_Int, encB, Int.lt_irrefl]; first | refine callK_r (by first | assumption | fail) (by first | exact .inl rfl | exact .inr rfl) ?_ | (refine callK_i (by assumption) ?_ ?_ ?_; (solve | (repeat (first | exact DLe.refl _ | exact DLe.nil _ | (refine DLe.tup ?_) | (refine DLe.agg ?_ rfl) | exact trivial | (refine And.intro ?_ ?_)))); (solve | exact .inl rfl | exact .inr rfl))) | fail | omega | exact decide_eq_true (by omega) | exact DLe.refl _)
        rw [List.take_length]
        exact weak_eq rfl rfl
end Go.Proofs.Ytbeocackphfijaa
namespace Go.Proofs.Ytbeocackphfijaa
open Go Go.RowKit
theorem renR_zip (ρ : Nat → Nat) (pre : List Pol) (r : List PV) (post : List Pol) : renR ρ (zipR pre r post) = zipR pre (renL ρ r) post := by
  have app : ∀ (l m : List (List PV)), renR ρ (l ++ m) = renR ρ l ++ renR ρ m := by
    intro l m
    rw [renR_map, renR_map, renR_map, List.map_append]
  simp only [zipR, app, renR, renR_d]
/-- A right book. -/
structure BookOK (b : Bok) : Prop where
  n8 : b.pools.length ≤ 8
  l32 : ∀ p ∈ b.pools, p.leases.length ≤ 32
  rise : Rise b.pools
  tick : 0 ≤ b.tick ∧ b.tick ≤ 1073741824
  mem : ∀ p ∈ b.pools, idOK p.id = true ∧ chkS p.root (usedP p) = 0 ∧ ruleOK p.rule p.root.len = true
  second : secondOK b b.pools [] = true
theorem bookOK {b : Bok} (h : chkBk b = 0) : BookOK b := by
  unfold chkBk at h
  split at h
  · cases h
  · rename_i h8
    split at h
    · cases h
    · rename_i ht
      split at h
      · rename_i hf
        rw [Bool.and_eq_true] at hf
        have hm := firstOK_mem _ _ hf.1
        refine ⟨by omega, fun p hp => ?_, (firstOK_rise _ _ hf.1).1, by omega, hm, hf.2⟩
        have := (hm p hp).2.1
        unfold chkS at this
        split at this
        · cases this
        · rename_i h; simpa [usedP] using h
      · cases h
set_option maxRecDepth 100000 in
theorem beginE_p (b : Bok) (hz : ∀ p ∈ b.pools, p.leases.length ≤ 3518437208882) (h : chkBk b ≠ 0) : PSpec Try.prog 31 [.agg (encB b)] (.tup [.v (.pointer none), .v (.int .i64 (chkBk b))]) := by
  have hc := bkCheck_p b hz
  have h1 : (chkBk b != 0) = true := by simpa using h
  refine ps_i tab_ok mixed Try.func31 rfl Try.ntmps31 Try.results31 (by kernel_rfl) ?_
  repeat' (first | (with_reducible refine And.intro ?_ ?_) | (with_reducible refine gK_i (fun _ => ?_) (fun _ => ?_)) | (with_reducible refine condS_i (fun _ => ?_) (fun _ => ?_)) | (with_reducible refine drw_i (by kernel_rfl)) | simp -dsimp only [go_sem, ↓reduceIte, reduceCtorEq, Nat.reduceAdd, Nat.reduceMul, Nat.reduceSub, Nat.reduceLeDiff, Nat.reduceLT, Nat.reduceEqDiff, Int.reduceLE, Int.reduceLT, Int.reduceToNat, Int.reduceBEq, Int.reduceBNe, Int.reduceEq, Int.reduceAdd, Int.reduceSub, Int.reduceMul, Int.reduceNeg, Int.cast_ofNat_Int, *, encB, h1] | ((with_reducible refine opK_c ?_); simp -dsimp only [go_sem, ↓reduceIte, reduceCtorEq, Nat.reduceAdd, Nat.reduceMul, Nat.reduceSub, Nat.reduceLeDiff, Nat.reduceLT, Nat.reduceEqDiff, Int.reduceLE, Int.reduceLT, Int.reduceToNat, Int.reduceBEq, Int.reduceBNe, Int.reduceEq, Int.reduceAdd, Int.reduceSub, Int.reduceMul, Int.reduceNeg, Int.cast_ofNat_Int, encB, h1]; first | refine callK_r (by first | assumption | exact hc) (by first | exact .inl rfl | exact .inr rfl) ?_ | (refine callK_i (by assumption) ?_ ?_ ?_; (solve | (repeat (first | exact DLe.refl _ | exact DLe.nil _ | (refine DLe.tup ?_) | (refine DLe.agg ?_ rfl) | exact trivial | (refine And.intro ?_ ?_)))); (solve | exact .inl rfl | exact .inr rfl))) | fail | omega | exact decide_eq_true (by omega) | exact DLe.refl _)
set_option maxRecDepth 100000 in
theorem beginD_m (b : Bok) (hz : ∀ p ∈ b.pools, p.leases.length ≤ 3518437208882) (h : chkBk b = 0) :
    MSpec Try.prog 31 [.d (.agg (encB b))] [] (.tup [.ptr 2 0, .d (.v (.int .i64 0))]) [.gone, .gone, .box 24 [.d (.v (.int .i64 b.tick)), .own 3 b.pools.length], .row 46 9 b.pools.length (dRows (b.pools.map encPol))] := by
  have hc := bkCheck_p b hz
  have hb := bookOK h
  have ho := ownD_m b hb.n8 hb.l32
  rw [h] at hc
  replace h := Lib.hid h
  refine ms_i tab_ok mixed Try.func31 rfl Try.ntmps31 Try.results31 (by kernel_rfl) (by simp) (by simp [belowL, belowP]) (by simp [belowH, belowC, belowL, belowP, belowL_d, belowR_d]) ?_
  repeat' (first | (with_reducible refine And.intro ?_ ?_) | (with_reducible refine gK_i (fun _ => ?_) (fun _ => ?_)) | (with_reducible refine condS_i (fun _ => ?_) (fun _ => ?_)) | (with_reducible refine drw_i (by kernel_rfl)) | simp -dsimp only [go_sem, ↓reduceIte, reduceCtorEq, Nat.reduceAdd, Nat.reduceMul, Nat.reduceSub, Nat.reduceLeDiff, Nat.reduceLT, Nat.reduceEqDiff, Int.reduceLE, Int.reduceLT, Int.reduceToNat, Int.reduceBEq, Int.reduceBNe, Int.reduceEq, Int.reduceAdd, Int.reduceSub, Int.reduceMul, Int.reduceNeg, Int.cast_ofNat_Int, *, encB] | ((with_reducible refine opK_c ?_); simp -dsimp only [go_sem, ↓reduceIte, reduceCtorEq, Nat.reduceAdd, Nat.reduceMul, Nat.reduceSub, Nat.reduceLeDiff, Nat.reduceLT, Nat.reduceEqDiff, Int.reduceLE, Int.reduceLT, Int.reduceToNat, Int.reduceBEq, Int.reduceBNe, Int.reduceEq, Int.reduceAdd, Int.reduceSub, Int.reduceMul, Int.reduceNeg, Int.cast_ofNat_Int, encB]; first | refine callK_r (by first | assumption | exact hc) (by first | exact .inl rfl | exact .inr rfl) ?_ | (refine callK_i (by assumption) ?_ ?_ ?_; (solve | (repeat (first | exact DLe.refl _ | exact DLe.nil _ | (refine DLe.tup ?_) | (refine DLe.agg ?_ rfl) | exact trivial | (refine And.intro ?_ ?_)))); (solve | exact .inl rfl | exact .inr rfl))) | (refine opK_M [] (ho) ?_ ?_ ?_ ?_ ?_ ?_; (solve | rfl | simp only [go_sem, ↓reduceIte, reduceCtorEq, Nat.reduceAdd, Nat.reduceMul, Nat.reduceSub, Nat.reduceLeDiff, Nat.reduceLT, Nat.reduceEqDiff, Int.reduceLE, Int.reduceLT, Int.reduceToNat, Int.reduceBEq, Int.reduceBNe, Int.reduceEq, Int.reduceAdd, Int.reduceSub, Int.reduceMul, Int.reduceNeg, Int.cast_ofNat_Int, encB]); (solve | rfl); (solve | decide); (solve | simp); (solve | simp only [go_sem, ↓reduceIte, reduceCtorEq, Nat.reduceAdd, Nat.reduceMul, Nat.reduceSub, Nat.reduceLeDiff, Nat.reduceLT, Nat.reduceEqDiff, Int.reduceLE, Int.reduceLT, Int.reduceToNat, Int.reduceBEq, Int.reduceBNe, Int.reduceEq, Int.reduceAdd, Int.reduceSub, Int.reduceMul, Int.reduceNeg, Int.cast_ofNat_Int, lentOK, encB])) | omega | exact decide_eq_true (by omega) | exact DLe.refl _)
  exact (weak_gone 0 (by simp)).trans (weak_eq rfl rfl)
set_option maxRecDepth 100000 in
theorem beginZ_m (b : Bok) (pre post : List Pol) (p : Pol) (hp : b.pools = pre ++ p :: post) (hz : ∀ p ∈ b.pools, p.leases.length ≤ 3518437208882) (h : chkBk b = 0) :
    MSpec Try.prog 31 [.d (.agg (encB b))] [] (.tup [.ptr 2 0, .d (.v (.int .i64 0))]) [.gone, .gone, .box 24 [.d (.v (.int .i64 b.tick)), .own 3 b.pools.length], .row 46 9 b.pools.length (zipR pre (polRow p (.own 5 1)) post), .gone, .row 50 5 1 (dRows (p.leases.map encL))] := by
  have hc := bkCheck_p b hz
  have hb := bookOK h
  have ho := ownZ_m b pre post p hp hb.n8 hb.l32
  rw [h] at hc
  replace h := Lib.hid h
  replace hp := Lib.hid hp
  refine ms_i tab_ok mixed Try.func31 rfl Try.ntmps31 Try.results31 (by kernel_rfl) (by simp) (by simp [belowL, belowP]) (by simp [belowH, belowC, belowL, belowP, belowL_d, belowR_d]) ?_
  repeat' (first | (with_reducible refine And.intro ?_ ?_) | (with_reducible refine gK_i (fun _ => ?_) (fun _ => ?_)) | (with_reducible refine condS_i (fun _ => ?_) (fun _ => ?_)) | (with_reducible refine drw_i (by kernel_rfl)) | simp -dsimp only [go_sem, ↓reduceIte, reduceCtorEq, Nat.reduceAdd, Nat.reduceMul, Nat.reduceSub, Nat.reduceLeDiff, Nat.reduceLT, Nat.reduceEqDiff, Int.reduceLE, Int.reduceLT, Int.reduceToNat, Int.reduceBEq, Int.reduceBNe, Int.reduceEq, Int.reduceAdd, Int.reduceSub, Int.reduceMul, Int.reduceNeg, Int.cast_ofNat_Int, *, encB, polRow, renR_zip] | ((with_reducible refine opK_c ?_); simp -dsimp only [go_sem, ↓reduceIte, reduceCtorEq, Nat.reduceAdd, Nat.reduceMul, Nat.reduceSub, Nat.reduceLeDiff, Nat.reduceLT, Nat.reduceEqDiff, Int.reduceLE, Int.reduceLT, Int.reduceToNat, Int.reduceBEq, Int.reduceBNe, Int.reduceEq, Int.reduceAdd, Int.reduceSub, Int.reduceMul, Int.reduceNeg, Int.cast_ofNat_Int, encB, polRow, renR_zip]; first | refine callK_r (by first | assumption | exact hc) (by first | exact .inl rfl | exact .inr rfl) ?_ | (refine callK_i (by assumption) ?_ ?_ ?_; (solve | (repeat (first | exact DLe.refl _ | exact DLe.nil _ | (refine DLe.tup ?_) | (refine DLe.agg ?_ rfl) | exact trivial | (refine And.intro ?_ ?_)))); (solve | exact .inl rfl | exact .inr rfl))) | (refine opK_M [] (ho) ?_ ?_ ?_ ?_ ?_ ?_; (solve | rfl | simp only [go_sem, ↓reduceIte, reduceCtorEq, Nat.reduceAdd, Nat.reduceMul, Nat.reduceSub, Nat.reduceLeDiff, Nat.reduceLT, Nat.reduceEqDiff, Int.reduceLE, Int.reduceLT, Int.reduceToNat, Int.reduceBEq, Int.reduceBNe, Int.reduceEq, Int.reduceAdd, Int.reduceSub, Int.reduceMul, Int.reduceNeg, Int.cast_ofNat_Int, encB, polRow, renR_zip]); (solve | rfl); (solve | decide); (solve | simp); (solve | simp only [go_sem, ↓reduceIte, reduceCtorEq, Nat.reduceAdd, Nat.reduceMul, Nat.reduceSub, Nat.reduceLeDiff, Nat.reduceLT, Nat.reduceEqDiff, Int.reduceLE, Int.reduceLT, Int.reduceToNat, Int.reduceBEq, Int.reduceBNe, Int.reduceEq, Int.reduceAdd, Int.reduceSub, Int.reduceMul, Int.reduceNeg, Int.cast_ofNat_Int, lentOK, encB, polRow, renR_zip])) | omega | exact decide_eq_true (by omega) | exact DLe.refl _)
  exact (weak_gone 0 (by simp)).trans (weak_eq rfl rfl)
theorem lb_at {α : Type} {key : α → Int} {l : List α} {i : Nat} {q : α} (hs : l.Pairwise fun a b => key a < key b) (hq : l[i]? = some q) : lbN key (key q) l = i ∧ lbB key (key q) l = true := by
  obtain ⟨hi, rfl⟩ := List.getElem?_eq_some_iff.1 hq
  have h1 : lbN key (key l[i]) l = i := lbN_eq (Nat.le_of_lt hi) (fun k hk hki => List.pairwise_iff_getElem.1 hs k i hk hi hki) (fun k hk hki => by
    rcases Nat.lt_or_ge i k with h | h
    · have := List.pairwise_iff_getElem.1 hs i k hi hk h; omega
    · obtain rfl : k = i := by omega
      exact Int.le_refl _)
  refine ⟨h1, ?_⟩
  unfold lbB
  rw [h1, hq]; simp
set_option maxRecDepth 100000 in
/-- A pool that is there, in a book of one's own. -/
theorem find_m (b : Bok) (i : Nat) (q : Pol) (g : Nat) (rows : List (List PV)) (hs : List Chunk) (c0 : PV) (hq : b.pools[i]? = some q) (hr : Rise b.pools) (h8 : b.pools.length ≤ 8) (hrl : rows.length = b.pools.length)
    (hv : viewR (viewF (hatL (.box 24 [c0, .own 1 g] :: .row 46 9 g rows :: hs)) 5) rows = some (b.pools.map encPol)) (hbl : belowR (hs.length + 2) rows = true) (hbh : belowH (hs.length + 2) hs = true) (hc0 : belowP (hs.length + 2) c0 = true) :
    MSpec Try.prog 32 [.ptr 0 0, .d (.v (.int .i64 q.id))] (.box 24 [c0, .own 1 g] :: .row 46 9 g rows :: hs) (.tup [.rp 1 g 9 i 0, .d (.v (.bool true))]) (.box 24 [c0, .own 1 g] :: .row 46 9 g rows :: hs) := by
  have hbs := bsrf_Pool encPol_len (fun p => p.id) b.pools q.id 78 [] (by omega) hr (fun p _ => byId_p p q.id)
  obtain ⟨e1, e2⟩ := lb_at (key := fun p : Pol => p.id) hr hq
  rw [e1, e2] at hbs
  have hi : i < rows.length := by rw [hrl]; exact (List.getElem?_eq_some_iff.1 hq).1
  have hiI : (0 : Int) ≤ (i : Int) := by omega
  replace hq := Lib.hid hq
  replace hrl := Lib.hid hrl
  replace e1 := Lib.hid e1
  replace e2 := Lib.hid e2
  refine ms_w tab_ok mixed Try.func32 rfl Try.ntmps32 Try.results32 (by kernel_rfl) (Nat.le_refl _) (by simp [belowL, belowP]) (by simp [belowH, belowC, belowL, belowP, hbl, hbh, hc0]) ?_
  repeat' (first | (with_reducible refine And.intro ?_ ?_) | (with_reducible refine gK_i (fun _ => ?_) (fun _ => ?_)) | (with_reducible refine condS_i (fun _ => ?_) (fun _ => ?_)) | (with_reducible refine drw_i (by kernel_rfl)) | simp -dsimp only [go_sem, ↓reduceIte, reduceCtorEq, Nat.reduceAdd, Nat.reduceMul, Nat.reduceSub, Nat.reduceLeDiff, Nat.reduceLT, Nat.reduceEqDiff, Int.reduceLE, Int.reduceLT, Int.reduceToNat, Int.reduceBEq, Int.reduceBNe, Int.reduceEq, Int.reduceAdd, Int.reduceSub, Int.reduceMul, Int.reduceNeg, Int.cast_ofNat_Int, *, hv] | ((with_reducible refine opK_c ?_); simp -dsimp only [go_sem, ↓reduceIte, reduceCtorEq, Nat.reduceAdd, Nat.reduceMul, Nat.reduceSub, Nat.reduceLeDiff, Nat.reduceLT, Nat.reduceEqDiff, Int.reduceLE, Int.reduceLT, Int.reduceToNat, Int.reduceBEq, Int.reduceBNe, Int.reduceEq, Int.reduceAdd, Int.reduceSub, Int.reduceMul, Int.reduceNeg, Int.cast_ofNat_Int, hv]; first | refine callK_r (by first | assumption | exact hbs) (by first | exact .inl rfl | exact .inr rfl) ?_ | (refine callK_i (by assumption) ?_ ?_ ?_; (solve | (repeat (first | exact DLe.refl _ | exact DLe.nil _ | (refine DLe.tup ?_) | (refine DLe.agg ?_ rfl) | exact trivial | (refine And.intro ?_ ?_)))); (solve | exact .inl rfl | exact .inr rfl))) | fail | omega | exact decide_eq_true (by omega) | exact DLe.refl _)
  exact weak_eq rfl rfl
/-- What of a pool fits a size. -/
def fitE (p : Pol) (size : Int) : Pfx × Int :=
  if size < p.rule.min ∨ size > p.rule.max then (Pfx.zero, 7) else
  if (fitS p.root (usedP p) size).2.1 = false ∨ p.leases.length = 32 then (Pfx.zero, 8) else ((fitS p.root (usedP p) size).1, 0)
set_option maxRecDepth 100000 in
theorem fit_p (p : Pol) (size : Int) (hl : p.leases.length ≤ 32) : PSpec Try.prog 39 [.ept (encPol p), .v (.int .i64 size)] (.tup [.agg (encP (fitE p size).1), .v (.int .i64 (fitE p size).2)]) := by
  have ht := taken_p p (by omega)
  have hf := spFit_p p.root (usedP p) size
  refine ps_i tab_ok mixed Try.func39 rfl Try.ntmps39 Try.results39 (by kernel_rfl) ?_
  repeat' (first | (with_reducible refine And.intro ?_ ?_) | (with_reducible refine gK_i (fun _ => ?_) (fun _ => ?_)) | (with_reducible refine condS_i (fun _ => ?_) (fun _ => ?_)) | (with_reducible refine drw_i (by kernel_rfl)) | simp -dsimp only [go_sem, ↓reduceIte, reduceCtorEq, Nat.reduceAdd, Nat.reduceMul, Nat.reduceSub, Nat.reduceLeDiff, Nat.reduceLT, Nat.reduceEqDiff, Int.reduceLE, Int.reduceLT, Int.reduceToNat, Int.reduceBEq, Int.reduceBNe, Int.reduceEq, Int.reduceAdd, Int.reduceSub, Int.reduceMul, Int.reduceNeg, Int.cast_ofNat_Int, *, encPol, encP] | ((with_reducible refine opK_c ?_); simp -dsimp only [go_sem, ↓reduceIte, reduceCtorEq, Nat.reduceAdd, Nat.reduceMul, Nat.reduceSub, Nat.reduceLeDiff, Nat.reduceLT, Nat.reduceEqDiff, Int.reduceLE, Int.reduceLT, Int.reduceToNat, Int.reduceBEq, Int.reduceBNe, Int.reduceEq, Int.reduceAdd, Int.reduceSub, Int.reduceMul, Int.reduceNeg, Int.cast_ofNat_Int, encPol, encP]; first | refine callK_r (by first | assumption | exact ht | exact hf) (by first | exact .inl rfl | exact .inr rfl) ?_ | (refine callK_i (by assumption) ?_ ?_ ?_; (solve | (repeat (first | exact DLe.refl _ | exact DLe.nil _ | (refine DLe.tup ?_) | (refine DLe.agg ?_ rfl) | exact trivial | (refine And.intro ?_ ?_)))); (solve | exact .inl rfl | exact .inr rfl))) | fail | omega | exact decide_eq_true (by omega) | exact DLe.refl _)
  all_goals clear ht hf
  all_goals first
    | (rw [show fitE p size = (Pfx.zero, 7) from by unfold fitE; grind]; exact DLe.refl _)
    | (rw [show fitE p size = (Pfx.zero, 8) from by unfold fitE; grind]; exact DLe.refl _)
    | (rw [show fitE p size = ((fitS p.root (usedP p) size).1, 0) from by unfold fitE; grind]; exact DLe.refl _)
theorem zipR_get (pre : List Pol) (r : List PV) (post : List Pol) : (zipR pre r post)[pre.length]? = some r := by
  unfold zipR
  rw [List.getElem?_append_right (by simp [dRows_len])]
  simp [dRows_len]
theorem zipR_set (pre : List Pol) (r r' : List PV) (post : List Pol) : (zipR pre r post).set pre.length r' = zipR pre r' post := by
  unfold zipR
  rw [List.set_append_right _ _ (by simp [dRows_len])]
  simp [dRows_len]
/-- A lease at its place. -/
def insL (l : Lse) (ls : List Lse) : List Lse := ls.take (lbN (fun x => x.at_.at_) l.at_.at_ ls) ++ l :: ls.drop (lbN (fun x => x.at_.at_) l.at_.at_ ls)
theorem lbN_le {α : Type} (key : α → Int) (t : Int) (l : List α) : lbN key t l ≤ l.length := List.findIdx_le_length
theorem let1_p (x : Lse) (t : Int) : PSpec Try.prog 84 [.agg (encL x), .v (.int .i64 t)] (.v (.int .i64 (cmpI x.at_.at_ t))) := by
  have hc := compare_p x.at_.at_ t
  refine ps_i tab_ok mixed Try.func84 rfl Try.ntmps84 Try.results84 (by kernel_rfl) ?_
  repeat' (first | (with_reducible refine And.intro ?_ ?_) | (with_reducible refine gK_i (fun _ => ?_) (fun _ => ?_)) | (with_reducible refine condS_i (fun _ => ?_) (fun _ => ?_)) | (with_reducible refine drw_i (by kernel_rfl)) | simp -dsimp only [go_sem, ↓reduceIte, reduceCtorEq, Nat.reduceAdd, Nat.reduceMul, Nat.reduceSub, Nat.reduceLeDiff, Nat.reduceLT, Nat.reduceEqDiff, Int.reduceLE, Int.reduceLT, Int.reduceToNat, Int.reduceBEq, Int.reduceBNe, Int.reduceEq, Int.reduceAdd, Int.reduceSub, Int.reduceMul, Int.reduceNeg, Int.cast_ofNat_Int, *, encL] | ((with_reducible refine opK_c ?_); simp -dsimp only [go_sem, ↓reduceIte, reduceCtorEq, Nat.reduceAdd, Nat.reduceMul, Nat.reduceSub, Nat.reduceLeDiff, Nat.reduceLT, Nat.reduceEqDiff, Int.reduceLE, Int.reduceLT, Int.reduceToNat, Int.reduceBEq, Int.reduceBNe, Int.reduceEq, Int.reduceAdd, Int.reduceSub, Int.reduceMul, Int.reduceNeg, Int.cast_ofNat_Int, encL]; first | refine callK_r (by first | assumption | exact hc) (by first | exact .inl rfl | exact .inr rfl) ?_ | (refine callK_i (by assumption) ?_ ?_ ?_; (solve | (repeat (first | exact DLe.refl _ | exact DLe.nil _ | (refine DLe.tup ?_) | (refine DLe.agg ?_ rfl) | exact trivial | (refine And.intro ?_ ?_)))); (solve | exact .inl rfl | exact .inr rfl))) | fail | omega | exact decide_eq_true (by omega) | exact DLe.refl _)
theorem zipR_data (pre post : List Pol) (p : Pol) (ls : List Lse) : zipR pre (polRow p (.d (.sl 5 (ls.map encL)))) post = dRows ((pre ++ { p with leases := ls } :: post).map encPol) := by
  simp only [zipR, dRows, List.map_append, List.map_cons]; rfl
/-- The leases of one's own, given away. -/
theorem zip_freeze {P : Program} {m : Nat} (pre post : List Pol) (p : Pol) (g g2 : Nat) (ls : List Lse) : Weak P 1 m [(0, .d (.tup []))] [.row 46 9 g (zipR pre (polRow p (.own 1 g2)) post), .row 50 5 g2 (dRows (ls.map encL))] [(0, .d (.tup []))] [.row 46 9 g (dRows ((pre ++ { p with leases := ls } :: post).map encPol)), .gone] := by
  refine (weak_freeze 1 g2 50 5 (ls.map encL) rfl).trans ?_
  simp only [fzE, fz, fzL, fzH, fzC, fzR, fzR_app, fzR_d, fzL_d, List.map_cons, List.map_nil, Nat.reduceAdd, Nat.reduceEqDiff, reduceIte, and_true, true_and, and_self, and_false, false_and, Nat.zero_add, Nat.add_zero, reduceCtorEq, fzR_zip, polRow]
  rw [← zipR_data]
  exact weak_eq rfl rfl
set_option maxRecDepth 100000 in
theorem let_m (pre post : List Pol) (p : Pol) (l : Lse) (g g2 : Nat) (hl : p.leases.length ≤ 32) (hs : p.leases.Pairwise fun a b => a.at_.at_ < b.at_.at_) :
    MSpec Try.prog 40 [.rp 0 g 9 pre.length 0, .d (.agg (encL l))] [.row 46 9 g (zipR pre (polRow p (.own 1 g2)) post), .row 50 5 g2 (dRows (p.leases.map encL))] (.d (.tup [])) [.row 46 9 g (dRows ((pre ++ { p with leases := insL l p.leases } :: post).map encPol)), .gone] := by
  have hbs := bsrf_Lease encL_len (fun x => x.at_.at_) p.leases l.at_.at_ 84 [] (by omega) hs (fun x _ => let1_p x l.at_.at_)
  have hle := lbN_le (fun x : Lse => x.at_.at_) l.at_.at_ p.leases
  have hins := insert_Lease p.leases l (lbN (fun x : Lse => x.at_.at_) l.at_.at_ p.leases) g2 hle (by omega)
  refine ms_w tab_ok mixed Try.func40 rfl Try.ntmps40 Try.results40 (by kernel_rfl) (Nat.le_refl _) (by simp [belowL, belowP]) (by simp [belowH, belowC, belowR_zip, belowL, belowP, polRow, belowR_d]) ?_
  repeat' (first | (with_reducible refine And.intro ?_ ?_) | (with_reducible refine gK_i (fun _ => ?_) (fun _ => ?_)) | (with_reducible refine condS_i (fun _ => ?_) (fun _ => ?_)) | (with_reducible refine drw_i (by kernel_rfl)) | simp -dsimp only [go_sem, ↓reduceIte, reduceCtorEq, Nat.reduceAdd, Nat.reduceMul, Nat.reduceSub, Nat.reduceLeDiff, Nat.reduceLT, Nat.reduceEqDiff, Int.reduceLE, Int.reduceLT, Int.reduceToNat, Int.reduceBEq, Int.reduceBNe, Int.reduceEq, Int.reduceAdd, Int.reduceSub, Int.reduceMul, Int.reduceNeg, Int.cast_ofNat_Int, *, encL, polRow, zipR_get, zipR_set] | ((with_reducible refine opK_c ?_); simp -dsimp only [go_sem, ↓reduceIte, reduceCtorEq, Nat.reduceAdd, Nat.reduceMul, Nat.reduceSub, Nat.reduceLeDiff, Nat.reduceLT, Nat.reduceEqDiff, Int.reduceLE, Int.reduceLT, Int.reduceToNat, Int.reduceBEq, Int.reduceBNe, Int.reduceEq, Int.reduceAdd, Int.reduceSub, Int.reduceMul, Int.reduceNeg, Int.cast_ofNat_Int, encL, polRow, zipR_get, zipR_set]; first | refine callK_r (by first | assumption | exact hbs) (by first | exact .inl rfl | exact .inr rfl) ?_ | (refine callK_i (by assumption) ?_ ?_ ?_; (solve | (repeat (first | exact DLe.refl _ | exact DLe.nil _ | (refine DLe.tup ?_) | (refine DLe.agg ?_ rfl) | exact trivial | (refine And.intro ?_ ?_)))); (solve | exact .inl rfl | exact .inr rfl))) | (refine opK_M [1] (hins) ?_ ?_ ?_ ?_ ?_ ?_; (solve | rfl | simp only [go_sem, ↓reduceIte, reduceCtorEq, Nat.reduceAdd, Nat.reduceMul, Nat.reduceSub, Nat.reduceLeDiff, Nat.reduceLT, Nat.reduceEqDiff, Int.reduceLE, Int.reduceLT, Int.reduceToNat, Int.reduceBEq, Int.reduceBNe, Int.reduceEq, Int.reduceAdd, Int.reduceSub, Int.reduceMul, Int.reduceNeg, Int.cast_ofNat_Int, encL]); (solve | rfl); (solve | decide); (solve | simp); (solve | simp only [go_sem, ↓reduceIte, reduceCtorEq, Nat.reduceAdd, Nat.reduceMul, Nat.reduceSub, Nat.reduceLeDiff, Nat.reduceLT, Nat.reduceEqDiff, Int.reduceLE, Int.reduceLT, Int.reduceToNat, Int.reduceBEq, Int.reduceBNe, Int.reduceEq, Int.reduceAdd, Int.reduceSub, Int.reduceMul, Int.reduceNeg, Int.cast_ofNat_Int, lentOK, encL])) | omega | exact decide_eq_true (by omega) | exact DLe.refl _)
  refine Weak.trans ?_ (zip_freeze pre post p g (g2 + 1) (insL l p.leases))
  exact weak_forget _ (by simp) (by rfl) ⟨rfl, trivial⟩ (by first | rfl | simp only [belowH, belowE, belowC, belowL, belowR, belowP, belowL_d, belowR_d, belowR_zip, polRow, List.length_cons, List.length_nil, Nat.reduceAdd, Nat.reduceLT, decide_true, Bool.and_self, Bool.and_true]) (by first | rfl | simp only [belowH, belowE, belowC, belowL, belowR, belowP, belowL_d, belowR_d, belowR_zip, polRow, List.length_cons, List.length_nil, Nat.reduceAdd, Nat.reduceLT, decide_true, Bool.and_self, Bool.and_true])
/-- Leases, one of which comes back. -/
def coolL (p : Pol) (i : Nat) (tick : Int) : List Lse := if p.rule.cool = 0 then p.leases.eraseIdx i else match p.leases[i]? with | some l => p.leases.set i ⟨l.at_, 3, 0, tick + p.rule.cool⟩ | none => p.leases
set_option maxRecDepth 100000 in
theorem cool_m (pre post : List Pol) (p : Pol) (i g g2 : Nat) (tick : Int) (hi : i < p.leases.length) (hl : p.leases.length ≤ 32) (hc2 : 0 ≤ p.rule.cool ∧ p.rule.cool ≤ 1024) (ht : 0 ≤ tick ∧ tick ≤ 1073741824) :
    MSpec Try.prog 64 [.rp 0 g 9 pre.length 0, .d (.v (.int .i64 i)), .d (.v (.int .i64 tick))] [.row 46 9 g (zipR pre (polRow p (.own 1 g2)) post), .row 50 5 g2 (dRows (p.leases.map encL))] (.d (.tup [])) [.row 46 9 g (dRows ((pre ++ { p with leases := coolL p i tick } :: post).map encPol)), .gone] := by
  refine ms_w tab_ok mixed Try.func64 rfl Try.ntmps64 Try.results64 (by kernel_rfl) (Nat.le_refl _) (by simp [belowL, belowP]) (by simp [belowH, belowC, belowR_zip, belowL, belowP, polRow, belowR_d]) ?_
  by_cases hc : p.rule.cool = 0
  · have hcl : coolL p i tick = p.leases.eraseIdx i := by unfold coolL; rw [if_pos hc]
    have hwr : IntKind.i64.wrap ((i : Int) + 1) = ((i + 1 : Nat) : Int) := by rw [IntKind.wrap_i64]; omega
    have hd := delete_Lease (enc := encL) p.leases i (i + 1) g2 hi rfl
    have hc1 : (p.rule.cool == 0) = true := by simpa using hc
    rw [hcl]
    replace hcl := Lib.hid hcl
    replace hc := Lib.hid hc
    repeat' (first | (with_reducible refine And.intro ?_ ?_) | (with_reducible refine gK_i (fun _ => ?_) (fun _ => ?_)) | (with_reducible refine condS_i (fun _ => ?_) (fun _ => ?_)) | (with_reducible refine drw_i (by kernel_rfl)) | simp -dsimp only [go_sem, ↓reduceIte, reduceCtorEq, Nat.reduceAdd, Nat.reduceMul, Nat.reduceSub, Nat.reduceLeDiff, Nat.reduceLT, Nat.reduceEqDiff, Int.reduceLE, Int.reduceLT, Int.reduceToNat, Int.reduceBEq, Int.reduceBNe, Int.reduceEq, Int.reduceAdd, Int.reduceSub, Int.reduceMul, Int.reduceNeg, Int.cast_ofNat_Int, *, encL, polRow, zipR_get, zipR_set, hwr, hc1] | ((with_reducible refine opK_c ?_); simp -dsimp only [go_sem, ↓reduceIte, reduceCtorEq, Nat.reduceAdd, Nat.reduceMul, Nat.reduceSub, Nat.reduceLeDiff, Nat.reduceLT, Nat.reduceEqDiff, Int.reduceLE, Int.reduceLT, Int.reduceToNat, Int.reduceBEq, Int.reduceBNe, Int.reduceEq, Int.reduceAdd, Int.reduceSub, Int.reduceMul, Int.reduceNeg, Int.cast_ofNat_Int, encL, polRow, zipR_get, zipR_set, hwr, hc1]; first | refine callK_r (by first | assumption | fail) (by first | exact .inl rfl | exact .inr rfl) ?_ | (refine callK_i (by assumption) ?_ ?_ ?_; (solve | (repeat (first | exact DLe.refl _ | exact DLe.nil _ | (refine DLe.tup ?_) | (refine DLe.agg ?_ rfl) | exact trivial | (refine And.intro ?_ ?_)))); (solve | exact .inl rfl | exact .inr rfl))) | (refine opK_M [1] (hd) ?_ ?_ ?_ ?_ ?_ ?_; (solve | rfl | simp only [go_sem, ↓reduceIte, reduceCtorEq, Nat.reduceAdd, Nat.reduceMul, Nat.reduceSub, Nat.reduceLeDiff, Nat.reduceLT, Nat.reduceEqDiff, Int.reduceLE, Int.reduceLT, Int.reduceToNat, Int.reduceBEq, Int.reduceBNe, Int.reduceEq, Int.reduceAdd, Int.reduceSub, Int.reduceMul, Int.reduceNeg, Int.cast_ofNat_Int, encL]); (solve | rfl); (solve | decide); (solve | simp); (solve | simp only [go_sem, ↓reduceIte, reduceCtorEq, Nat.reduceAdd, Nat.reduceMul, Nat.reduceSub, Nat.reduceLeDiff, Nat.reduceLT, Nat.reduceEqDiff, Int.reduceLE, Int.reduceLT, Int.reduceToNat, Int.reduceBEq, Int.reduceBNe, Int.reduceEq, Int.reduceAdd, Int.reduceSub, Int.reduceMul, Int.reduceNeg, Int.cast_ofNat_Int, lentOK, encL])) | omega | exact decide_eq_true (by omega) | exact DLe.refl _)
    exact zip_freeze pre post p g (g2 + 1) (p.leases.eraseIdx i)
  · have hwr : IntKind.i64.wrap (tick + p.rule.cool) = tick + p.rule.cool := by rw [IntKind.wrap_i64]; omega
    have hc1 : (p.rule.cool == 0) = false := by simpa using hc
    obtain ⟨l, hl2⟩ : ∃ l, p.leases[i]? = some l := ⟨_, List.getElem?_eq_getElem hi⟩
    have hset := dRows_setrow encL p.leases i ⟨l.at_, 3, 0, tick + p.rule.cool⟩
    have hcl : coolL p i tick = p.leases.set i ⟨l.at_, 3, 0, tick + p.rule.cool⟩ := by unfold coolL; rw [if_neg hc, hl2]
    simp only [encL, List.map_cons, List.map_nil] at hset
    rw [hcl]
    replace hcl := Lib.hid hcl
    repeat' (first | (with_reducible refine And.intro ?_ ?_) | (with_reducible refine gK_i (fun _ => ?_) (fun _ => ?_)) | (with_reducible refine condS_i (fun _ => ?_) (fun _ => ?_)) | (with_reducible refine drw_i (by kernel_rfl)) | simp -dsimp only [go_sem, ↓reduceIte, reduceCtorEq, Nat.reduceAdd, Nat.reduceMul, Nat.reduceSub, Nat.reduceLeDiff, Nat.reduceLT, Nat.reduceEqDiff, Int.reduceLE, Int.reduceLT, Int.reduceToNat, Int.reduceBEq, Int.reduceBNe, Int.reduceEq, Int.reduceAdd, Int.reduceSub, Int.reduceMul, Int.reduceNeg, Int.cast_ofNat_Int, *, encL, polRow, zipR_get, zipR_set, hwr, hc1, hl2, hset] | ((with_reducible refine opK_c ?_); simp -dsimp only [go_sem, ↓reduceIte, reduceCtorEq, Nat.reduceAdd, Nat.reduceMul, Nat.reduceSub, Nat.reduceLeDiff, Nat.reduceLT, Nat.reduceEqDiff, Int.reduceLE, Int.reduceLT, Int.reduceToNat, Int.reduceBEq, Int.reduceBNe, Int.reduceEq, Int.reduceAdd, Int.reduceSub, Int.reduceMul, Int.reduceNeg, Int.cast_ofNat_Int, encL, polRow, zipR_get, zipR_set, hwr, hc1, hl2, hset]; first | refine callK_r (by first | assumption | fail) (by first | exact .inl rfl | exact .inr rfl) ?_ | (refine callK_i (by assumption) ?_ ?_ ?_; (solve | (repeat (first | exact DLe.refl _ | exact DLe.nil _ | (refine DLe.tup ?_) | (refine DLe.agg ?_ rfl) | exact trivial | (refine And.intro ?_ ?_)))); (solve | exact .inl rfl | exact .inr rfl))) | fail | omega | exact decide_eq_true (by omega) | exact DLe.refl _)
    exact zip_freeze pre post p g g2 (p.leases.set i ⟨l.at_, 3, 0, tick + p.rule.cool⟩)
/-- A pool at its place. -/
def insB (p : Pol) (ps : List Pol) : List Pol := ps.take (lbN (fun x => x.id) p.id ps) ++ p :: ps.drop (lbN (fun x => x.id) p.id ps)
set_option maxRecDepth 100000 in
theorem put_m (ps : List Pol) (p : Pol) (g : Nat) (tick : D) (h8 : ps.length ≤ 8) (hr : Rise ps) (ht : tick.one = true) :
    MSpec Try.prog 38 [.ptr 0 0, .d (.agg (encPol p))] [.box 24 [.d tick, .own 1 g], .row 46 9 g (dRows (ps.map encPol))] (.d (.tup [])) [.box 24 [.d tick, .own 1 (g + 1)], .row 46 9 (g + 1) (dRows ((insB p ps).map encPol))] := by
  have hbs := bsrf_Pool encPol_len (fun x => x.id) ps p.id 78 [] (by omega) hr (fun x _ => byId_p x p.id)
  have hle := lbN_le (fun x : Pol => x.id) p.id ps
  have hins := insert_Pool ps p (lbN (fun x : Pol => x.id) p.id ps) g hle (by omega)
  refine ms_w tab_ok mixed Try.func38 rfl Try.ntmps38 Try.results38 (by kernel_rfl) (Nat.le_refl _) (by simp [belowL, belowP]) (by simp [belowH, belowC, belowL, belowP, belowR_d]) ?_
  repeat' (first | (with_reducible refine And.intro ?_ ?_) | (with_reducible refine gK_i (fun _ => ?_) (fun _ => ?_)) | (with_reducible refine condS_i (fun _ => ?_) (fun _ => ?_)) | (with_reducible refine drw_i (by kernel_rfl)) | simp -dsimp only [go_sem, ↓reduceIte, reduceCtorEq, Nat.reduceAdd, Nat.reduceMul, Nat.reduceSub, Nat.reduceLeDiff, Nat.reduceLT, Nat.reduceEqDiff, Int.reduceLE, Int.reduceLT, Int.reduceToNat, Int.reduceBEq, Int.reduceBNe, Int.reduceEq, Int.reduceAdd, Int.reduceSub, Int.reduceMul, Int.reduceNeg, Int.cast_ofNat_Int, *, encPol] | ((with_reducible refine opK_c ?_); simp -dsimp only [go_sem, ↓reduceIte, reduceCtorEq, Nat.reduceAdd, Nat.reduceMul, Nat.reduceSub, Nat.reduceLeDiff, Nat.reduceLT, Nat.reduceEqDiff, Int.reduceLE, Int.reduceLT, Int.reduceToNat, Int.reduceBEq, Int.reduceBNe, Int.reduceEq, Int.reduceAdd, Int.reduceSub, Int.reduceMul, Int.reduceNeg, Int.cast_ofNat_Int, encPol]; first | refine callK_r (by first | assumption | exact hbs) (by first | exact .inl rfl | exact .inr rfl) ?_ | (refine callK_i (by assumption) ?_ ?_ ?_; (solve | (repeat (first | exact DLe.refl _ | exact DLe.nil _ | (refine DLe.tup ?_) | (refine DLe.agg ?_ rfl) | exact trivial | (refine And.intro ?_ ?_)))); (solve | exact .inl rfl | exact .inr rfl))) | (refine opK_M [1] (hins) ?_ ?_ ?_ ?_ ?_ ?_; (solve | rfl | simp only [go_sem, ↓reduceIte, reduceCtorEq, Nat.reduceAdd, Nat.reduceMul, Nat.reduceSub, Nat.reduceLeDiff, Nat.reduceLT, Nat.reduceEqDiff, Int.reduceLE, Int.reduceLT, Int.reduceToNat, Int.reduceBEq, Int.reduceBNe, Int.reduceEq, Int.reduceAdd, Int.reduceSub, Int.reduceMul, Int.reduceNeg, Int.cast_ofNat_Int, encPol]); (solve | rfl); (solve | decide); (solve | simp); (solve | simp only [go_sem, ↓reduceIte, reduceCtorEq, Nat.reduceAdd, Nat.reduceMul, Nat.reduceSub, Nat.reduceLeDiff, Nat.reduceLT, Nat.reduceEqDiff, Int.reduceLE, Int.reduceLT, Int.reduceToNat, Int.reduceBEq, Int.reduceBNe, Int.reduceEq, Int.reduceAdd, Int.reduceSub, Int.reduceMul, Int.reduceNeg, Int.cast_ofNat_Int, lentOK, encPol])) | omega | exact decide_eq_true (by omega) | exact DLe.refl _)
  exact weak_forget _ (by simp) (by rfl) ⟨rfl, trivial⟩ (by first | rfl | simp only [belowH, belowE, belowC, belowL, belowR, belowP, belowL_d, belowR_d, belowR_zip, polRow, List.length_cons, List.length_nil, Nat.reduceAdd, Nat.reduceLT, decide_true, Bool.and_self, Bool.and_true]) (by first | rfl | simp only [belowH, belowE, belowC, belowL, belowR, belowP, belowL_d, belowR_d, belowR_zip, polRow, List.length_cons, List.length_nil, Nat.reduceAdd, Nat.reduceLT, decide_true, Bool.and_self, Bool.and_true])
end Go.Proofs.Ytbeocackphfijaa
namespace Go.Proofs.Ytbeocackphfijaa
open Go Go.RowKit
def Bok.zero : Bok := ⟨0, []⟩
theorem poolOf_some {b : Bok} {id : Int} {q : Pol} (h : poolOf b id = some q) : ∃ i : Nat, b.pools[i]? = some q ∧ q.id = id := by
  have h1 := List.find?_some h
  have h2 := List.mem_of_find?_eq_some h
  obtain ⟨i, hi, rfl⟩ := List.mem_iff_getElem.1 h2
  exact ⟨i, List.getElem?_eq_getElem hi, by simpa using h1⟩
theorem poolOf_split {b : Bok} {id : Int} {q : Pol} (h : poolOf b id = some q) : ∃ pre post, b.pools = pre ++ q :: post ∧ q.id = id := by
  obtain ⟨i, hi, he⟩ := poolOf_some h
  obtain ⟨hlt, rfl⟩ := List.getElem?_eq_some_iff.1 hi
  exact ⟨b.pools.take i, b.pools.drop (i + 1), by rw [List.getElem_cons_drop, List.take_append_drop], he⟩
def openE (b : Bok) (id : Int) (root : Pfx) (r : Rul) : Int :=
  if idOK id = false ∨ chk root.at_ root.len ≠ 0 then 3 else
  if (poolOf b id).isSome = true ∨ (b.pools.any fun p => (p.up == 0) && p.root.meets root) = true then 6 else
  if ruleOK r root.len = false then 1 else if b.pools.length = 8 then 2 else 0
/-- Open's answer. -/
def openR (b : Bok) (id : Int) (root : Pfx) (r : Rul) : Bok × Int :=
  if chkBk b ≠ 0 then (Bok.zero, chkBk b) else if openE b id root r ≠ 0 then (Bok.zero, openE b id root r) else (⟨b.tick, insB ⟨id, 0, root, r, []⟩ b.pools⟩, 0)
theorem open1_p (p : Pol) (root : Pfx) : PSpec Try.prog 36 [.agg (encPol p), .ept (encP root)] (.v (.bool ((p.up == 0) && p.root.meets root))) := by
  have hm := meets_p p.root root
  refine ps_i tab_ok mixed Try.func36 rfl Try.ntmps36 Try.results36 (by kernel_rfl) ?_
  repeat' (first | (with_reducible refine And.intro ?_ ?_) | (with_reducible refine gK_i (fun _ => ?_) (fun _ => ?_)) | (with_reducible refine condS_i (fun _ => ?_) (fun _ => ?_)) | (with_reducible refine drw_i (by kernel_rfl)) | simp -dsimp only [go_sem, ↓reduceIte, reduceCtorEq, Nat.reduceAdd, Nat.reduceMul, Nat.reduceSub, Nat.reduceLeDiff, Nat.reduceLT, Nat.reduceEqDiff, Int.reduceLE, Int.reduceLT, Int.reduceToNat, Int.reduceBEq, Int.reduceBNe, Int.reduceEq, Int.reduceAdd, Int.reduceSub, Int.reduceMul, Int.reduceNeg, Int.cast_ofNat_Int, *, encPol, encP] | ((with_reducible refine opK_c ?_); simp -dsimp only [go_sem, ↓reduceIte, reduceCtorEq, Nat.reduceAdd, Nat.reduceMul, Nat.reduceSub, Nat.reduceLeDiff, Nat.reduceLT, Nat.reduceEqDiff, Int.reduceLE, Int.reduceLT, Int.reduceToNat, Int.reduceBEq, Int.reduceBNe, Int.reduceEq, Int.reduceAdd, Int.reduceSub, Int.reduceMul, Int.reduceNeg, Int.cast_ofNat_Int, encPol, encP]; first | refine callK_r (by first | assumption | exact hm) (by first | exact .inl rfl | exact .inr rfl) ?_ | (refine callK_i (by assumption) ?_ ?_ ?_; (solve | (repeat (first | exact DLe.refl _ | exact DLe.nil _ | (refine DLe.tup ?_) | (refine DLe.agg ?_ rfl) | exact trivial | (refine And.intro ?_ ?_)))); (solve | exact .inl rfl | exact .inr rfl))) | fail | omega | exact decide_eq_true (by omega) | exact DLe.refl _)
set_option maxRecDepth 100000 in
set_option maxHeartbeats 1000000 in
theorem open_p (b : Bok) (id : Int) (root : Pfx) (r : Rul) (hz : ∀ p ∈ b.pools, p.leases.length ≤ 3518437208882) : PSpec Try.prog 9 [.agg (encB b), .v (.int .i64 id), .agg (encP root), .agg (encR r)] (.tup [.agg (encB (openR b id root r).1), .v (.int .i64 (openR b id root r).2)]) := by
  by_cases hc : chkBk b = 0
  · have hbk := bookOK hc
    have hbg := beginD_m b hz hc
    have hid := ids_p id
    have hck := check_p root
    have hcn := cntf_Pool encPol_len (fun p => (p.up == 0) && p.root.meets root) b.pools 36 [.ept (encP root)] (by have := hbk.n8; omega) (fun p _ => open1_p p root)
    have hru := rule_p r root
    have hpt := (put_m b.pools ⟨id, 0, root, r, []⟩ b.pools.length (.v (.int .i64 b.tick)) hbk.n8 hbk.rise rfl).lep (args' := [.ptr 0 0, .d (.agg [.v (.int .i64 id), .v (.int .i64 0), .v (.int .i64 root.at_), .v (.int .i64 root.len), .v (.int .i64 r.min), .v (.int .i64 r.max), .v (.int .i64 r.usual), .v (.int .i64 r.cool), .v (.slice none 0 0)])]) ⟨.inl rfl, .inr ⟨_, _, rfl, rfl, (by repeat (first | exact DLe.refl _ | exact DLe.nil _ | (refine DLe.tup ?_) | (refine DLe.agg ?_ rfl) | exact trivial | (refine And.intro ?_ ?_)))⟩, trivial⟩ rfl
    obtain ⟨R, hR⟩ : ∃ R, R = openR b id root r := ⟨_, rfl⟩
    rw [← hR]
    replace hR := Lib.hid hR
    cases hq : poolOf b id with
    | none =>
      have hf := find_p b id (by have := hbk.n8; omega) hbk.rise
      unfold findR at hf
      rw [hq] at hf
      refine ps_i tab_ok mixed Try.func9 rfl Try.ntmps9 Try.results9 (by kernel_rfl) ?_
      repeat' (first | (with_reducible refine And.intro ?_ ?_) | (with_reducible refine gK_i (fun _ => ?_) (fun _ => ?_)) | (with_reducible refine condS_i (fun _ => ?_) (fun _ => ?_)) | (with_reducible refine drw_i (by kernel_rfl)) | simp -dsimp only [go_sem, ↓reduceIte, reduceCtorEq, Nat.reduceAdd, Nat.reduceMul, Nat.reduceSub, Nat.reduceLeDiff, Nat.reduceLT, Nat.reduceEqDiff, Int.reduceLE, Int.reduceLT, Int.reduceToNat, Int.reduceBEq, Int.reduceBNe, Int.reduceEq, Int.reduceAdd, Int.reduceSub, Int.reduceMul, Int.reduceNeg, Int.cast_ofNat_Int, *, encB, encP, encR] | ((with_reducible refine opK_c ?_); simp -dsimp only [go_sem, ↓reduceIte, reduceCtorEq, Nat.reduceAdd, Nat.reduceMul, Nat.reduceSub, Nat.reduceLeDiff, Nat.reduceLT, Nat.reduceEqDiff, Int.reduceLE, Int.reduceLT, Int.reduceToNat, Int.reduceBEq, Int.reduceBNe, Int.reduceEq, Int.reduceAdd, Int.reduceSub, Int.reduceMul, Int.reduceNeg, Int.cast_ofNat_Int, encB, encP, encR]; first | refine callK_r (by first | assumption | exact hf | exact hid | exact hck | exact hcn | exact hru) (by first | exact .inl rfl | exact .inr rfl) ?_ | (refine callK_i (by assumption) ?_ ?_ ?_; (solve | (repeat (first | exact DLe.refl _ | exact DLe.nil _ | (refine DLe.tup ?_) | (refine DLe.agg ?_ rfl) | exact trivial | (refine And.intro ?_ ?_)))); (solve | exact .inl rfl | exact .inr rfl))) | (refine opK_M [] (hbg) ?_ ?_ ?_ ?_ ?_ ?_; (solve | rfl | simp only [go_sem, ↓reduceIte, reduceCtorEq, Nat.reduceAdd, Nat.reduceMul, Nat.reduceSub, Nat.reduceLeDiff, Nat.reduceLT, Nat.reduceEqDiff, Int.reduceLE, Int.reduceLT, Int.reduceToNat, Int.reduceBEq, Int.reduceBNe, Int.reduceEq, Int.reduceAdd, Int.reduceSub, Int.reduceMul, Int.reduceNeg, Int.cast_ofNat_Int, encB]); (solve | rfl); (solve | decide); (solve | simp); (solve | simp only [go_sem, ↓reduceIte, reduceCtorEq, Nat.reduceAdd, Nat.reduceMul, Nat.reduceSub, Nat.reduceLeDiff, Nat.reduceLT, Nat.reduceEqDiff, Int.reduceLE, Int.reduceLT, Int.reduceToNat, Int.reduceBEq, Int.reduceBNe, Int.reduceEq, Int.reduceAdd, Int.reduceSub, Int.reduceMul, Int.reduceNeg, Int.cast_ofNat_Int, lentOK, encB])) | (refine opK_M [6, 7] (hpt) ?_ ?_ ?_ ?_ ?_ ?_; (solve | rfl | simp only [go_sem, ↓reduceIte, reduceCtorEq, Nat.reduceAdd, Nat.reduceMul, Nat.reduceSub, Nat.reduceLeDiff, Nat.reduceLT, Nat.reduceEqDiff, Int.reduceLE, Int.reduceLT, Int.reduceToNat, Int.reduceBEq, Int.reduceBNe, Int.reduceEq, Int.reduceAdd, Int.reduceSub, Int.reduceMul, Int.reduceNeg, Int.cast_ofNat_Int, encP]); (solve | rfl); (solve | decide); (solve | simp); (solve | simp only [go_sem, ↓reduceIte, reduceCtorEq, Nat.reduceAdd, Nat.reduceMul, Nat.reduceSub, Nat.reduceLeDiff, Nat.reduceLT, Nat.reduceEqDiff, Int.reduceLE, Int.reduceLT, Int.reduceToNat, Int.reduceBEq, Int.reduceBNe, Int.reduceEq, Int.reduceAdd, Int.reduceSub, Int.reduceMul, Int.reduceNeg, Int.cast_ofNat_Int, lentOK, encP])) | omega | exact decide_eq_true (by omega) | exact DLe.refl _)
      all_goals clear hf hid hck hcn hru hbg hpt hz
      all_goals first
        | (rw [show R = (Bok.zero, 3) from (by rw [hR.out]; unfold openR openE; grind)]; (try simp only [List.map_append, List.map_cons]); exact (by repeat (first | exact DLe.refl _ | exact DLe.nil _ | (refine DLe.tup ?_) | (refine DLe.agg ?_ rfl) | exact trivial | (refine And.intro ?_ ?_))))
        | (rw [show R = (Bok.zero, 6) from (by rw [hR.out]; unfold openR openE; grind)]; (try simp only [List.map_append, List.map_cons]); exact (by repeat (first | exact DLe.refl _ | exact DLe.nil _ | (refine DLe.tup ?_) | (refine DLe.agg ?_ rfl) | exact trivial | (refine And.intro ?_ ?_))))
        | (rw [show R = (Bok.zero, 1) from (by rw [hR.out]; unfold openR openE; grind)]; (try simp only [List.map_append, List.map_cons]); exact (by repeat (first | exact DLe.refl _ | exact DLe.nil _ | (refine DLe.tup ?_) | (refine DLe.agg ?_ rfl) | exact trivial | (refine And.intro ?_ ?_))))
        | (rw [show R = (Bok.zero, 2) from (by rw [hR.out]; unfold openR openE; grind)]; (try simp only [List.map_append, List.map_cons]); exact (by repeat (first | exact DLe.refl _ | exact DLe.nil _ | (refine DLe.tup ?_) | (refine DLe.agg ?_ rfl) | exact trivial | (refine And.intro ?_ ?_))))
        | (rw [show R = (⟨b.tick, insB ⟨id, 0, root, r, []⟩ b.pools⟩, 0) from (by rw [hR.out]; unfold openR openE; grind)]; (try simp only [List.map_append, List.map_cons]); exact (by repeat (first | exact DLe.refl _ | exact DLe.nil _ | (refine DLe.tup ?_) | (refine DLe.agg ?_ rfl) | exact trivial | (refine And.intro ?_ ?_))))
    | some q =>
      obtain ⟨i, hqi, rfl⟩ := poolOf_some hq
      have hf := find_m b i q b.pools.length (dRows (b.pools.map encPol)) [] (.d (.v (.int .i64 b.tick))) hqi hbk.rise hbk.n8 (by simp [dRows_len]) (viewR_d _ _ _) (belowR_d _ _) rfl rfl
      replace hqi := Lib.hid hqi
      refine ps_i tab_ok mixed Try.func9 rfl Try.ntmps9 Try.results9 (by kernel_rfl) ?_
      repeat' (first | (with_reducible refine And.intro ?_ ?_) | (with_reducible refine gK_i (fun _ => ?_) (fun _ => ?_)) | (with_reducible refine condS_i (fun _ => ?_) (fun _ => ?_)) | (with_reducible refine drw_i (by kernel_rfl)) | simp -dsimp only [go_sem, ↓reduceIte, reduceCtorEq, Nat.reduceAdd, Nat.reduceMul, Nat.reduceSub, Nat.reduceLeDiff, Nat.reduceLT, Nat.reduceEqDiff, Int.reduceLE, Int.reduceLT, Int.reduceToNat, Int.reduceBEq, Int.reduceBNe, Int.reduceEq, Int.reduceAdd, Int.reduceSub, Int.reduceMul, Int.reduceNeg, Int.cast_ofNat_Int, *, encB, encP, encR] | ((with_reducible refine opK_c ?_); simp -dsimp only [go_sem, ↓reduceIte, reduceCtorEq, Nat.reduceAdd, Nat.reduceMul, Nat.reduceSub, Nat.reduceLeDiff, Nat.reduceLT, Nat.reduceEqDiff, Int.reduceLE, Int.reduceLT, Int.reduceToNat, Int.reduceBEq, Int.reduceBNe, Int.reduceEq, Int.reduceAdd, Int.reduceSub, Int.reduceMul, Int.reduceNeg, Int.cast_ofNat_Int, encB, encP, encR]; first | refine callK_r (by first | assumption | exact hid | exact hck | exact hcn | exact hru) (by first | exact .inl rfl | exact .inr rfl) ?_ | (refine callK_i (by assumption) ?_ ?_ ?_; (solve | (repeat (first | exact DLe.refl _ | exact DLe.nil _ | (refine DLe.tup ?_) | (refine DLe.agg ?_ rfl) | exact trivial | (refine And.intro ?_ ?_)))); (solve | exact .inl rfl | exact .inr rfl))) | (refine opK_M [] (hbg) ?_ ?_ ?_ ?_ ?_ ?_; (solve | rfl | simp only [go_sem, ↓reduceIte, reduceCtorEq, Nat.reduceAdd, Nat.reduceMul, Nat.reduceSub, Nat.reduceLeDiff, Nat.reduceLT, Nat.reduceEqDiff, Int.reduceLE, Int.reduceLT, Int.reduceToNat, Int.reduceBEq, Int.reduceBNe, Int.reduceEq, Int.reduceAdd, Int.reduceSub, Int.reduceMul, Int.reduceNeg, Int.cast_ofNat_Int, encB]); (solve | rfl); (solve | decide); (solve | simp); (solve | simp only [go_sem, ↓reduceIte, reduceCtorEq, Nat.reduceAdd, Nat.reduceMul, Nat.reduceSub, Nat.reduceLeDiff, Nat.reduceLT, Nat.reduceEqDiff, Int.reduceLE, Int.reduceLT, Int.reduceToNat, Int.reduceBEq, Int.reduceBNe, Int.reduceEq, Int.reduceAdd, Int.reduceSub, Int.reduceMul, Int.reduceNeg, Int.cast_ofNat_Int, lentOK, encB])) | (refine opK_M [6, 7] (hf) ?_ ?_ ?_ ?_ ?_ ?_; (solve | rfl | simp only [go_sem, ↓reduceIte, reduceCtorEq, Nat.reduceAdd, Nat.reduceMul, Nat.reduceSub, Nat.reduceLeDiff, Nat.reduceLT, Nat.reduceEqDiff, Int.reduceLE, Int.reduceLT, Int.reduceToNat, Int.reduceBEq, Int.reduceBNe, Int.reduceEq, Int.reduceAdd, Int.reduceSub, Int.reduceMul, Int.reduceNeg, Int.cast_ofNat_Int, encP]); (solve | rfl); (solve | decide); (solve | simp); (solve | simp only [go_sem, ↓reduceIte, reduceCtorEq, Nat.reduceAdd, Nat.reduceMul, Nat.reduceSub, Nat.reduceLeDiff, Nat.reduceLT, Nat.reduceEqDiff, Int.reduceLE, Int.reduceLT, Int.reduceToNat, Int.reduceBEq, Int.reduceBNe, Int.reduceEq, Int.reduceAdd, Int.reduceSub, Int.reduceMul, Int.reduceNeg, Int.cast_ofNat_Int, lentOK, encP])) | omega | exact decide_eq_true (by omega) | exact DLe.refl _)
      all_goals clear hf hid hck hcn hru hbg hpt hz
      all_goals first
        | (rw [show R = (Bok.zero, 3) from (by rw [hR.out]; unfold openR openE; grind)]; (try simp only [List.map_append, List.map_cons]); exact (by repeat (first | exact DLe.refl _ | exact DLe.nil _ | (refine DLe.tup ?_) | (refine DLe.agg ?_ rfl) | exact trivial | (refine And.intro ?_ ?_))))
        | (rw [show R = (Bok.zero, 6) from (by rw [hR.out]; unfold openR openE; grind)]; (try simp only [List.map_append, List.map_cons]); exact (by repeat (first | exact DLe.refl _ | exact DLe.nil _ | (refine DLe.tup ?_) | (refine DLe.agg ?_ rfl) | exact trivial | (refine And.intro ?_ ?_))))
  · have hbg := beginE_p b hz hc
    have hr : openR b id root r = (Bok.zero, chkBk b) := by unfold openR; rw [if_pos hc]
    have h1 : (chkBk b != 0) = true := by simpa using hc
    rw [hr]
    replace hr := Lib.hid hr
    refine ps_i tab_ok mixed Try.func9 rfl Try.ntmps9 Try.results9 (by kernel_rfl) ?_
    repeat' (first | (with_reducible refine And.intro ?_ ?_) | (with_reducible refine gK_i (fun _ => ?_) (fun _ => ?_)) | (with_reducible refine condS_i (fun _ => ?_) (fun _ => ?_)) | (with_reducible refine drw_i (by kernel_rfl)) | simp -dsimp only [go_sem, ↓reduceIte, reduceCtorEq, Nat.reduceAdd, Nat.reduceMul, Nat.reduceSub, Nat.reduceLeDiff, Nat.reduceLT, Nat.reduceEqDiff, Int.reduceLE, Int.reduceLT, Int.reduceToNat, Int.reduceBEq, Int.reduceBNe, Int.reduceEq, Int.reduceAdd, Int.reduceSub, Int.reduceMul, Int.reduceNeg, Int.cast_ofNat_Int, *, encB, encP, encR, h1] | ((with_reducible refine opK_c ?_); simp -dsimp only [go_sem, ↓reduceIte, reduceCtorEq, Nat.reduceAdd, Nat.reduceMul, Nat.reduceSub, Nat.reduceLeDiff, Nat.reduceLT, Nat.reduceEqDiff, Int.reduceLE, Int.reduceLT, Int.reduceToNat, Int.reduceBEq, Int.reduceBNe, Int.reduceEq, Int.reduceAdd, Int.reduceSub, Int.reduceMul, Int.reduceNeg, Int.cast_ofNat_Int, encB, encP, encR, h1]; first | refine callK_r (by first | assumption | exact hbg) (by first | exact .inl rfl | exact .inr rfl) ?_ | (refine callK_i (by assumption) ?_ ?_ ?_; (solve | (repeat (first | exact DLe.refl _ | exact DLe.nil _ | (refine DLe.tup ?_) | (refine DLe.agg ?_ rfl) | exact trivial | (refine And.intro ?_ ?_)))); (solve | exact .inl rfl | exact .inr rfl))) | fail | omega | exact decide_eq_true (by omega) | exact DLe.refl _)
    exact (by repeat (first | exact DLe.refl _ | exact DLe.nil _ | (refine DLe.tup ?_) | (refine DLe.agg ?_ rfl) | exact trivial | (refine And.intro ?_ ?_)))
end Go.Proofs.Ytbeocackphfijaa
namespace Go.Proofs.Ytbeocackphfijaa
open Go Go.RowKit
theorem viewR_app (f : PV → Option D) : ∀ (l m : List (List PV)), viewR f (l ++ m) = match viewR f l, viewR f m with | some a, some b => some (a ++ b) | _, _ => none
  | [], m => by simp only [List.nil_append, viewR]; cases viewR f m <;> rfl
  | r :: l, m => by
    simp only [List.cons_append, viewR, viewR_app f l m]
    cases viewL f r <;> cases viewR f l <;> cases viewR f m <;> rfl
theorem viewR_zip (h : Nat → Chunk) (n : Nat) (pre : List Pol) (r : List PV) (post : List Pol) : viewR (viewF h n) (zipR pre r post) = match viewL (viewF h n) r with | some d => some (pre.map encPol ++ d :: post.map encPol) | none => none := by
  simp only [zipR, viewR_app, viewR, viewR_d]
  cases viewL (viewF h n) r <;> rfl
theorem lease_rise {p : Pol} (h : chkS p.root (usedP p) = 0) : p.leases.Pairwise fun a b => a.at_.at_ < b.at_.at_ := by
  obtain ⟨h1, h2, h3, h4⟩ := chkS_ok.1 h
  unfold usedP at h3 h4
  rw [List.pairwise_map] at h4
  refine h4.imp_of_mem fun {a b} ha hb hab => ?_
  have hr := (insQ_hi.1 (h3 a.at_ (List.mem_map.2 ⟨a, ha, rfl⟩))).1
  have := Pfx.hi_bd hr
  unfold Apart at hab
  omega
/-- A book with one pool turned. -/
def updB (b : Bok) (id : Int) (f : Pol → Pol) : Bok := ⟨b.tick, b.pools.map fun q => if q.id == id then f q else q⟩
theorem updB_split {b : Bok} {pre post : List Pol} {p : Pol} (hr : Rise b.pools) (h : b.pools = pre ++ p :: post) (f : Pol → Pol) : updB b p.id f = ⟨b.tick, pre ++ f p :: post⟩ := by
  unfold updB
  rw [h]
  have hr' := hr
  rw [h] at hr'
  obtain ⟨h1, h2, h3⟩ := List.pairwise_append.1 hr'
  rw [List.pairwise_cons] at h2
  have e1 : pre.map (fun q => if q.id == p.id then f q else q) = pre := by
    conv => rhs; rw [← List.map_id pre]
    refine List.map_congr_left fun q hq => ?_
    have := h3 q hq p (by simp)
    rw [if_neg (by simp; omega)]; rfl
  have e2 : post.map (fun q => if q.id == p.id then f q else q) = post := by
    conv => rhs; rw [← List.map_id post]
    refine List.map_congr_left fun q hq => ?_
    have := h2.1 q hq
    rw [if_neg (by simp; omega)]; rfl
  rw [List.map_append, List.map_cons, e1, e2]
  simp
/-- Take's answer. -/
def takeR (b : Bok) (id size owner : Int) : Bok × Pfx × Int :=
  if chkBk b ≠ 0 then (Bok.zero, Pfx.zero, chkBk b) else
  match poolOf b id with
  | none => (Bok.zero, Pfx.zero, 5)
  | some p =>
    if idOK owner = false then (Bok.zero, Pfx.zero, 3) else
    let f := fitE p (if size = 0 then p.rule.usual else size)
    if f.2 ≠ 0 then (Bok.zero, Pfx.zero, f.2) else (updB b id fun p => { p with leases := insL ⟨f.1, 1, owner, 0⟩ p.leases }, f.1, 0)
set_option maxRecDepth 100000 in
set_option maxHeartbeats 1000000 in
theorem take_p (b : Bok) (id size owner : Int) (hz : ∀ p ∈ b.pools, p.leases.length ≤ 3518437208882) : PSpec Try.prog 17 [.agg (encB b), .v (.int .i64 id), .v (.int .i64 size), .v (.int .i64 owner)] (.tup [.agg (encB (takeR b id size owner).1), .agg (encP (takeR b id size owner).2.1), .v (.int .i64 (takeR b id size owner).2.2)]) := by
  obtain ⟨R, hR⟩ : ∃ R, R = takeR b id size owner := ⟨_, rfl⟩
  rw [← hR]
  replace hR := Lib.hid hR
  by_cases hc : chkBk b = 0
  · have hbk := bookOK hc
    have hid := ids_p owner
    cases hq : poolOf b id with
    | none =>
      have hbg := beginD_m b hz hc
      have hf := find_p b id (by have := hbk.n8; omega) hbk.rise
      unfold findR at hf
      rw [hq] at hf
      replace hc := Lib.hid hc
      replace hq := Lib.hid hq
      refine ps_i tab_ok mixed Try.func17 rfl Try.ntmps17 Try.results17 (by kernel_rfl) ?_
      repeat' (first | (with_reducible refine And.intro ?_ ?_) | (with_reducible refine gK_i (fun _ => ?_) (fun _ => ?_)) | (with_reducible refine condS_i (fun _ => ?_) (fun _ => ?_)) | (with_reducible refine drw_i (by kernel_rfl)) | simp -dsimp only [go_sem, ↓reduceIte, reduceCtorEq, Nat.reduceAdd, Nat.reduceMul, Nat.reduceSub, Nat.reduceLeDiff, Nat.reduceLT, Nat.reduceEqDiff, Int.reduceLE, Int.reduceLT, Int.reduceToNat, Int.reduceBEq, Int.reduceBNe, Int.reduceEq, Int.reduceAdd, Int.reduceSub, Int.reduceMul, Int.reduceNeg, Int.cast_ofNat_Int, *, encB, encP] | ((with_reducible refine opK_c ?_); simp -dsimp only [go_sem, ↓reduceIte, reduceCtorEq, Nat.reduceAdd, Nat.reduceMul, Nat.reduceSub, Nat.reduceLeDiff, Nat.reduceLT, Nat.reduceEqDiff, Int.reduceLE, Int.reduceLT, Int.reduceToNat, Int.reduceBEq, Int.reduceBNe, Int.reduceEq, Int.reduceAdd, Int.reduceSub, Int.reduceMul, Int.reduceNeg, Int.cast_ofNat_Int, encB, encP]; first | refine callK_r (by first | assumption | exact hf) (by first | exact .inl rfl | exact .inr rfl) ?_ | (refine callK_i (by assumption) ?_ ?_ ?_; (solve | (repeat (first | exact DLe.refl _ | exact DLe.nil _ | (refine DLe.tup ?_) | (refine DLe.agg ?_ rfl) | exact trivial | (refine And.intro ?_ ?_)))); (solve | exact .inl rfl | exact .inr rfl))) | (refine opK_M [] (hbg) ?_ ?_ ?_ ?_ ?_ ?_; (solve | rfl | simp only [go_sem, ↓reduceIte, reduceCtorEq, Nat.reduceAdd, Nat.reduceMul, Nat.reduceSub, Nat.reduceLeDiff, Nat.reduceLT, Nat.reduceEqDiff, Int.reduceLE, Int.reduceLT, Int.reduceToNat, Int.reduceBEq, Int.reduceBNe, Int.reduceEq, Int.reduceAdd, Int.reduceSub, Int.reduceMul, Int.reduceNeg, Int.cast_ofNat_Int, encB]); (solve | rfl); (solve | decide); (solve | simp); (solve | simp only [go_sem, ↓reduceIte, reduceCtorEq, Nat.reduceAdd, Nat.reduceMul, Nat.reduceSub, Nat.reduceLeDiff, Nat.reduceLT, Nat.reduceEqDiff, Int.reduceLE, Int.reduceLT, Int.reduceToNat, Int.reduceBEq, Int.reduceBNe, Int.reduceEq, Int.reduceAdd, Int.reduceSub, Int.reduceMul, Int.reduceNeg, Int.cast_ofNat_Int, lentOK, encB])) | omega | exact decide_eq_true (by omega) | exact DLe.refl _)
      rw [show R = (Bok.zero, Pfx.zero, 5) from (by rw [hR.out]; unfold takeR; rw [if_neg (by simpa using hc.out), hq.out])]
      exact (by repeat (first | exact DLe.refl _ | exact DLe.nil _ | (refine DLe.tup ?_) | (refine DLe.agg ?_ rfl) | exact trivial | (refine And.intro ?_ ?_)))
    | some p =>
      obtain ⟨pre, post, hp, rfl⟩ := poolOf_split hq
      have hbg := beginZ_m b pre post p hp hz hc
      have hpm : p ∈ b.pools := by rw [hp]; simp
      have hpi : b.pools[pre.length]? = some p := by rw [hp, List.getElem?_append_right (Nat.le_refl _), Nat.sub_self]; rfl
      have hl32 := hbk.l32 p hpm
      have hvw : viewR (viewF (hatL [.box 24 [.d (.v (.int .i64 b.tick)), .own 1 b.pools.length], .row 46 9 b.pools.length (zipR pre (polRow p (.own 2 1)) post), .row 50 5 1 (dRows (p.leases.map encL))]) 5) (zipR pre (polRow p (.own 2 1)) post) = some (b.pools.map encPol) := by
        rw [hp]
        simp only [viewR_zip, polRow, viewL, viewF, hatL, viewR_d, if_true, Option.map_some, List.map_append, List.map_cons]; rfl
      have hf := find_m b pre.length p b.pools.length (zipR pre (polRow p (.own 2 1)) post) [.row 50 5 1 (dRows (p.leases.map encL))] (.d (.v (.int .i64 b.tick))) hpi hbk.rise hbk.n8 (by rw [zipR_len, hp]; simp; omega) hvw (by rw [belowR_zip]; rfl) (by simp only [belowH, belowC, belowR_d, Bool.and_self]) rfl
      have hft := fun s => fit_p p s hl32
      have hlet := fun l => let_m pre post p l b.pools.length 1 hl32 (lease_rise (hbk.mem p hpm).2.1)
      have hup := fun f => updB_split hbk.rise hp f
      have hR2 : R = if idOK owner = false then (Bok.zero, Pfx.zero, 3) else if (fitE p (if size = 0 then p.rule.usual else size)).2 ≠ 0 then (Bok.zero, Pfx.zero, (fitE p (if size = 0 then p.rule.usual else size)).2) else
          (⟨b.tick, pre ++ { p with leases := insL ⟨(fitE p (if size = 0 then p.rule.usual else size)).1, 1, owner, 0⟩ p.leases } :: post⟩, (fitE p (if size = 0 then p.rule.usual else size)).1, 0) := by
        rw [hR.out]
        unfold takeR
        rw [if_neg (by simpa using hc), hq]
        simp only
        rw [hup]
      replace hR2 := Lib.hid hR2
      replace hc := Lib.hid hc
      replace hq := Lib.hid hq
      replace hp := Lib.hid hp
      replace hpi := Lib.hid hpi
      replace hup := Lib.hid hup
      clear hvw hpm
      cases h0 : size == 0 with
      | true =>
        have e0 : size = 0 := by simpa using h0
        have hR2 := hR2.out
        rw [if_pos e0] at hR2
        replace hR2 := Lib.hid hR2
        replace e0 := Lib.hid e0
        have hlt1 := hlet ⟨(fitE p p.rule.usual).1, 1, owner, 0⟩
        have hft1 := hft p.rule.usual
        clear hlet hft
        refine ps_i tab_ok mixed Try.func17 rfl Try.ntmps17 Try.results17 (by kernel_rfl) ?_
        repeat' (first | (with_reducible refine And.intro ?_ ?_) | (with_reducible refine gK_i (fun _ => ?_) (fun _ => ?_)) | (with_reducible refine condS_i (fun _ => ?_) (fun _ => ?_)) | (with_reducible refine drw_i (by kernel_rfl)) | simp -dsimp only [go_sem, ↓reduceIte, reduceCtorEq, Nat.reduceAdd, Nat.reduceMul, Nat.reduceSub, Nat.reduceLeDiff, Nat.reduceLT, Nat.reduceEqDiff, Int.reduceLE, Int.reduceLT, Int.reduceToNat, Int.reduceBEq, Int.reduceBNe, Int.reduceEq, Int.reduceAdd, Int.reduceSub, Int.reduceMul, Int.reduceNeg, Int.cast_ofNat_Int, *, encB, encP, encL, polRow, renR_zip, zipR_get, viewR_zip, h0] | ((with_reducible refine opK_c ?_); simp -dsimp only [go_sem, ↓reduceIte, reduceCtorEq, Nat.reduceAdd, Nat.reduceMul, Nat.reduceSub, Nat.reduceLeDiff, Nat.reduceLT, Nat.reduceEqDiff, Int.reduceLE, Int.reduceLT, Int.reduceToNat, Int.reduceBEq, Int.reduceBNe, Int.reduceEq, Int.reduceAdd, Int.reduceSub, Int.reduceMul, Int.reduceNeg, Int.cast_ofNat_Int, encB, encP, encL, polRow, renR_zip, zipR_get, viewR_zip, h0]; first | refine callK_r (by first | assumption | exact hid | exact hft1) (by first | exact .inl rfl | exact .inr rfl) ?_ | (refine callK_i (by assumption) ?_ ?_ ?_; (solve | (repeat (first | exact DLe.refl _ | exact DLe.nil _ | (refine DLe.tup ?_) | (refine DLe.agg ?_ rfl) | exact trivial | (refine And.intro ?_ ?_)))); (solve | exact .inl rfl | exact .inr rfl))) | (refine opK_M [] (hbg) ?_ ?_ ?_ ?_ ?_ ?_; (solve | rfl | simp only [go_sem, ↓reduceIte, reduceCtorEq, Nat.reduceAdd, Nat.reduceMul, Nat.reduceSub, Nat.reduceLeDiff, Nat.reduceLT, Nat.reduceEqDiff, Int.reduceLE, Int.reduceLT, Int.reduceToNat, Int.reduceBEq, Int.reduceBNe, Int.reduceEq, Int.reduceAdd, Int.reduceSub, Int.reduceMul, Int.reduceNeg, Int.cast_ofNat_Int, encB, polRow, renR_zip]); (solve | rfl); (solve | decide); (solve | simp); (solve | simp only [go_sem, ↓reduceIte, reduceCtorEq, Nat.reduceAdd, Nat.reduceMul, Nat.reduceSub, Nat.reduceLeDiff, Nat.reduceLT, Nat.reduceEqDiff, Int.reduceLE, Int.reduceLT, Int.reduceToNat, Int.reduceBEq, Int.reduceBNe, Int.reduceEq, Int.reduceAdd, Int.reduceSub, Int.reduceMul, Int.reduceNeg, Int.cast_ofNat_Int, lentOK, encB, polRow, renR_zip])) | (refine opK_M [5, 6, 8] (hf) ?_ ?_ ?_ ?_ ?_ ?_; (solve | rfl | simp only [go_sem, ↓reduceIte, reduceCtorEq, Nat.reduceAdd, Nat.reduceMul, Nat.reduceSub, Nat.reduceLeDiff, Nat.reduceLT, Nat.reduceEqDiff, Int.reduceLE, Int.reduceLT, Int.reduceToNat, Int.reduceBEq, Int.reduceBNe, Int.reduceEq, Int.reduceAdd, Int.reduceSub, Int.reduceMul, Int.reduceNeg, Int.cast_ofNat_Int, encP, polRow, renR_zip]); (solve | rfl); (solve | decide); (solve | simp); (solve | simp only [go_sem, ↓reduceIte, reduceCtorEq, Nat.reduceAdd, Nat.reduceMul, Nat.reduceSub, Nat.reduceLeDiff, Nat.reduceLT, Nat.reduceEqDiff, Int.reduceLE, Int.reduceLT, Int.reduceToNat, Int.reduceBEq, Int.reduceBNe, Int.reduceEq, Int.reduceAdd, Int.reduceSub, Int.reduceMul, Int.reduceNeg, Int.cast_ofNat_Int, lentOK, encP, polRow, renR_zip])) | (refine opK_M [6, 8] (hlt1) ?_ ?_ ?_ ?_ ?_ ?_; (solve | rfl | simp only [go_sem, ↓reduceIte, reduceCtorEq, Nat.reduceAdd, Nat.reduceMul, Nat.reduceSub, Nat.reduceLeDiff, Nat.reduceLT, Nat.reduceEqDiff, Int.reduceLE, Int.reduceLT, Int.reduceToNat, Int.reduceBEq, Int.reduceBNe, Int.reduceEq, Int.reduceAdd, Int.reduceSub, Int.reduceMul, Int.reduceNeg, Int.cast_ofNat_Int, encP, encL, polRow, renR_zip]); (solve | rfl); (solve | decide); (solve | simp); (solve | simp only [go_sem, ↓reduceIte, reduceCtorEq, Nat.reduceAdd, Nat.reduceMul, Nat.reduceSub, Nat.reduceLeDiff, Nat.reduceLT, Nat.reduceEqDiff, Int.reduceLE, Int.reduceLT, Int.reduceToNat, Int.reduceBEq, Int.reduceBNe, Int.reduceEq, Int.reduceAdd, Int.reduceSub, Int.reduceMul, Int.reduceNeg, Int.cast_ofNat_Int, lentOK, encP, encL, polRow, renR_zip])) | omega | exact decide_eq_true (by omega) | exact DLe.refl _)
        all_goals clear hf hid hft1 hlt1 hbg hz
        all_goals first
          | (rw [show R = (Bok.zero, Pfx.zero, 3) from (by rw [hR2.out]; grind)]; (try simp only [List.map_append, List.map_cons]); exact (by repeat (first | exact DLe.refl _ | exact DLe.nil _ | (refine DLe.tup ?_) | (refine DLe.agg ?_ rfl) | exact trivial | (refine And.intro ?_ ?_))))
          | (rw [show R = (Bok.zero, Pfx.zero, (fitE p p.rule.usual).2) from (by rw [hR2.out]; grind)]; (try simp only [List.map_append, List.map_cons]); exact (by repeat (first | exact DLe.refl _ | exact DLe.nil _ | (refine DLe.tup ?_) | (refine DLe.agg ?_ rfl) | exact trivial | (refine And.intro ?_ ?_))))
          | (rw [show R = (⟨b.tick, pre ++ { p with leases := insL ⟨(fitE p p.rule.usual).1, 1, owner, 0⟩ p.leases } :: post⟩, (fitE p p.rule.usual).1, 0) from (by rw [hR2.out]; grind)]; (try simp only [List.map_append, List.map_cons]); exact (by repeat (first | exact DLe.refl _ | exact DLe.nil _ | (refine DLe.tup ?_) | (refine DLe.agg ?_ rfl) | exact trivial | (refine And.intro ?_ ?_))))
      | false =>
        have e0 : ¬ size = 0 := by simpa using h0
        have hR2 := hR2.out
        rw [if_neg e0] at hR2
        replace hR2 := Lib.hid hR2
        replace e0 := Lib.hid e0
        have hlt1 := hlet ⟨(fitE p size).1, 1, owner, 0⟩
        have hft1 := hft size
        clear hlet hft
        refine ps_i tab_ok mixed Try.func17 rfl Try.ntmps17 Try.results17 (by kernel_rfl) ?_
        repeat' (first | (with_reducible refine And.intro ?_ ?_) | (with_reducible refine gK_i (fun _ => ?_) (fun _ => ?_)) | (with_reducible refine condS_i (fun _ => ?_) (fun _ => ?_)) | (with_reducible refine drw_i (by kernel_rfl)) | simp -dsimp only [go_sem, ↓reduceIte, reduceCtorEq, Nat.reduceAdd, Nat.reduceMul, Nat.reduceSub, Nat.reduceLeDiff, Nat.reduceLT, Nat.reduceEqDiff, Int.reduceLE, Int.reduceLT, Int.reduceToNat, Int.reduceBEq, Int.reduceBNe, Int.reduceEq, Int.reduceAdd, Int.reduceSub, Int.reduceMul, Int.reduceNeg, Int.cast_ofNat_Int, *, encB, encP, encL, polRow, renR_zip, zipR_get, viewR_zip, h0] | ((with_reducible refine opK_c ?_); simp -dsimp only [go_sem, ↓reduceIte, reduceCtorEq, Nat.reduceAdd, Nat.reduceMul, Nat.reduceSub, Nat.reduceLeDiff, Nat.reduceLT, Nat.reduceEqDiff, Int.reduceLE, Int.reduceLT, Int.reduceToNat, Int.reduceBEq, Int.reduceBNe, Int.reduceEq, Int.reduceAdd, Int.reduceSub, Int.reduceMul, Int.reduceNeg, Int.cast_ofNat_Int, encB, encP, encL, polRow, renR_zip, zipR_get, viewR_zip, h0]; first | refine callK_r (by first | assumption | exact hid | exact hft1) (by first | exact .inl rfl | exact .inr rfl) ?_ | (refine callK_i (by assumption) ?_ ?_ ?_; (solve | (repeat (first | exact DLe.refl _ | exact DLe.nil _ | (refine DLe.tup ?_) | (refine DLe.agg ?_ rfl) | exact trivial | (refine And.intro ?_ ?_)))); (solve | exact .inl rfl | exact .inr rfl))) | (refine opK_M [] (hbg) ?_ ?_ ?_ ?_ ?_ ?_; (solve | rfl | simp only [go_sem, ↓reduceIte, reduceCtorEq, Nat.reduceAdd, Nat.reduceMul, Nat.reduceSub, Nat.reduceLeDiff, Nat.reduceLT, Nat.reduceEqDiff, Int.reduceLE, Int.reduceLT, Int.reduceToNat, Int.reduceBEq, Int.reduceBNe, Int.reduceEq, Int.reduceAdd, Int.reduceSub, Int.reduceMul, Int.reduceNeg, Int.cast_ofNat_Int, encB, polRow, renR_zip]); (solve | rfl); (solve | decide); (solve | simp); (solve | simp only [go_sem, ↓reduceIte, reduceCtorEq, Nat.reduceAdd, Nat.reduceMul, Nat.reduceSub, Nat.reduceLeDiff, Nat.reduceLT, Nat.reduceEqDiff, Int.reduceLE, Int.reduceLT, Int.reduceToNat, Int.reduceBEq, Int.reduceBNe, Int.reduceEq, Int.reduceAdd, Int.reduceSub, Int.reduceMul, Int.reduceNeg, Int.cast_ofNat_Int, lentOK, encB, polRow, renR_zip])) | (refine opK_M [5, 6, 8] (hf) ?_ ?_ ?_ ?_ ?_ ?_; (solve | rfl | simp only [go_sem, ↓reduceIte, reduceCtorEq, Nat.reduceAdd, Nat.reduceMul, Nat.reduceSub, Nat.reduceLeDiff, Nat.reduceLT, Nat.reduceEqDiff, Int.reduceLE, Int.reduceLT, Int.reduceToNat, Int.reduceBEq, Int.reduceBNe, Int.reduceEq, Int.reduceAdd, Int.reduceSub, Int.reduceMul, Int.reduceNeg, Int.cast_ofNat_Int, encP, polRow, renR_zip]); (solve | rfl); (solve | decide); (solve | simp); (solve | simp only [go_sem, ↓reduceIte, reduceCtorEq, Nat.reduceAdd, Nat.reduceMul, Nat.reduceSub, Nat.reduceLeDiff, Nat.reduceLT, Nat.reduceEqDiff, Int.reduceLE, Int.reduceLT, Int.reduceToNat, Int.reduceBEq, Int.reduceBNe, Int.reduceEq, Int.reduceAdd, Int.reduceSub, Int.reduceMul, Int.reduceNeg, Int.cast_ofNat_Int, lentOK, encP, polRow, renR_zip])) | (refine opK_M [6, 8] (hlt1) ?_ ?_ ?_ ?_ ?_ ?_; (solve | rfl | simp only [go_sem, ↓reduceIte, reduceCtorEq, Nat.reduceAdd, Nat.reduceMul, Nat.reduceSub, Nat.reduceLeDiff, Nat.reduceLT, Nat.reduceEqDiff, Int.reduceLE, Int.reduceLT, Int.reduceToNat, Int.reduceBEq, Int.reduceBNe, Int.reduceEq, Int.reduceAdd, Int.reduceSub, Int.reduceMul, Int.reduceNeg, Int.cast_ofNat_Int, encP, encL, polRow, renR_zip]); (solve | rfl); (solve | decide); (solve | simp); (solve | simp only [go_sem, ↓reduceIte, reduceCtorEq, Nat.reduceAdd, Nat.reduceMul, Nat.reduceSub, Nat.reduceLeDiff, Nat.reduceLT, Nat.reduceEqDiff, Int.reduceLE, Int.reduceLT, Int.reduceToNat, Int.reduceBEq, Int.reduceBNe, Int.reduceEq, Int.reduceAdd, Int.reduceSub, Int.reduceMul, Int.reduceNeg, Int.cast_ofNat_Int, lentOK, encP, encL, polRow, renR_zip])) | omega | exact decide_eq_true (by omega) | exact DLe.refl _)
        all_goals clear hf hid hft1 hlt1 hbg hz
        all_goals first
          | (rw [show R = (Bok.zero, Pfx.zero, 3) from (by rw [hR2.out]; grind)]; (try simp only [List.map_append, List.map_cons]); exact (by repeat (first | exact DLe.refl _ | exact DLe.nil _ | (refine DLe.tup ?_) | (refine DLe.agg ?_ rfl) | exact trivial | (refine And.intro ?_ ?_))))
          | (rw [show R = (Bok.zero, Pfx.zero, (fitE p size).2) from (by rw [hR2.out]; grind)]; (try simp only [List.map_append, List.map_cons]); exact (by repeat (first | exact DLe.refl _ | exact DLe.nil _ | (refine DLe.tup ?_) | (refine DLe.agg ?_ rfl) | exact trivial | (refine And.intro ?_ ?_))))
          | (rw [show R = (⟨b.tick, pre ++ { p with leases := insL ⟨(fitE p size).1, 1, owner, 0⟩ p.leases } :: post⟩, (fitE p size).1, 0) from (by rw [hR2.out]; grind)]; (try simp only [List.map_append, List.map_cons]); exact (by repeat (first | exact DLe.refl _ | exact DLe.nil _ | (refine DLe.tup ?_) | (refine DLe.agg ?_ rfl) | exact trivial | (refine And.intro ?_ ?_))))
  · have hbg := beginE_p b hz hc
    have h1 : (chkBk b != 0) = true := by simpa using hc
    have hr : R = (Bok.zero, Pfx.zero, chkBk b) := by rw [hR.out]; unfold takeR; rw [if_pos hc]
    rw [hr]
    replace hr := Lib.hid hr
    refine ps_i tab_ok mixed Try.func17 rfl Try.ntmps17 Try.results17 (by kernel_rfl) ?_
    repeat' (first | (with_reducible refine And.intro ?_ ?_) | (with_reducible refine gK_i (fun _ => ?_) (fun _ => ?_)) | (with_reducible refine condS_i (fun _ => ?_) (fun _ => ?_)) | (with_reducible refine drw_i (by kernel_rfl)) | simp -dsimp only [go_sem, ↓reduceIte, reduceCtorEq, Nat.reduceAdd, Nat.reduceMul, Nat.reduceSub, Nat.reduceLeDiff, Nat.reduceLT, Nat.reduceEqDiff, Int.reduceLE, Int.reduceLT, Int.reduceToNat, Int.reduceBEq, Int.reduceBNe, Int.reduceEq, Int.reduceAdd, Int.reduceSub, Int.reduceMul, Int.reduceNeg, Int.cast_ofNat_Int, *, encB, encP, h1] | ((with_reducible refine opK_c ?_); simp -dsimp only [go_sem, ↓reduceIte, reduceCtorEq, Nat.reduceAdd, Nat.reduceMul, Nat.reduceSub, Nat.reduceLeDiff, Nat.reduceLT, Nat.reduceEqDiff, Int.reduceLE, Int.reduceLT, Int.reduceToNat, Int.reduceBEq, Int.reduceBNe, Int.reduceEq, Int.reduceAdd, Int.reduceSub, Int.reduceMul, Int.reduceNeg, Int.cast_ofNat_Int, encB, encP, h1]; first | refine callK_r (by first | assumption | exact hbg) (by first | exact .inl rfl | exact .inr rfl) ?_ | (refine callK_i (by assumption) ?_ ?_ ?_; (solve | (repeat (first | exact DLe.refl _ | exact DLe.nil _ | (refine DLe.tup ?_) | (refine DLe.agg ?_ rfl) | exact trivial | (refine And.intro ?_ ?_)))); (solve | exact .inl rfl | exact .inr rfl))) | fail | omega | exact decide_eq_true (by omega) | exact DLe.refl _)
    exact (by repeat (first | exact DLe.refl _ | exact DLe.nil _ | (refine DLe.tup ?_) | (refine DLe.agg ?_ rfl) | exact trivial | (refine And.intro ?_ ?_)))
end Go.Proofs.Ytbeocackphfijaa
