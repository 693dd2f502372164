/- Texts of this work, joined: Vpc2, Vpc3, Vpc4, Vpc5, Read, Srt, LV2, Vpc6. -/
import Derived.Test.YtdcjeacphbfmjaaGreatZHVpcFaces3
import Derived.Deep.Slices
import Derived.Deep.Fields
import Derived.ChangeSame
import Derived.OpenShut
import Derived.ProofKit
import Derived.Carry
import Derived.ChangeMaps5
import Derived.DataShut
import Derived.Shelf.SlSortCmp.WholeK
import Derived.Test.YtdcjeacphbfmjaaGreatShelf
set_option linter.unusedSimpArgs false
set_option linter.unusedVariables false
namespace Go.Proofs.YtdcjeacphbfmjaaGreat
open Go Go.RowKit
/-- A subnet's faces, may they be? -/
def faceB (at_ : Pfx) (f : Fce) : Bool := idOK f.id && (!((f.addrs.length : Int) == 0) && (risB (fun x => x) f.addrs && f.addrs.all (innB at_)))
def facesB (s : Sbn) : Bool := s.faces.all (faceB s.at_) && (decide (s.faces.flatMap (·.addrs)).Nodup && risB (·.id) s.faces)
theorem faces1_p (n : Int) : PSpec Tryz.prog 88 [.v (.int .i64 n)] (.v (.int .i64 n)) := by
  refine ps_i tab_ok mixed Tryz.func88 rfl Tryz.ntmps88 Tryz.results88 (by kernel_rfl) ?_
  repeat' (first | (with_reducible refine And.intro ?_ ?_) | (with_reducible refine gK_i (fun _ => ?_) (fun _ => ?_)) | (with_reducible refine condS_i (fun _ => ?_) (fun _ => ?_)) | (with_reducible refine drw_i (by kernel_rfl)) | simp -dsimp only [go_sem, ↓reduceIte, reduceCtorEq, Nat.reduceAdd, Nat.reduceMul, Nat.reduceSub, Nat.reduceLeDiff, Nat.reduceLT, Nat.reduceEqDiff, Int.reduceLE, Int.reduceLT, Int.reduceToNat, Int.reduceBEq, Int.reduceBNe, Int.reduceEq, Int.reduceAdd, Int.reduceSub, Int.reduceMul, Int.reduceNeg, Int.cast_ofNat_Int, *, encA] | ((with_reducible refine opK_c ?_); simp -dsimp only [go_sem, ↓reduceIte, reduceCtorEq, Nat.reduceAdd, Nat.reduceMul, Nat.reduceSub, Nat.reduceLeDiff, Nat.reduceLT, Nat.reduceEqDiff, Int.reduceLE, Int.reduceLT, Int.reduceToNat, Int.reduceBEq, Int.reduceBNe, Int.reduceEq, Int.reduceAdd, Int.reduceSub, Int.reduceMul, Int.reduceNeg, Int.cast_ofNat_Int, encA]; first | refine callK_r (by first | assumption | fail) (by first | exact .inl rfl | exact .inr rfl) ?_ | (refine callK_i (by assumption) ?_ ?_ ?_; (solve | (repeat (first | exact DLe.refl _ | exact DLe.nil _ | (refine DLe.tup ?_) | (refine DLe.agg ?_ rfl) | exact trivial | (refine And.intro ?_ ?_)))); (solve | exact .inl rfl | exact .inr rfl))) | fail | omega | exact decide_eq_true (by omega) | exact DLe.refl _)
theorem faces2_p (f : Fce) : PSpec Tryz.prog 91 [.agg (encF f)] (.v (.int .i64 f.id)) := by
  refine ps_i tab_ok mixed Tryz.func91 rfl Tryz.ntmps91 Tryz.results91 (by kernel_rfl) ?_
  repeat' (first | (with_reducible refine And.intro ?_ ?_) | (with_reducible refine gK_i (fun _ => ?_) (fun _ => ?_)) | (with_reducible refine condS_i (fun _ => ?_) (fun _ => ?_)) | (with_reducible refine drw_i (by kernel_rfl)) | simp -dsimp only [go_sem, ↓reduceIte, reduceCtorEq, Nat.reduceAdd, Nat.reduceMul, Nat.reduceSub, Nat.reduceLeDiff, Nat.reduceLT, Nat.reduceEqDiff, Int.reduceLE, Int.reduceLT, Int.reduceToNat, Int.reduceBEq, Int.reduceBNe, Int.reduceEq, Int.reduceAdd, Int.reduceSub, Int.reduceMul, Int.reduceNeg, Int.cast_ofNat_Int, *, encF] | ((with_reducible refine opK_c ?_); simp -dsimp only [go_sem, ↓reduceIte, reduceCtorEq, Nat.reduceAdd, Nat.reduceMul, Nat.reduceSub, Nat.reduceLeDiff, Nat.reduceLT, Nat.reduceEqDiff, Int.reduceLE, Int.reduceLT, Int.reduceToNat, Int.reduceBEq, Int.reduceBNe, Int.reduceEq, Int.reduceAdd, Int.reduceSub, Int.reduceMul, Int.reduceNeg, Int.cast_ofNat_Int, encF]; first | refine callK_r (by first | assumption | fail) (by first | exact .inl rfl | exact .inr rfl) ?_ | (refine callK_i (by assumption) ?_ ?_ ?_; (solve | (repeat (first | exact DLe.refl _ | exact DLe.nil _ | (refine DLe.tup ?_) | (refine DLe.agg ?_ rfl) | exact trivial | (refine And.intro ?_ ?_)))); (solve | exact .inl rfl | exact .inr rfl))) | fail | omega | exact decide_eq_true (by omega) | exact DLe.refl _)
/-- A map that counts, where each is once at most. -/
def Cnt (ents : List (List Int × Int)) (done : List Int) : Prop := ∀ a, lkE ents [a] = if a ∈ done then some 1 else none
theorem cnt_nil : Cnt [] [] := fun a => by simp [lkE]
theorem cnt_snoc {ents : List (List Int × Int)} {done : List Int} (h : Cnt ents done) {a : Int} (ha : a ∉ done) : Cnt (upE ents [a] 1) (done ++ [a]) := by
  intro b
  rw [lkE_up, h b]
  by_cases hb : a = b
  · subst hb; simp
  · have hb' : ¬ b = a := fun e => hb e.symm
    simp [hb, hb']
theorem nodup_snoc {l : List Int} {a : Int} : (l ++ [a]).Nodup ↔ l.Nodup ∧ a ∉ l := by
  rw [List.nodup_append]
  simp
  intro _
  constructor
  · intro h hm; exact h a hm rfl
  · intro h b hb e; subst e; exact h hb
set_option maxRecDepth 100000 in
set_option maxHeartbeats 4000000 in
theorem faces_p (s : Sbn) (h8 : s.faces.length ≤ 8) (h4 : ∀ f ∈ s.faces, f.addrs.length ≤ 4) : PSpec Tryz.prog 53 [.agg (encN s)] (.v (.bool (facesB s))) := by
  have hri := rises_Face encF_len (·.id) s.faces 91 (by omega) (fun f _ => faces2_p f)
  refine ps_i tab_ok mixed Tryz.func53 rfl Tryz.ntmps53 Tryz.results53 (by kernel_rfl) ?_
  repeat' (first | (with_reducible refine And.intro ?_ ?_) | (with_reducible refine gK_i (fun _ => ?_) (fun _ => ?_)) | (with_reducible refine condS_i (fun _ => ?_) (fun _ => ?_)) | (with_reducible refine drw_i (by kernel_rfl)) | simp -dsimp only [go_sem, ↓reduceIte, reduceCtorEq, Nat.reduceAdd, Nat.reduceMul, Nat.reduceSub, Nat.reduceLeDiff, Nat.reduceLT, Nat.reduceEqDiff, Int.reduceLE, Int.reduceLT, Int.reduceToNat, Int.reduceBEq, Int.reduceBNe, Int.reduceEq, Int.reduceAdd, Int.reduceSub, Int.reduceMul, Int.reduceNeg, Int.cast_ofNat_Int, *, encN] | ((with_reducible refine opK_c ?_); simp -dsimp only [go_sem, ↓reduceIte, reduceCtorEq, Nat.reduceAdd, Nat.reduceMul, Nat.reduceSub, Nat.reduceLeDiff, Nat.reduceLT, Nat.reduceEqDiff, Int.reduceLE, Int.reduceLT, Int.reduceToNat, Int.reduceBEq, Int.reduceBNe, Int.reduceEq, Int.reduceAdd, Int.reduceSub, Int.reduceMul, Int.reduceNeg, Int.cast_ofNat_Int, encN]; first | refine callK_r (by first | assumption | fail) (by first | exact .inl rfl | exact .inr rfl) ?_ | (refine callK_i (by assumption) ?_ ?_ ?_; (solve | (repeat (first | exact DLe.refl _ | exact DLe.nil _ | (refine DLe.tup ?_) | (refine DLe.agg ?_ rfl) | exact trivial | (refine And.intro ?_ ?_)))); (solve | exact .inl rfl | exact .inr rfl))) | fail | omega | exact decide_eq_true (by omega) | exact DLe.refl _)
  refine loopG tab_ok mixed (fun m e h => ∃ (k : Nat) (ents : List (List Int × Int)), k ≤ s.faces.length ∧ Cnt ents ((s.faces.take k).flatMap (·.addrs)) ∧ ((s.faces.take k).flatMap (·.addrs)).Nodup ∧ (∀ f ∈ s.faces.take k, faceB s.at_ f = true) ∧ m = s.faces.length - k ∧
    e = [(12, .d (.v (.int .i64 k))), (11, .d (.v (.int .i64 s.faces.length))), (10, .d (.sl 2 (s.faces.map encF))), (3, .mref 1), (2, .d (.v (.bool false))), (1, .ptr 0 0)] ∧ h = [.box 62 ((encN s).map .d), .mp 1 false ents]) _ _ _ ⟨0, [], Nat.zero_le _, cnt_nil, List.nodup_nil, fun f h => by simp at h, rfl, rfl, rfl⟩ (weak_forget _ (by simp) (by (try simp only [encN]); rfl) (by (repeat' (first | exact trivial | (refine ⟨rfl, ?_⟩)))) (by first | rfl | simp only [belowH, belowE, belowC, belowL, belowR, belowP, belowL_d, belowR_d, List.length_cons, List.length_nil, Nat.reduceAdd, Nat.reduceLT, decide_true, Bool.and_self, Bool.and_true]) (by first | rfl | simp only [belowH, belowE, belowC, belowL, belowR, belowP, belowL_d, belowR_d, List.length_cons, List.length_nil, Nat.reduceAdd, Nat.reduceLT, decide_true, Bool.and_self, Bool.and_true])) ?_
  rintro m e h ⟨k, ents, hk, hcnt, hnd, hall, hm, rfl, rfl⟩ C hC
  by_cases hlt : k < s.faces.length
  · have hkI : (k : Int) < (s.faces.length : Int) := by omega
    have hwr : IntKind.i64.wrap ((k : Int) + 1) = ((k + 1 : Nat) : Int) := by rw [IntKind.wrap_i64]; omega
    obtain ⟨f, hf⟩ : ∃ f, s.faces[k]? = some f := ⟨_, List.getElem?_eq_getElem hlt⟩
    have hfm := List.mem_of_getElem? hf
    have hid := vids_p f.id
    have hrf := rises_int f.addrs 88 (by have := h4 f hfm; omega) faces1_p
    have hfl := h4 f hfm
    have hbad : faceB s.at_ f = false → facesB s = false := fun h => by
      unfold facesB
      rw [Bool.and_eq_false_iff]
      left
      rw [List.all_eq_false]
      exact ⟨f, hfm, by rw [h]; simp⟩
    replace hbad := Lib.hid hbad
    replace hm := Lib.hid hm
    replace hcnt := Lib.hid hcnt
    replace hnd := Lib.hid hnd
    replace hall := Lib.hid hall
    have hfbd : faceB s.at_ f = (idOK f.id && (!((f.addrs.length : Int) == 0) && (risB (fun x => x) f.addrs && f.addrs.all (innB s.at_)))) := rfl
    replace hfbd := Lib.hid hfbd
    cases b1 : idOK f.id with
    | false =>
      rw [b1] at hid
      repeat' (first | (with_reducible refine And.intro ?_ ?_) | (with_reducible refine gK_i (fun _ => ?_) (fun _ => ?_)) | (with_reducible refine condS_i (fun _ => ?_) (fun _ => ?_)) | (with_reducible refine drw_i (by kernel_rfl)) | simp -dsimp only [go_sem, ↓reduceIte, reduceCtorEq, Nat.reduceAdd, Nat.reduceMul, Nat.reduceSub, Nat.reduceLeDiff, Nat.reduceLT, Nat.reduceEqDiff, Int.reduceLE, Int.reduceLT, Int.reduceToNat, Int.reduceBEq, Int.reduceBNe, Int.reduceEq, Int.reduceAdd, Int.reduceSub, Int.reduceMul, Int.reduceNeg, Int.cast_ofNat_Int, *, encN, encF, hkI, hf, undef] | ((with_reducible refine opK_c ?_); simp -dsimp only [go_sem, ↓reduceIte, reduceCtorEq, Nat.reduceAdd, Nat.reduceMul, Nat.reduceSub, Nat.reduceLeDiff, Nat.reduceLT, Nat.reduceEqDiff, Int.reduceLE, Int.reduceLT, Int.reduceToNat, Int.reduceBEq, Int.reduceBNe, Int.reduceEq, Int.reduceAdd, Int.reduceSub, Int.reduceMul, Int.reduceNeg, Int.cast_ofNat_Int, encN, encF, hkI, hf, undef]; first | refine callK_r (by first | assumption | exact hid) (by first | exact .inl rfl | exact .inr rfl) ?_ | (refine callK_i (by assumption) ?_ ?_ ?_; (solve | (repeat (first | exact DLe.refl _ | exact DLe.nil _ | (refine DLe.tup ?_) | (refine DLe.agg ?_ rfl) | exact trivial | (refine And.intro ?_ ?_)))); (solve | exact .inl rfl | exact .inr rfl))) | fail | omega | exact decide_eq_true (by omega) | exact DLe.refl _)
      all_goals (rw [hbad.out (by rw [hfbd.out, b1]; rfl)]; exact DLe.refl _)
    | true =>
    rw [b1] at hid
    cases b2 : (f.addrs.length : Int) == 0 with
    | true =>
      repeat' (first | (with_reducible refine And.intro ?_ ?_) | (with_reducible refine gK_i (fun _ => ?_) (fun _ => ?_)) | (with_reducible refine condS_i (fun _ => ?_) (fun _ => ?_)) | (with_reducible refine drw_i (by kernel_rfl)) | simp -dsimp only [go_sem, ↓reduceIte, reduceCtorEq, Nat.reduceAdd, Nat.reduceMul, Nat.reduceSub, Nat.reduceLeDiff, Nat.reduceLT, Nat.reduceEqDiff, Int.reduceLE, Int.reduceLT, Int.reduceToNat, Int.reduceBEq, Int.reduceBNe, Int.reduceEq, Int.reduceAdd, Int.reduceSub, Int.reduceMul, Int.reduceNeg, Int.cast_ofNat_Int, *, encN, encF, hkI, hf, b2, undef] | ((with_reducible refine opK_c ?_); simp -dsimp only [go_sem, ↓reduceIte, reduceCtorEq, Nat.reduceAdd, Nat.reduceMul, Nat.reduceSub, Nat.reduceLeDiff, Nat.reduceLT, Nat.reduceEqDiff, Int.reduceLE, Int.reduceLT, Int.reduceToNat, Int.reduceBEq, Int.reduceBNe, Int.reduceEq, Int.reduceAdd, Int.reduceSub, Int.reduceMul, Int.reduceNeg, Int.cast_ofNat_Int, encN, encF, hkI, hf, b2, undef]; first | refine callK_r (by first | assumption | exact hid) (by first | exact .inl rfl | exact .inr rfl) ?_ | (refine callK_i (by assumption) ?_ ?_ ?_; (solve | (repeat (first | exact DLe.refl _ | exact DLe.nil _ | (refine DLe.tup ?_) | (refine DLe.agg ?_ rfl) | exact trivial | (refine And.intro ?_ ?_)))); (solve | exact .inl rfl | exact .inr rfl))) | fail | omega | exact decide_eq_true (by omega) | exact DLe.refl _)
      all_goals (rw [hbad.out (by rw [hfbd.out, b1, b2]; rfl)]; exact DLe.refl _)
    | false =>
    cases b3 : risB (fun x => x) f.addrs with
    | false =>
      rw [b3] at hrf
      repeat' (first | (with_reducible refine And.intro ?_ ?_) | (with_reducible refine gK_i (fun _ => ?_) (fun _ => ?_)) | (with_reducible refine condS_i (fun _ => ?_) (fun _ => ?_)) | (with_reducible refine drw_i (by kernel_rfl)) | simp -dsimp only [go_sem, ↓reduceIte, reduceCtorEq, Nat.reduceAdd, Nat.reduceMul, Nat.reduceSub, Nat.reduceLeDiff, Nat.reduceLT, Nat.reduceEqDiff, Int.reduceLE, Int.reduceLT, Int.reduceToNat, Int.reduceBEq, Int.reduceBNe, Int.reduceEq, Int.reduceAdd, Int.reduceSub, Int.reduceMul, Int.reduceNeg, Int.cast_ofNat_Int, *, encN, encF, hkI, hf, b2, undef] | ((with_reducible refine opK_c ?_); simp -dsimp only [go_sem, ↓reduceIte, reduceCtorEq, Nat.reduceAdd, Nat.reduceMul, Nat.reduceSub, Nat.reduceLeDiff, Nat.reduceLT, Nat.reduceEqDiff, Int.reduceLE, Int.reduceLT, Int.reduceToNat, Int.reduceBEq, Int.reduceBNe, Int.reduceEq, Int.reduceAdd, Int.reduceSub, Int.reduceMul, Int.reduceNeg, Int.cast_ofNat_Int, encN, encF, hkI, hf, b2, undef]; first | refine callK_r (by first | assumption | exact hid | exact hrf) (by first | exact .inl rfl | exact .inr rfl) ?_ | (refine callK_i (by assumption) ?_ ?_ ?_; (solve | (repeat (first | exact DLe.refl _ | exact DLe.nil _ | (refine DLe.tup ?_) | (refine DLe.agg ?_ rfl) | exact trivial | (refine And.intro ?_ ?_)))); (solve | exact .inl rfl | exact .inr rfl))) | fail | omega | exact decide_eq_true (by omega) | exact DLe.refl _)
      all_goals (rw [hbad.out (by rw [hfbd.out, b1, b2, b3]; rfl)]; exact DLe.refl _)
    | true =>
    rw [b3] at hrf
    repeat' (first | (with_reducible refine And.intro ?_ ?_) | (with_reducible refine gK_i (fun _ => ?_) (fun _ => ?_)) | (with_reducible refine condS_i (fun _ => ?_) (fun _ => ?_)) | (with_reducible refine drw_i (by kernel_rfl)) | simp -dsimp only [go_sem, ↓reduceIte, reduceCtorEq, Nat.reduceAdd, Nat.reduceMul, Nat.reduceSub, Nat.reduceLeDiff, Nat.reduceLT, Nat.reduceEqDiff, Int.reduceLE, Int.reduceLT, Int.reduceToNat, Int.reduceBEq, Int.reduceBNe, Int.reduceEq, Int.reduceAdd, Int.reduceSub, Int.reduceMul, Int.reduceNeg, Int.cast_ofNat_Int, *, encN, encF, hkI, hf, b2, undef] | ((with_reducible refine opK_c ?_); simp -dsimp only [go_sem, ↓reduceIte, reduceCtorEq, Nat.reduceAdd, Nat.reduceMul, Nat.reduceSub, Nat.reduceLeDiff, Nat.reduceLT, Nat.reduceEqDiff, Int.reduceLE, Int.reduceLT, Int.reduceToNat, Int.reduceBEq, Int.reduceBNe, Int.reduceEq, Int.reduceAdd, Int.reduceSub, Int.reduceMul, Int.reduceNeg, Int.cast_ofNat_Int, encN, encF, hkI, hf, b2, undef]; first | refine callK_r (by first | assumption | exact hid | exact hrf) (by first | exact .inl rfl | exact .inr rfl) ?_ | (refine callK_i (by assumption) ?_ ?_ ?_; (solve | (repeat (first | exact DLe.refl _ | exact DLe.nil _ | (refine DLe.tup ?_) | (refine DLe.agg ?_ rfl) | exact trivial | (refine And.intro ?_ ?_)))); (solve | exact .inl rfl | exact .inr rfl))) | fail | omega | exact decide_eq_true (by omega) | exact DLe.refl _)
    refine loopG tab_ok mixed (fun m e h => ∃ (j : Nat) (ents : List (List Int × Int)), j ≤ f.addrs.length ∧ Cnt ents ((s.faces.take k).flatMap (·.addrs) ++ f.addrs.take j) ∧ ((s.faces.take k).flatMap (·.addrs) ++ f.addrs.take j).Nodup ∧ (∀ a ∈ f.addrs.take j, innB s.at_ a = true) ∧ m = f.addrs.length - j ∧
      e = [(35, .d (.v (.int .i64 j))), (34, .d (.v (.int .i64 f.addrs.length))), (33, .d (.sl 1 (f.addrs.map encA))), (12, .d (.v (.int .i64 k))), (11, .d (.v (.int .i64 s.faces.length))), (10, .d (.sl 2 (s.faces.map encF))), (3, .mref 1), (2, .d (.v (.bool false))), (1, .ptr 0 0)] ∧ h = [.box 62 ((encN s).map .d), .mp 1 false ents]) _ _ _ ⟨0, ents, Nat.zero_le _, by simpa using hcnt.out, by simpa using hnd.out, fun f h => by simp at h, rfl, rfl, rfl⟩ (weak_forget _ (by simp) (by (try simp only [encN]); rfl) (by (repeat' (first | exact trivial | (refine ⟨rfl, ?_⟩)))) (by first | rfl | simp only [belowH, belowE, belowC, belowL, belowR, belowP, belowL_d, belowR_d, List.length_cons, List.length_nil, Nat.reduceAdd, Nat.reduceLT, decide_true, Bool.and_self, Bool.and_true]) (by first | rfl | simp only [belowH, belowE, belowC, belowL, belowR, belowP, belowL_d, belowR_d, List.length_cons, List.length_nil, Nat.reduceAdd, Nat.reduceLT, decide_true, Bool.and_self, Bool.and_true])) ?_
    rintro m2 e h ⟨j, en2, hj, hcnt2, hnd2, hall2, hm2, rfl, rfl⟩ C2 hC2
    by_cases hlj : j < f.addrs.length
    · have hjI : (j : Int) < (f.addrs.length : Int) := by omega
      have hwj : IntKind.i64.wrap ((j : Int) + 1) = ((j + 1 : Nat) : Int) := by rw [IntKind.wrap_i64]; omega
      obtain ⟨a, ha⟩ : ∃ a, f.addrs[j]? = some a := ⟨_, List.getElem?_eq_getElem hlj⟩
      have ham := List.mem_of_getElem? ha
      have hin := inner_p s.at_ a
      have hca := hcnt2 a
      have htk : f.addrs.take (j + 1) = f.addrs.take j ++ [a] := take_snoc ha
      replace htk := Lib.hid htk
      replace hm2 := Lib.hid hm2
      replace hall2 := Lib.hid hall2
      replace hnd2 := Lib.hid hnd2
      by_cases hd : a ∈ (s.faces.take k).flatMap (·.addrs) ++ f.addrs.take j
      · rw [if_pos hd] at hca
        have hr : facesB s = false := by
          have : ¬ (s.faces.flatMap (·.addrs)).Nodup := by
            intro hn
            have hsub : ((s.faces.take k).flatMap (·.addrs) ++ f.addrs.take (j + 1)).Sublist (s.faces.flatMap (·.addrs)) := by
              conv => rhs; rw [← List.take_append_drop k s.faces, drop_get hf, List.flatMap_append, List.flatMap_cons]
              exact List.Sublist.append (List.Sublist.refl _) ((List.take_sublist _ _).trans (List.sublist_append_left _ _))
            have := hsub.nodup hn
            rw [htk.out, ← List.append_assoc, nodup_snoc] at this
            exact this.2 hd
          unfold facesB
          simp [this]
        have hup : lkE (upE en2 [a] 2) [a] = some 2 := by rw [lkE_up, if_pos rfl]
        replace hcnt2 := Lib.hid hcnt2
        have hw2 : IntKind.i64.wrap 2 = 2 := by decide
        have hgt : decide ((2 : Int) > 1) = true := rfl
        repeat' (first | (with_reducible refine And.intro ?_ ?_) | (with_reducible refine gK_i (fun _ => ?_) (fun _ => ?_)) | (with_reducible refine condS_i (fun _ => ?_) (fun _ => ?_)) | (with_reducible refine drw_i (by kernel_rfl)) | simp -dsimp only [go_sem, ↓reduceIte, reduceCtorEq, Nat.reduceAdd, Nat.reduceMul, Nat.reduceSub, Nat.reduceLeDiff, Nat.reduceLT, Nat.reduceEqDiff, Int.reduceLE, Int.reduceLT, Int.reduceToNat, Int.reduceBEq, Int.reduceBNe, Int.reduceEq, Int.reduceAdd, Int.reduceSub, Int.reduceMul, Int.reduceNeg, Int.cast_ofNat_Int, *, encN, encA, hjI, ha, hca, hup, hw2, hgt, undef] | ((with_reducible refine opK_c ?_); simp -dsimp only [go_sem, ↓reduceIte, reduceCtorEq, Nat.reduceAdd, Nat.reduceMul, Nat.reduceSub, Nat.reduceLeDiff, Nat.reduceLT, Nat.reduceEqDiff, Int.reduceLE, Int.reduceLT, Int.reduceToNat, Int.reduceBEq, Int.reduceBNe, Int.reduceEq, Int.reduceAdd, Int.reduceSub, Int.reduceMul, Int.reduceNeg, Int.cast_ofNat_Int, encN, encA, hjI, ha, hca, hup, hw2, hgt, undef]; first | refine callK_r (by first | assumption | exact hin) (by first | exact .inl rfl | exact .inr rfl) ?_ | (refine callK_i (by assumption) ?_ ?_ ?_; (solve | (repeat (first | exact DLe.refl _ | exact DLe.nil _ | (refine DLe.tup ?_) | (refine DLe.agg ?_ rfl) | exact trivial | (refine And.intro ?_ ?_)))); (solve | exact .inl rfl | exact .inr rfl))) | fail | omega | exact decide_eq_true (by omega) | exact DLe.refl _)
        all_goals (rw [hr]; exact DLe.refl _)
      · rw [if_neg hd] at hca
        have hup : lkE (upE en2 [a] 1) [a] = some 1 := by rw [lkE_up, if_pos rfl]
        have hcs := cnt_snoc hcnt2 hd
        replace hcnt2 := Lib.hid hcnt2
        replace hcs := Lib.hid hcs
        have hw2 : IntKind.i64.wrap 1 = 1 := by decide
        have hgt : decide ((1 : Int) > 1) = false := rfl
        cases b4 : innB s.at_ a with
        | false =>
          rw [b4] at hin
          have hr : facesB s = false := hbad.out (by
            rw [hfbd.out, b1, b2, b3]
            have : f.addrs.all (innB s.at_) = false := by rw [List.all_eq_false]; exact ⟨a, ham, by rw [b4]; simp⟩
            rw [this]; rfl)
          repeat' (first | (with_reducible refine And.intro ?_ ?_) | (with_reducible refine gK_i (fun _ => ?_) (fun _ => ?_)) | (with_reducible refine condS_i (fun _ => ?_) (fun _ => ?_)) | (with_reducible refine drw_i (by kernel_rfl)) | simp -dsimp only [go_sem, ↓reduceIte, reduceCtorEq, Nat.reduceAdd, Nat.reduceMul, Nat.reduceSub, Nat.reduceLeDiff, Nat.reduceLT, Nat.reduceEqDiff, Int.reduceLE, Int.reduceLT, Int.reduceToNat, Int.reduceBEq, Int.reduceBNe, Int.reduceEq, Int.reduceAdd, Int.reduceSub, Int.reduceMul, Int.reduceNeg, Int.cast_ofNat_Int, *, encN, encA, hjI, ha, hca, hup, hw2, hgt, undef] | ((with_reducible refine opK_c ?_); simp -dsimp only [go_sem, ↓reduceIte, reduceCtorEq, Nat.reduceAdd, Nat.reduceMul, Nat.reduceSub, Nat.reduceLeDiff, Nat.reduceLT, Nat.reduceEqDiff, Int.reduceLE, Int.reduceLT, Int.reduceToNat, Int.reduceBEq, Int.reduceBNe, Int.reduceEq, Int.reduceAdd, Int.reduceSub, Int.reduceMul, Int.reduceNeg, Int.cast_ofNat_Int, encN, encA, hjI, ha, hca, hup, hw2, hgt, undef]; first | refine callK_r (by first | assumption | exact hin) (by first | exact .inl rfl | exact .inr rfl) ?_ | (refine callK_i (by assumption) ?_ ?_ ?_; (solve | (repeat (first | exact DLe.refl _ | exact DLe.nil _ | (refine DLe.tup ?_) | (refine DLe.agg ?_ rfl) | exact trivial | (refine And.intro ?_ ?_)))); (solve | exact .inl rfl | exact .inr rfl))) | fail | omega | exact decide_eq_true (by omega) | exact DLe.refl _)
          all_goals (rw [hr]; exact DLe.refl _)
        | true =>
          rw [b4] at hin
          repeat' (first | (with_reducible refine And.intro ?_ ?_) | (with_reducible refine gK_i (fun _ => ?_) (fun _ => ?_)) | (with_reducible refine condS_i (fun _ => ?_) (fun _ => ?_)) | (with_reducible refine drw_i (by kernel_rfl)) | simp -dsimp only [go_sem, ↓reduceIte, reduceCtorEq, Nat.reduceAdd, Nat.reduceMul, Nat.reduceSub, Nat.reduceLeDiff, Nat.reduceLT, Nat.reduceEqDiff, Int.reduceLE, Int.reduceLT, Int.reduceToNat, Int.reduceBEq, Int.reduceBNe, Int.reduceEq, Int.reduceAdd, Int.reduceSub, Int.reduceMul, Int.reduceNeg, Int.cast_ofNat_Int, *, encN, encA, hjI, hwj, ha, hca, hup, hw2, hgt, undef] | ((with_reducible refine opK_c ?_); simp -dsimp only [go_sem, ↓reduceIte, reduceCtorEq, Nat.reduceAdd, Nat.reduceMul, Nat.reduceSub, Nat.reduceLeDiff, Nat.reduceLT, Nat.reduceEqDiff, Int.reduceLE, Int.reduceLT, Int.reduceToNat, Int.reduceBEq, Int.reduceBNe, Int.reduceEq, Int.reduceAdd, Int.reduceSub, Int.reduceMul, Int.reduceNeg, Int.cast_ofNat_Int, encN, encA, hjI, hwj, ha, hca, hup, hw2, hgt, undef]; first | refine callK_r (by first | assumption | exact hin) (by first | exact .inl rfl | exact .inr rfl) ?_ | (refine callK_i (by assumption) ?_ ?_ ?_; (solve | (repeat (first | exact DLe.refl _ | exact DLe.nil _ | (refine DLe.tup ?_) | (refine DLe.agg ?_ rfl) | exact trivial | (refine And.intro ?_ ?_)))); (solve | exact .inl rfl | exact .inr rfl))) | fail | omega | exact decide_eq_true (by omega) | exact DLe.refl _)
          refine hC2 _ _ _ _ _ ?_ ⟨j + 1, upE en2 [a] 1, hlj, ?_, ?_, ?_, rfl, rfl, rfl⟩ (weak_forget _ (by simp) (by (try simp only [encN]); rfl) (by (repeat' (first | exact trivial | (refine ⟨rfl, ?_⟩)))) (by first | rfl | simp only [belowH, belowE, belowC, belowL, belowR, belowP, belowL_d, belowR_d, List.length_cons, List.length_nil, Nat.reduceAdd, Nat.reduceLT, decide_true, Bool.and_self, Bool.and_true]) (by first | rfl | simp only [belowH, belowE, belowC, belowL, belowR, belowP, belowL_d, belowR_d, List.length_cons, List.length_nil, Nat.reduceAdd, Nat.reduceLT, decide_true, Bool.and_self, Bool.and_true]))
          · have := hm2.out; omega
          · rw [htk.out, ← List.append_assoc]; exact hcs.out
          · rw [htk.out, ← List.append_assoc, nodup_snoc]; exact ⟨hnd2.out, hd⟩
          · intro b hb
            rw [htk.out] at hb
            rcases List.mem_append.1 hb with hb | hb
            · exact hall2.out b hb
            · rw [List.mem_singleton.1 hb]; exact b4
    · obtain rfl : j = f.addrs.length := by omega
      rw [List.take_length] at hcnt2 hnd2 hall2
      have hfl2 : (s.faces.take (k + 1)).flatMap (·.addrs) = (s.faces.take k).flatMap (·.addrs) ++ f.addrs := by rw [take_snoc hf, List.flatMap_append]; simp
      replace hm2 := Lib.hid hm2
      replace hcnt2 := Lib.hid hcnt2
      replace hnd2 := Lib.hid hnd2
      replace hall2 := Lib.hid hall2
      replace hfl2 := Lib.hid hfl2
      repeat' (first | (with_reducible refine And.intro ?_ ?_) | (with_reducible refine gK_i (fun _ => ?_) (fun _ => ?_)) | (with_reducible refine condS_i (fun _ => ?_) (fun _ => ?_)) | (with_reducible refine drw_i (by kernel_rfl)) | simp -dsimp only [go_sem, ↓reduceIte, reduceCtorEq, Nat.reduceAdd, Nat.reduceMul, Nat.reduceSub, Nat.reduceLeDiff, Nat.reduceLT, Nat.reduceEqDiff, Int.reduceLE, Int.reduceLT, Int.reduceToNat, Int.reduceBEq, Int.reduceBNe, Int.reduceEq, Int.reduceAdd, Int.reduceSub, Int.reduceMul, Int.reduceNeg, Int.cast_ofNat_Int, *, encN, hwr, Int.lt_irrefl, undef] | ((with_reducible refine opK_c ?_); simp -dsimp only [go_sem, ↓reduceIte, reduceCtorEq, Nat.reduceAdd, Nat.reduceMul, Nat.reduceSub, Nat.reduceLeDiff, Nat.reduceLT, Nat.reduceEqDiff, Int.reduceLE, Int.reduceLT, Int.reduceToNat, Int.reduceBEq, Int.reduceBNe, Int.reduceEq, Int.reduceAdd, Int.reduceSub, Int.reduceMul, Int.reduceNeg, Int.cast_ofNat_Int, encN, hwr, Int.lt_irrefl, undef]; first | refine callK_r (by first | assumption | fail) (by first | exact .inl rfl | exact .inr rfl) ?_ | (refine callK_i (by assumption) ?_ ?_ ?_; (solve | (repeat (first | exact DLe.refl _ | exact DLe.nil _ | (refine DLe.tup ?_) | (refine DLe.agg ?_ rfl) | exact trivial | (refine And.intro ?_ ?_)))); (solve | exact .inl rfl | exact .inr rfl))) | fail | omega | exact decide_eq_true (by omega) | exact DLe.refl _)
      refine hC _ _ _ _ _ ?_ ⟨k + 1, en2, hlt, ?_, ?_, ?_, rfl, rfl, rfl⟩ (weak_forget _ (by simp) (by (try simp only [encN]); rfl) (by (repeat' (first | exact trivial | (refine ⟨rfl, ?_⟩)))) (by first | rfl | simp only [belowH, belowE, belowC, belowL, belowR, belowP, belowL_d, belowR_d, List.length_cons, List.length_nil, Nat.reduceAdd, Nat.reduceLT, decide_true, Bool.and_self, Bool.and_true]) (by first | rfl | simp only [belowH, belowE, belowC, belowL, belowR, belowP, belowL_d, belowR_d, List.length_cons, List.length_nil, Nat.reduceAdd, Nat.reduceLT, decide_true, Bool.and_self, Bool.and_true]))
      · have := hm.out; omega
      · rw [hfl2.out]; exact hcnt2.out
      · rw [hfl2.out]; exact hnd2.out
      · intro g hg
        rw [take_snoc hf] at hg
        rcases List.mem_append.1 hg with hg | hg
        · exact hall.out g hg
        · rw [List.mem_singleton.1 hg, hfbd.out, b1, b2, b3]
          simp only [Bool.true_and, Bool.not_false]
          exact List.all_eq_true.2 hall2.out
  · obtain rfl : k = s.faces.length := by omega
    rw [List.take_length] at hcnt hnd hall
    have hr : facesB s = risB (·.id) s.faces := by
      unfold facesB
      rw [List.all_eq_true.2 hall]
      simp [hnd]
    replace hr := Lib.hid hr
    replace hcnt := Lib.hid hcnt
    replace hnd := Lib.hid hnd
    replace hall := Lib.hid hall
    replace hm := Lib.hid hm
    repeat' (first | (with_reducible refine And.intro ?_ ?_) | (with_reducible refine gK_i (fun _ => ?_) (fun _ => ?_)) | (with_reducible refine condS_i (fun _ => ?_) (fun _ => ?_)) | (with_reducible refine drw_i (by kernel_rfl)) | simp -dsimp only [go_sem, ↓reduceIte, reduceCtorEq, Nat.reduceAdd, Nat.reduceMul, Nat.reduceSub, Nat.reduceLeDiff, Nat.reduceLT, Nat.reduceEqDiff, Int.reduceLE, Int.reduceLT, Int.reduceToNat, Int.reduceBEq, Int.reduceBNe, Int.reduceEq, Int.reduceAdd, Int.reduceSub, Int.reduceMul, Int.reduceNeg, Int.cast_ofNat_Int, *, encN, Int.lt_irrefl, undef] | ((with_reducible refine opK_c ?_); simp -dsimp only [go_sem, ↓reduceIte, reduceCtorEq, Nat.reduceAdd, Nat.reduceMul, Nat.reduceSub, Nat.reduceLeDiff, Nat.reduceLT, Nat.reduceEqDiff, Int.reduceLE, Int.reduceLT, Int.reduceToNat, Int.reduceBEq, Int.reduceBNe, Int.reduceEq, Int.reduceAdd, Int.reduceSub, Int.reduceMul, Int.reduceNeg, Int.cast_ofNat_Int, encN, Int.lt_irrefl, undef]; first | refine callK_r (by first | assumption | exact hri) (by first | exact .inl rfl | exact .inr rfl) ?_ | (refine callK_i (by assumption) ?_ ?_ ?_; (solve | (repeat (first | exact DLe.refl _ | exact DLe.nil _ | (refine DLe.tup ?_) | (refine DLe.agg ?_ rfl) | exact trivial | (refine And.intro ?_ ?_)))); (solve | exact .inl rfl | exact .inr rfl))) | fail | omega | exact decide_eq_true (by omega) | exact DLe.refl _)
    all_goals (rw [hr.out]; exact DLe.refl _)
/-- Is a network right? -/
def rangeB (r : Rng) : Bool := idOK r.pool && (chk r.at_.at_ r.at_.len == 0)
def subB (v : Vpc) (s : Sbn) : Bool := idOK s.id && (holdsV v s.at_ && facesB s)
def fineV (v : Vpc) : Bool := (idOK v.id && (risB (·.at_.at_) v.ranges && risB (·.id) v.subs)) && (v.ranges.all rangeB && v.subs.all (subB v))
def chkV (v : Vpc) : Int := if manyV v then 2 else if fineV v && (apaF [] (v.ranges.map (·.at_)) && apaF [] (v.subs.map (·.at_))) then 0 else 1
theorem vcheck1_p (r : Rng) : PSpec Tryz.prog 49 [.agg (encG r)] (.v (.int .i64 r.at_.at_)) := by
  refine ps_i tab_ok mixed Tryz.func49 rfl Tryz.ntmps49 Tryz.results49 (by kernel_rfl) ?_
  repeat' (first | (with_reducible refine And.intro ?_ ?_) | (with_reducible refine gK_i (fun _ => ?_) (fun _ => ?_)) | (with_reducible refine condS_i (fun _ => ?_) (fun _ => ?_)) | (with_reducible refine drw_i (by kernel_rfl)) | simp -dsimp only [go_sem, ↓reduceIte, reduceCtorEq, Nat.reduceAdd, Nat.reduceMul, Nat.reduceSub, Nat.reduceLeDiff, Nat.reduceLT, Nat.reduceEqDiff, Int.reduceLE, Int.reduceLT, Int.reduceToNat, Int.reduceBEq, Int.reduceBNe, Int.reduceEq, Int.reduceAdd, Int.reduceSub, Int.reduceMul, Int.reduceNeg, Int.cast_ofNat_Int, *, encG] | ((with_reducible refine opK_c ?_); simp -dsimp only [go_sem, ↓reduceIte, reduceCtorEq, Nat.reduceAdd, Nat.reduceMul, Nat.reduceSub, Nat.reduceLeDiff, Nat.reduceLT, Nat.reduceEqDiff, Int.reduceLE, Int.reduceLT, Int.reduceToNat, Int.reduceBEq, Int.reduceBNe, Int.reduceEq, Int.reduceAdd, Int.reduceSub, Int.reduceMul, Int.reduceNeg, Int.cast_ofNat_Int, encG]; first | refine callK_r (by first | assumption | fail) (by first | exact .inl rfl | exact .inr rfl) ?_ | (refine callK_i (by assumption) ?_ ?_ ?_; (solve | (repeat (first | exact DLe.refl _ | exact DLe.nil _ | (refine DLe.tup ?_) | (refine DLe.agg ?_ rfl) | exact trivial | (refine And.intro ?_ ?_)))); (solve | exact .inl rfl | exact .inr rfl))) | fail | omega | exact decide_eq_true (by omega) | exact DLe.refl _)
theorem vcheck2_p (s : Sbn) : PSpec Tryz.prog 51 [.agg (encN s)] (.v (.int .i64 s.id)) := by
  refine ps_i tab_ok mixed Tryz.func51 rfl Tryz.ntmps51 Tryz.results51 (by kernel_rfl) ?_
  repeat' (first | (with_reducible refine And.intro ?_ ?_) | (with_reducible refine gK_i (fun _ => ?_) (fun _ => ?_)) | (with_reducible refine condS_i (fun _ => ?_) (fun _ => ?_)) | (with_reducible refine drw_i (by kernel_rfl)) | simp -dsimp only [go_sem, ↓reduceIte, reduceCtorEq, Nat.reduceAdd, Nat.reduceMul, Nat.reduceSub, Nat.reduceLeDiff, Nat.reduceLT, Nat.reduceEqDiff, Int.reduceLE, Int.reduceLT, Int.reduceToNat, Int.reduceBEq, Int.reduceBNe, Int.reduceEq, Int.reduceAdd, Int.reduceSub, Int.reduceMul, Int.reduceNeg, Int.cast_ofNat_Int, *, encN] | ((with_reducible refine opK_c ?_); simp -dsimp only [go_sem, ↓reduceIte, reduceCtorEq, Nat.reduceAdd, Nat.reduceMul, Nat.reduceSub, Nat.reduceLeDiff, Nat.reduceLT, Nat.reduceEqDiff, Int.reduceLE, Int.reduceLT, Int.reduceToNat, Int.reduceBEq, Int.reduceBNe, Int.reduceEq, Int.reduceAdd, Int.reduceSub, Int.reduceMul, Int.reduceNeg, Int.cast_ofNat_Int, encN]; first | refine callK_r (by first | assumption | fail) (by first | exact .inl rfl | exact .inr rfl) ?_ | (refine callK_i (by assumption) ?_ ?_ ?_; (solve | (repeat (first | exact DLe.refl _ | exact DLe.nil _ | (refine DLe.tup ?_) | (refine DLe.agg ?_ rfl) | exact trivial | (refine And.intro ?_ ?_)))); (solve | exact .inl rfl | exact .inr rfl))) | fail | omega | exact decide_eq_true (by omega) | exact DLe.refl _)
theorem all_snoc {α : Type} {p : α → Bool} {l : List α} {k : Nat} {x : α} (h : l[k]? = some x) : (l.take (k + 1)).all p = ((l.take k).all p && p x) := by
  rw [take_snoc h, List.all_append]; simp
set_option maxRecDepth 100000 in
set_option maxHeartbeats 4000000 in
theorem vcheck_p (v : Vpc) : PSpec Tryz.prog 12 [.agg (encV v)] (.v (.int .i64 (chkV v))) := by
  have hmy := many_p v
  cases hm : manyV v with
  | true =>
    rw [hm] at hmy
    have hr : chkV v = 2 := by unfold chkV; rw [if_pos hm]
    rw [hr]
    refine ps_i tab_ok mixed Tryz.func12 rfl Tryz.ntmps12 Tryz.results12 (by kernel_rfl) ?_
    repeat' (first | (with_reducible refine And.intro ?_ ?_) | (with_reducible refine gK_i (fun _ => ?_) (fun _ => ?_)) | (with_reducible refine condS_i (fun _ => ?_) (fun _ => ?_)) | (with_reducible refine drw_i (by kernel_rfl)) | simp -dsimp only [go_sem, ↓reduceIte, reduceCtorEq, Nat.reduceAdd, Nat.reduceMul, Nat.reduceSub, Nat.reduceLeDiff, Nat.reduceLT, Nat.reduceEqDiff, Int.reduceLE, Int.reduceLT, Int.reduceToNat, Int.reduceBEq, Int.reduceBNe, Int.reduceEq, Int.reduceAdd, Int.reduceSub, Int.reduceMul, Int.reduceNeg, Int.cast_ofNat_Int, *, encV] | ((with_reducible refine opK_c ?_); simp -dsimp only [go_sem, ↓reduceIte, reduceCtorEq, Nat.reduceAdd, Nat.reduceMul, Nat.reduceSub, Nat.reduceLeDiff, Nat.reduceLT, Nat.reduceEqDiff, Int.reduceLE, Int.reduceLT, Int.reduceToNat, Int.reduceBEq, Int.reduceBNe, Int.reduceEq, Int.reduceAdd, Int.reduceSub, Int.reduceMul, Int.reduceNeg, Int.cast_ofNat_Int, encV]; first | refine callK_r (by first | assumption | exact hmy) (by first | exact .inl rfl | exact .inr rfl) ?_ | (refine callK_i (by assumption) ?_ ?_ ?_; (solve | (repeat (first | exact DLe.refl _ | exact DLe.nil _ | (refine DLe.tup ?_) | (refine DLe.agg ?_ rfl) | exact trivial | (refine And.intro ?_ ?_)))); (solve | exact .inl rfl | exact .inr rfl))) | fail | omega | exact decide_eq_true (by omega) | exact DLe.refl _)
  | false =>
  obtain ⟨h4, h6, h8⟩ := manyV_ok hm
  rw [hm] at hmy
  have hid := vids_p v.id
  have hr1 := rises_Range encG_len (fun r : Rng => r.at_.at_) v.ranges 49 (by omega) (fun r _ => vcheck1_p r)
  have hr2 := rises_Sub encN_len (fun s : Sbn => s.id) v.subs 51 (by omega) (fun r _ => vcheck2_p r)
  obtain ⟨F0, hF0⟩ : ∃ F0, F0 = (idOK v.id && (risB (·.at_.at_) v.ranges && risB (·.id) v.subs)) := ⟨_, rfl⟩
  have hap1 := apart_p (v.ranges.map (·.at_)) (by rw [List.length_map]; omega)
  have hap2 := apart_p (v.subs.map (·.at_)) (by rw [List.length_map]; omega)
  have hres : chkV v = if (F0 && v.ranges.all rangeB && v.subs.all (subB v)) && (apaF [] (v.ranges.map (·.at_)) && apaF [] (v.subs.map (·.at_))) then 0 else 1 := by
    unfold chkV fineV
    rw [if_neg (by simp [hm]), hF0]
    simp only [Bool.and_assoc]
  rw [hres]
  replace hres := Lib.hid hres
  replace h8 := Lib.hid h8
  replace hm := Lib.hid hm
  replace hmy := Lib.hid hmy
  cases b1 : idOK v.id with
  | false =>
    rw [b1, Bool.false_and] at hF0
    subst hF0
    rw [b1] at hid
    refine ps_i tab_ok mixed Tryz.func12 rfl Tryz.ntmps12 Tryz.results12 (by kernel_rfl) ?_
    repeat' (first | (with_reducible refine And.intro ?_ ?_) | (with_reducible refine gK_i (fun _ => ?_) (fun _ => ?_)) | (with_reducible refine condS_i (fun _ => ?_) (fun _ => ?_)) | (with_reducible refine drw_i (by kernel_rfl)) | simp -dsimp only [go_sem, ↓reduceIte, reduceCtorEq, Nat.reduceAdd, Nat.reduceMul, Nat.reduceSub, Nat.reduceLeDiff, Nat.reduceLT, Nat.reduceEqDiff, Int.reduceLE, Int.reduceLT, Int.reduceToNat, Int.reduceBEq, Int.reduceBNe, Int.reduceEq, Int.reduceAdd, Int.reduceSub, Int.reduceMul, Int.reduceNeg, Int.cast_ofNat_Int, *, encV, hmy.out, undef] | ((with_reducible refine opK_c ?_); simp -dsimp only [go_sem, ↓reduceIte, reduceCtorEq, Nat.reduceAdd, Nat.reduceMul, Nat.reduceSub, Nat.reduceLeDiff, Nat.reduceLT, Nat.reduceEqDiff, Int.reduceLE, Int.reduceLT, Int.reduceToNat, Int.reduceBEq, Int.reduceBNe, Int.reduceEq, Int.reduceAdd, Int.reduceSub, Int.reduceMul, Int.reduceNeg, Int.cast_ofNat_Int, encV, hmy.out, undef]; first | refine callK_r (by first | assumption | exact hmy.out | exact hid) (by first | exact .inl rfl | exact .inr rfl) ?_ | (refine callK_i (by assumption) ?_ ?_ ?_; (solve | (repeat (first | exact DLe.refl _ | exact DLe.nil _ | (refine DLe.tup ?_) | (refine DLe.agg ?_ rfl) | exact trivial | (refine And.intro ?_ ?_)))); (solve | exact .inl rfl | exact .inr rfl))) | fail | omega | exact decide_eq_true (by omega) | exact DLe.refl _)
    refine loopG tab_ok mixed (fun m e h => ∃ (k g : Nat) (X : Bool), k ≤ v.ranges.length ∧ X = (false && (v.ranges.take k).all rangeB) ∧ m = v.ranges.length - k ∧ e = [(28, .d (.v (.int .i64 k))), (27, .d (.v (.int .i64 v.ranges.length))), (26, .d (.sl 3 (v.ranges.map encG))), (5, .d (.v (.bool X))), (4, .d (.v (.slice none 0 0))), (3, .own 1 g), (2, .d (.v (.int .i64 0))), (1, .ptr 0 0)] ∧
      h = [.box 25 ((encV v).map .d), .row 27 2 g (dRows (((v.ranges.take k).map (·.at_)).map encP))]) _ _ _ ⟨0, 0, false, Nat.zero_le _, by simp, rfl, rfl, rfl⟩ ((weak_adopt (Nat.zero_le _) 3 27 2 rfl).trans (weak_forget _ (by simp) (by (try simp only [encV]); rfl) (by (repeat' (first | exact trivial | (refine ⟨rfl, ?_⟩)))) (by first | rfl | simp only [belowH, belowE, belowC, belowL, belowR, belowP, belowL_d, belowR_d, List.length_cons, List.length_nil, Nat.reduceAdd, Nat.reduceLT, decide_true, Bool.and_self, Bool.and_true]) (by first | rfl | simp only [belowH, belowE, belowC, belowL, belowR, belowP, belowL_d, belowR_d, List.length_cons, List.length_nil, Nat.reduceAdd, Nat.reduceLT, decide_true, Bool.and_self, Bool.and_true]))) ?_
    rintro m e h ⟨k, g, X, hk, hX, hm0, rfl, rfl⟩ C hC
    by_cases hlt : k < v.ranges.length
    · have hkI : (k : Int) < (v.ranges.length : Int) := by omega
      have hwr : IntKind.i64.wrap ((k : Int) + 1) = ((k + 1 : Nat) : Int) := by rw [IntKind.wrap_i64]; omega
      obtain ⟨r, hr⟩ : ∃ r, v.ranges[k]? = some r := ⟨_, List.getElem?_eq_getElem hlt⟩
      have hrp := vids_p r.pool
      have hrc := check_p r.at_
      have hlk : (List.take k v.ranges).length = k := by rw [List.length_take]; omega
      have hbnd : (k + 1) * 16 ≤ 140737488355328 := by omega
      have hal := all_snoc (p := rangeB) hr
      have hrb : rangeB r = (idOK r.pool && (chk r.at_.at_ r.at_.len == 0)) := rfl
      generalize chk r.at_.at_ r.at_.len = K at *
      generalize idOK r.pool = I at *
      replace hX := Lib.hid hX
      replace hal := Lib.hid hal
      replace hrb := Lib.hid hrb
      replace hm0 := Lib.hid hm0
      replace hr := Lib.hid hr
      have hr1' := hr.out
      repeat' (first | (with_reducible refine And.intro ?_ ?_) | (with_reducible refine gK_i (fun _ => ?_) (fun _ => ?_)) | (with_reducible refine condS_i (fun _ => ?_) (fun _ => ?_)) | (with_reducible refine drw_i (by kernel_rfl)) | simp -dsimp only [go_sem, ↓reduceIte, reduceCtorEq, Nat.reduceAdd, Nat.reduceMul, Nat.reduceSub, Nat.reduceLeDiff, Nat.reduceLT, Nat.reduceEqDiff, Int.reduceLE, Int.reduceLT, Int.reduceToNat, Int.reduceBEq, Int.reduceBNe, Int.reduceEq, Int.reduceAdd, Int.reduceSub, Int.reduceMul, Int.reduceNeg, Int.cast_ofNat_Int, *, encV, encG, encP, hkI, hwr, hr1', hlk, hbnd, undef] | ((with_reducible refine opK_c ?_); simp -dsimp only [go_sem, ↓reduceIte, reduceCtorEq, Nat.reduceAdd, Nat.reduceMul, Nat.reduceSub, Nat.reduceLeDiff, Nat.reduceLT, Nat.reduceEqDiff, Int.reduceLE, Int.reduceLT, Int.reduceToNat, Int.reduceBEq, Int.reduceBNe, Int.reduceEq, Int.reduceAdd, Int.reduceSub, Int.reduceMul, Int.reduceNeg, Int.cast_ofNat_Int, encV, encG, encP, hkI, hwr, hr1', hlk, hbnd, undef]; first | refine callK_r (by first | assumption | exact hrp | exact hrc) (by first | exact .inl rfl | exact .inr rfl) ?_ | (refine callK_i (by assumption) ?_ ?_ ?_; (solve | (repeat (first | exact DLe.refl _ | exact DLe.nil _ | (refine DLe.tup ?_) | (refine DLe.agg ?_ rfl) | exact trivial | (refine And.intro ?_ ?_)))); (solve | exact .inl rfl | exact .inr rfl))) | fail | omega | exact decide_eq_true (by omega) | exact DLe.refl _)
      all_goals (refine hC _ _ _ _ _ ?_ ⟨k + 1, g + 1, _, hlt, ?_, rfl, rfl, rfl⟩ (weak_forget _ (by simp) (by rw [take_snoc hr.out]; simp only [encV, List.map_append, List.map_cons, List.map_nil, encP, ← dRows_app]; rfl) (by (repeat' (first | exact trivial | (refine ⟨rfl, ?_⟩)))) (by first | rfl | simp only [belowH, belowE, belowC, belowL, belowR, belowP, belowL_d, belowR_d, List.length_cons, List.length_nil, Nat.reduceAdd, Nat.reduceLT, decide_true, Bool.and_self, Bool.and_true]) (by first | rfl | simp only [belowH, belowE, belowC, belowL, belowR, belowP, belowL_d, belowR_d, List.length_cons, List.length_nil, Nat.reduceAdd, Nat.reduceLT, decide_true, Bool.and_self, Bool.and_true])))
      all_goals first
        | (have := hm0.out; omega)
        | (have h1 := hX.out; have h2 := hal.out; have h3 := hrb.out; clear hap1 hap2 hr1 hr2 hid hrp hrc hC hmy; grind)
    · obtain rfl : k = v.ranges.length := by omega
      rw [List.take_length] at hX ⊢
      replace hX := Lib.hid hX
      replace hm0 := Lib.hid hm0
      repeat' (first | (with_reducible refine And.intro ?_ ?_) | (with_reducible refine gK_i (fun _ => ?_) (fun _ => ?_)) | (with_reducible refine condS_i (fun _ => ?_) (fun _ => ?_)) | (with_reducible refine drw_i (by kernel_rfl)) | simp -dsimp only [go_sem, ↓reduceIte, reduceCtorEq, Nat.reduceAdd, Nat.reduceMul, Nat.reduceSub, Nat.reduceLeDiff, Nat.reduceLT, Nat.reduceEqDiff, Int.reduceLE, Int.reduceLT, Int.reduceToNat, Int.reduceBEq, Int.reduceBNe, Int.reduceEq, Int.reduceAdd, Int.reduceSub, Int.reduceMul, Int.reduceNeg, Int.cast_ofNat_Int, *, encV, Int.lt_irrefl] | ((with_reducible refine opK_c ?_); simp -dsimp only [go_sem, ↓reduceIte, reduceCtorEq, Nat.reduceAdd, Nat.reduceMul, Nat.reduceSub, Nat.reduceLeDiff, Nat.reduceLT, Nat.reduceEqDiff, Int.reduceLE, Int.reduceLT, Int.reduceToNat, Int.reduceBEq, Int.reduceBNe, Int.reduceEq, Int.reduceAdd, Int.reduceSub, Int.reduceMul, Int.reduceNeg, Int.cast_ofNat_Int, encV, Int.lt_irrefl]; first | refine callK_r (by first | assumption | fail) (by first | exact .inl rfl | exact .inr rfl) ?_ | (refine callK_i (by assumption) ?_ ?_ ?_; (solve | (repeat (first | exact DLe.refl _ | exact DLe.nil _ | (refine DLe.tup ?_) | (refine DLe.agg ?_ rfl) | exact trivial | (refine And.intro ?_ ?_)))); (solve | exact .inl rfl | exact .inr rfl))) | fail | omega | exact decide_eq_true (by omega) | exact DLe.refl _)
      refine loopG tab_ok mixed (fun m e h => ∃ (k g2 : Nat) (Y : Bool), k ≤ v.subs.length ∧ Y = (X && (v.subs.take k).all (subB v)) ∧ m = v.subs.length - k ∧ e = [(53, .d (.v (.int .i64 k))), (52, .d (.v (.int .i64 v.subs.length))), (51, .d (.sl 4 (v.subs.map encN))), (5, .d (.v (.bool Y))), (4, .own 2 g2), (3, .own 1 g), (2, .d (.v (.int .i64 0))), (1, .ptr 0 0)] ∧
        h = [.box 25 ((encV v).map .d), .row 27 2 g (dRows ((v.ranges.map (·.at_)).map encP)), .row 27 2 g2 (dRows (((v.subs.take k).map (·.at_)).map encP))]) _ _ _ ⟨0, 0, X, Nat.zero_le _, by simp, rfl, rfl, rfl⟩ ((weak_adopt (Nat.zero_le _) 4 27 2 rfl).trans (weak_forget _ (by simp) (by (try simp only [encV]); rfl) (by (repeat' (first | exact trivial | (refine ⟨rfl, ?_⟩)))) (by first | rfl | simp only [belowH, belowE, belowC, belowL, belowR, belowP, belowL_d, belowR_d, List.length_cons, List.length_nil, Nat.reduceAdd, Nat.reduceLT, decide_true, Bool.and_self, Bool.and_true]) (by first | rfl | simp only [belowH, belowE, belowC, belowL, belowR, belowP, belowL_d, belowR_d, List.length_cons, List.length_nil, Nat.reduceAdd, Nat.reduceLT, decide_true, Bool.and_self, Bool.and_true]))) ?_
      rintro m2 e h ⟨k, g2, Y, hk2, hY, hm2, rfl, rfl⟩ C hC
      by_cases hlt : k < v.subs.length
      · have hkI : (k : Int) < (v.subs.length : Int) := by omega
        have hwr : IntKind.i64.wrap ((k : Int) + 1) = ((k + 1 : Nat) : Int) := by rw [IntKind.wrap_i64]; omega
        obtain ⟨s, hs⟩ : ∃ s, v.subs[k]? = some s := ⟨_, List.getElem?_eq_getElem hlt⟩
        have hsm := List.mem_of_getElem? hs
        have hsi := vids_p s.id
        have hsh := vholds_p v s.at_ (by omega)
        have hsf := faces_p s (h8.out s hsm).1 (h8.out s hsm).2
        have hlk : (List.take k v.subs).length = k := by rw [List.length_take]; omega
        have hbnd : (k + 1) * 16 ≤ 140737488355328 := by omega
        have hal := all_snoc (p := subB v) hs
        have hsb : subB v s = (idOK s.id && (holdsV v s.at_ && facesB s)) := rfl
        generalize holdsV v s.at_ = H at *
        generalize idOK s.id = I at *
        generalize facesB s = F at *
        replace hY := Lib.hid hY
        replace hal := Lib.hid hal
        replace hsb := Lib.hid hsb
        replace hm2 := Lib.hid hm2
        replace hs := Lib.hid hs
        have hs1' := hs.out
        repeat' (first | (with_reducible refine And.intro ?_ ?_) | (with_reducible refine gK_i (fun _ => ?_) (fun _ => ?_)) | (with_reducible refine condS_i (fun _ => ?_) (fun _ => ?_)) | (with_reducible refine drw_i (by kernel_rfl)) | simp -dsimp only [go_sem, ↓reduceIte, reduceCtorEq, Nat.reduceAdd, Nat.reduceMul, Nat.reduceSub, Nat.reduceLeDiff, Nat.reduceLT, Nat.reduceEqDiff, Int.reduceLE, Int.reduceLT, Int.reduceToNat, Int.reduceBEq, Int.reduceBNe, Int.reduceEq, Int.reduceAdd, Int.reduceSub, Int.reduceMul, Int.reduceNeg, Int.cast_ofNat_Int, *, encV, encN, encP, hkI, hwr, hs1', hlk, hbnd, undef] | ((with_reducible refine opK_c ?_); simp -dsimp only [go_sem, ↓reduceIte, reduceCtorEq, Nat.reduceAdd, Nat.reduceMul, Nat.reduceSub, Nat.reduceLeDiff, Nat.reduceLT, Nat.reduceEqDiff, Int.reduceLE, Int.reduceLT, Int.reduceToNat, Int.reduceBEq, Int.reduceBNe, Int.reduceEq, Int.reduceAdd, Int.reduceSub, Int.reduceMul, Int.reduceNeg, Int.cast_ofNat_Int, encV, encN, encP, hkI, hwr, hs1', hlk, hbnd, undef]; first | refine callK_r (by first | assumption | exact hsi | exact hsh | exact hsf) (by first | exact .inl rfl | exact .inr rfl) ?_ | (refine callK_i (by assumption) ?_ ?_ ?_; (solve | (repeat (first | exact DLe.refl _ | exact DLe.nil _ | (refine DLe.tup ?_) | (refine DLe.agg ?_ rfl) | exact trivial | (refine And.intro ?_ ?_)))); (solve | exact .inl rfl | exact .inr rfl))) | fail | omega | exact decide_eq_true (by omega) | exact DLe.refl _)
        all_goals (refine hC _ _ _ _ _ ?_ ⟨k + 1, g2 + 1, _, hlt, ?_, rfl, rfl, rfl⟩ (weak_forget _ (by simp) (by rw [take_snoc hs.out]; simp only [encV, List.map_append, List.map_cons, List.map_nil, encP, ← dRows_app]; rfl) (by (repeat' (first | exact trivial | (refine ⟨rfl, ?_⟩)))) (by first | rfl | simp only [belowH, belowE, belowC, belowL, belowR, belowP, belowL_d, belowR_d, List.length_cons, List.length_nil, Nat.reduceAdd, Nat.reduceLT, decide_true, Bool.and_self, Bool.and_true]) (by first | rfl | simp only [belowH, belowE, belowC, belowL, belowR, belowP, belowL_d, belowR_d, List.length_cons, List.length_nil, Nat.reduceAdd, Nat.reduceLT, decide_true, Bool.and_self, Bool.and_true])))
        all_goals first
          | (have := hm2.out; omega)
          | (have h1 := hY.out; have h2 := hal.out; have h3 := hsb.out; clear hap1 hap2 hr1 hr2 hid hsi hsh hsf hC hmy; grind)
      · obtain rfl : k = v.subs.length := by omega
        rw [List.take_length] at hY ⊢
        replace hY := Lib.hid hY
        replace hm2 := Lib.hid hm2
        have ha1 : apaF [] (v.ranges.map (·.at_)) = apaF [] (v.ranges.map (·.at_)) := rfl
        generalize hA1 : apaF [] (v.ranges.map (·.at_)) = A1 at *
        generalize hA2 : apaF [] (v.subs.map (·.at_)) = A2 at *
        replace hA1 := Lib.hid hA1
        replace hA2 := Lib.hid hA2
        clear ha1
        repeat' (first | (with_reducible refine And.intro ?_ ?_) | (with_reducible refine gK_i (fun _ => ?_) (fun _ => ?_)) | (with_reducible refine condS_i (fun _ => ?_) (fun _ => ?_)) | (with_reducible refine drw_i (by kernel_rfl)) | simp -dsimp only [go_sem, ↓reduceIte, reduceCtorEq, Nat.reduceAdd, Nat.reduceMul, Nat.reduceSub, Nat.reduceLeDiff, Nat.reduceLT, Nat.reduceEqDiff, Int.reduceLE, Int.reduceLT, Int.reduceToNat, Int.reduceBEq, Int.reduceBNe, Int.reduceEq, Int.reduceAdd, Int.reduceSub, Int.reduceMul, Int.reduceNeg, Int.cast_ofNat_Int, *, encV, Int.lt_irrefl, undef] | ((with_reducible refine opK_c ?_); simp -dsimp only [go_sem, ↓reduceIte, reduceCtorEq, Nat.reduceAdd, Nat.reduceMul, Nat.reduceSub, Nat.reduceLeDiff, Nat.reduceLT, Nat.reduceEqDiff, Int.reduceLE, Int.reduceLT, Int.reduceToNat, Int.reduceBEq, Int.reduceBNe, Int.reduceEq, Int.reduceAdd, Int.reduceSub, Int.reduceMul, Int.reduceNeg, Int.cast_ofNat_Int, encV, Int.lt_irrefl, undef]; first | refine callK_r (by first | assumption | exact hap1 | exact hap2) (by first | exact .inl rfl | exact .inr rfl) ?_ | (refine callK_i (by assumption) ?_ ?_ ?_; (solve | (repeat (first | exact DLe.refl _ | exact DLe.nil _ | (refine DLe.tup ?_) | (refine DLe.agg ?_ rfl) | exact trivial | (refine And.intro ?_ ?_)))); (solve | exact .inl rfl | exact .inr rfl))) | fail | omega | exact decide_eq_true (by omega) | exact DLe.refl _)
        all_goals
          have h1 := hX.out
          have h2 := hY.out
          clear hap1 hap2 hr1 hr2 hid hC hmy
          first
            | exact DLe.refl _
            | (rw [if_pos (by grind)]; exact DLe.refl _)
            | (rw [if_neg (by grind)]; exact DLe.refl _)
            | (exfalso; grind)
  | true =>
    rw [b1] at hid
    cases b2 : risB (fun r : Rng => r.at_.at_) v.ranges with
    | false =>
      rw [b1, b2, Bool.false_and, Bool.and_false] at hF0
      subst hF0
      rw [b2] at hr1
      refine ps_i tab_ok mixed Tryz.func12 rfl Tryz.ntmps12 Tryz.results12 (by kernel_rfl) ?_
      repeat' (first | (with_reducible refine And.intro ?_ ?_) | (with_reducible refine gK_i (fun _ => ?_) (fun _ => ?_)) | (with_reducible refine condS_i (fun _ => ?_) (fun _ => ?_)) | (with_reducible refine drw_i (by kernel_rfl)) | simp -dsimp only [go_sem, ↓reduceIte, reduceCtorEq, Nat.reduceAdd, Nat.reduceMul, Nat.reduceSub, Nat.reduceLeDiff, Nat.reduceLT, Nat.reduceEqDiff, Int.reduceLE, Int.reduceLT, Int.reduceToNat, Int.reduceBEq, Int.reduceBNe, Int.reduceEq, Int.reduceAdd, Int.reduceSub, Int.reduceMul, Int.reduceNeg, Int.cast_ofNat_Int, *, encV, undef] | ((with_reducible refine opK_c ?_); simp -dsimp only [go_sem, ↓reduceIte, reduceCtorEq, Nat.reduceAdd, Nat.reduceMul, Nat.reduceSub, Nat.reduceLeDiff, Nat.reduceLT, Nat.reduceEqDiff, Int.reduceLE, Int.reduceLT, Int.reduceToNat, Int.reduceBEq, Int.reduceBNe, Int.reduceEq, Int.reduceAdd, Int.reduceSub, Int.reduceMul, Int.reduceNeg, Int.cast_ofNat_Int, encV, undef]; first | refine callK_r (by first | assumption | exact hmy.out | exact hid | exact hr1) (by first | exact .inl rfl | exact .inr rfl) ?_ | (refine callK_i (by assumption) ?_ ?_ ?_; (solve | (repeat (first | exact DLe.refl _ | exact DLe.nil _ | (refine DLe.tup ?_) | (refine DLe.agg ?_ rfl) | exact trivial | (refine And.intro ?_ ?_)))); (solve | exact .inl rfl | exact .inr rfl))) | fail | omega | exact decide_eq_true (by omega) | exact DLe.refl _)
      refine loopG tab_ok mixed (fun m e h => ∃ (k g : Nat) (X : Bool), k ≤ v.ranges.length ∧ X = (false && (v.ranges.take k).all rangeB) ∧ m = v.ranges.length - k ∧ e = [(28, .d (.v (.int .i64 k))), (27, .d (.v (.int .i64 v.ranges.length))), (26, .d (.sl 3 (v.ranges.map encG))), (5, .d (.v (.bool X))), (4, .d (.v (.slice none 0 0))), (3, .own 1 g), (2, .d (.v (.int .i64 0))), (1, .ptr 0 0)] ∧
        h = [.box 25 ((encV v).map .d), .row 27 2 g (dRows (((v.ranges.take k).map (·.at_)).map encP))]) _ _ _ ⟨0, 0, false, Nat.zero_le _, by simp, rfl, rfl, rfl⟩ ((weak_adopt (Nat.zero_le _) 3 27 2 rfl).trans (weak_forget _ (by simp) (by (try simp only [encV]); rfl) (by (repeat' (first | exact trivial | (refine ⟨rfl, ?_⟩)))) (by first | rfl | simp only [belowH, belowE, belowC, belowL, belowR, belowP, belowL_d, belowR_d, List.length_cons, List.length_nil, Nat.reduceAdd, Nat.reduceLT, decide_true, Bool.and_self, Bool.and_true]) (by first | rfl | simp only [belowH, belowE, belowC, belowL, belowR, belowP, belowL_d, belowR_d, List.length_cons, List.length_nil, Nat.reduceAdd, Nat.reduceLT, decide_true, Bool.and_self, Bool.and_true]))) ?_
      rintro m e h ⟨k, g, X, hk, hX, hm0, rfl, rfl⟩ C hC
      by_cases hlt : k < v.ranges.length
      · have hkI : (k : Int) < (v.ranges.length : Int) := by omega
        have hwr : IntKind.i64.wrap ((k : Int) + 1) = ((k + 1 : Nat) : Int) := by rw [IntKind.wrap_i64]; omega
        obtain ⟨r, hr⟩ : ∃ r, v.ranges[k]? = some r := ⟨_, List.getElem?_eq_getElem hlt⟩
        have hrp := vids_p r.pool
        have hrc := check_p r.at_
        have hlk : (List.take k v.ranges).length = k := by rw [List.length_take]; omega
        have hbnd : (k + 1) * 16 ≤ 140737488355328 := by omega
        have hal := all_snoc (p := rangeB) hr
        have hrb : rangeB r = (idOK r.pool && (chk r.at_.at_ r.at_.len == 0)) := rfl
        generalize chk r.at_.at_ r.at_.len = K at *
        generalize idOK r.pool = I at *
        replace hX := Lib.hid hX
        replace hal := Lib.hid hal
        replace hrb := Lib.hid hrb
        replace hm0 := Lib.hid hm0
        replace hr := Lib.hid hr
        have hr1' := hr.out
        repeat' (first | (with_reducible refine And.intro ?_ ?_) | (with_reducible refine gK_i (fun _ => ?_) (fun _ => ?_)) | (with_reducible refine condS_i (fun _ => ?_) (fun _ => ?_)) | (with_reducible refine drw_i (by kernel_rfl)) | simp -dsimp only [go_sem, ↓reduceIte, reduceCtorEq, Nat.reduceAdd, Nat.reduceMul, Nat.reduceSub, Nat.reduceLeDiff, Nat.reduceLT, Nat.reduceEqDiff, Int.reduceLE, Int.reduceLT, Int.reduceToNat, Int.reduceBEq, Int.reduceBNe, Int.reduceEq, Int.reduceAdd, Int.reduceSub, Int.reduceMul, Int.reduceNeg, Int.cast_ofNat_Int, *, encV, encG, encP, hkI, hwr, hr1', hlk, hbnd, undef] | ((with_reducible refine opK_c ?_); simp -dsimp only [go_sem, ↓reduceIte, reduceCtorEq, Nat.reduceAdd, Nat.reduceMul, Nat.reduceSub, Nat.reduceLeDiff, Nat.reduceLT, Nat.reduceEqDiff, Int.reduceLE, Int.reduceLT, Int.reduceToNat, Int.reduceBEq, Int.reduceBNe, Int.reduceEq, Int.reduceAdd, Int.reduceSub, Int.reduceMul, Int.reduceNeg, Int.cast_ofNat_Int, encV, encG, encP, hkI, hwr, hr1', hlk, hbnd, undef]; first | refine callK_r (by first | assumption | exact hrp | exact hrc) (by first | exact .inl rfl | exact .inr rfl) ?_ | (refine callK_i (by assumption) ?_ ?_ ?_; (solve | (repeat (first | exact DLe.refl _ | exact DLe.nil _ | (refine DLe.tup ?_) | (refine DLe.agg ?_ rfl) | exact trivial | (refine And.intro ?_ ?_)))); (solve | exact .inl rfl | exact .inr rfl))) | fail | omega | exact decide_eq_true (by omega) | exact DLe.refl _)
        all_goals (refine hC _ _ _ _ _ ?_ ⟨k + 1, g + 1, _, hlt, ?_, rfl, rfl, rfl⟩ (weak_forget _ (by simp) (by rw [take_snoc hr.out]; simp only [encV, List.map_append, List.map_cons, List.map_nil, encP, ← dRows_app]; rfl) (by (repeat' (first | exact trivial | (refine ⟨rfl, ?_⟩)))) (by first | rfl | simp only [belowH, belowE, belowC, belowL, belowR, belowP, belowL_d, belowR_d, List.length_cons, List.length_nil, Nat.reduceAdd, Nat.reduceLT, decide_true, Bool.and_self, Bool.and_true]) (by first | rfl | simp only [belowH, belowE, belowC, belowL, belowR, belowP, belowL_d, belowR_d, List.length_cons, List.length_nil, Nat.reduceAdd, Nat.reduceLT, decide_true, Bool.and_self, Bool.and_true])))
        all_goals first
          | (have := hm0.out; omega)
          | (have h1 := hX.out; have h2 := hal.out; have h3 := hrb.out; clear hap1 hap2 hr1 hr2 hid hrp hrc hC hmy; grind)
      · obtain rfl : k = v.ranges.length := by omega
        rw [List.take_length] at hX ⊢
        replace hX := Lib.hid hX
        replace hm0 := Lib.hid hm0
        repeat' (first | (with_reducible refine And.intro ?_ ?_) | (with_reducible refine gK_i (fun _ => ?_) (fun _ => ?_)) | (with_reducible refine condS_i (fun _ => ?_) (fun _ => ?_)) | (with_reducible refine drw_i (by kernel_rfl)) | simp -dsimp only [go_sem, ↓reduceIte, reduceCtorEq, Nat.reduceAdd, Nat.reduceMul, Nat.reduceSub, Nat.reduceLeDiff, Nat.reduceLT, Nat.reduceEqDiff, Int.reduceLE, Int.reduceLT, Int.reduceToNat, Int.reduceBEq, Int.reduceBNe, Int.reduceEq, Int.reduceAdd, Int.reduceSub, Int.reduceMul, Int.reduceNeg, Int.cast_ofNat_Int, *, encV, Int.lt_irrefl] | ((with_reducible refine opK_c ?_); simp -dsimp only [go_sem, ↓reduceIte, reduceCtorEq, Nat.reduceAdd, Nat.reduceMul, Nat.reduceSub, Nat.reduceLeDiff, Nat.reduceLT, Nat.reduceEqDiff, Int.reduceLE, Int.reduceLT, Int.reduceToNat, Int.reduceBEq, Int.reduceBNe, Int.reduceEq, Int.reduceAdd, Int.reduceSub, Int.reduceMul, Int.reduceNeg, Int.cast_ofNat_Int, encV, Int.lt_irrefl]; first | refine callK_r (by first | assumption | fail) (by first | exact .inl rfl | exact .inr rfl) ?_ | (refine callK_i (by assumption) ?_ ?_ ?_; (solve | (repeat (first | exact DLe.refl _ | exact DLe.nil _ | (refine DLe.tup ?_) | (refine DLe.agg ?_ rfl) | exact trivial | (refine And.intro ?_ ?_)))); (solve | exact .inl rfl | exact .inr rfl))) | fail | omega | exact decide_eq_true (by omega) | exact DLe.refl _)
        refine loopG tab_ok mixed (fun m e h => ∃ (k g2 : Nat) (Y : Bool), k ≤ v.subs.length ∧ Y = (X && (v.subs.take k).all (subB v)) ∧ m = v.subs.length - k ∧ e = [(53, .d (.v (.int .i64 k))), (52, .d (.v (.int .i64 v.subs.length))), (51, .d (.sl 4 (v.subs.map encN))), (5, .d (.v (.bool Y))), (4, .own 2 g2), (3, .own 1 g), (2, .d (.v (.int .i64 0))), (1, .ptr 0 0)] ∧
          h = [.box 25 ((encV v).map .d), .row 27 2 g (dRows ((v.ranges.map (·.at_)).map encP)), .row 27 2 g2 (dRows (((v.subs.take k).map (·.at_)).map encP))]) _ _ _ ⟨0, 0, X, Nat.zero_le _, by simp, rfl, rfl, rfl⟩ ((weak_adopt (Nat.zero_le _) 4 27 2 rfl).trans (weak_forget _ (by simp) (by (try simp only [encV]); rfl) (by (repeat' (first | exact trivial | (refine ⟨rfl, ?_⟩)))) (by first | rfl | simp only [belowH, belowE, belowC, belowL, belowR, belowP, belowL_d, belowR_d, List.length_cons, List.length_nil, Nat.reduceAdd, Nat.reduceLT, decide_true, Bool.and_self, Bool.and_true]) (by first | rfl | simp only [belowH, belowE, belowC, belowL, belowR, belowP, belowL_d, belowR_d, List.length_cons, List.length_nil, Nat.reduceAdd, Nat.reduceLT, decide_true, Bool.and_self, Bool.and_true]))) ?_
        rintro m2 e h ⟨k, g2, Y, hk2, hY, hm2, rfl, rfl⟩ C hC
        by_cases hlt : k < v.subs.length
        · have hkI : (k : Int) < (v.subs.length : Int) := by omega
          have hwr : IntKind.i64.wrap ((k : Int) + 1) = ((k + 1 : Nat) : Int) := by rw [IntKind.wrap_i64]; omega
          obtain ⟨s, hs⟩ : ∃ s, v.subs[k]? = some s := ⟨_, List.getElem?_eq_getElem hlt⟩
          have hsm := List.mem_of_getElem? hs
          have hsi := vids_p s.id
          have hsh := vholds_p v s.at_ (by omega)
          have hsf := faces_p s (h8.out s hsm).1 (h8.out s hsm).2
          have hlk : (List.take k v.subs).length = k := by rw [List.length_take]; omega
          have hbnd : (k + 1) * 16 ≤ 140737488355328 := by omega
          have hal := all_snoc (p := subB v) hs
          have hsb : subB v s = (idOK s.id && (holdsV v s.at_ && facesB s)) := rfl
          generalize holdsV v s.at_ = H at *
          generalize idOK s.id = I at *
          generalize facesB s = F at *
          replace hY := Lib.hid hY
          replace hal := Lib.hid hal
          replace hsb := Lib.hid hsb
          replace hm2 := Lib.hid hm2
          replace hs := Lib.hid hs
          have hs1' := hs.out
          repeat' (first | (with_reducible refine And.intro ?_ ?_) | (with_reducible refine gK_i (fun _ => ?_) (fun _ => ?_)) | (with_reducible refine condS_i (fun _ => ?_) (fun _ => ?_)) | (with_reducible refine drw_i (by kernel_rfl)) | simp -dsimp only [go_sem, ↓reduceIte, reduceCtorEq, Nat.reduceAdd, Nat.reduceMul, Nat.reduceSub, Nat.reduceLeDiff, Nat.reduceLT, Nat.reduceEqDiff, Int.reduceLE, Int.reduceLT, Int.reduceToNat, Int.reduceBEq, Int.reduceBNe, Int.reduceEq, Int.reduceAdd, Int.reduceSub, Int.reduceMul, Int.reduceNeg, Int.cast_ofNat_Int, *, encV, encN, encP, hkI, hwr, hs1', hlk, hbnd, undef] | ((with_reducible refine opK_c ?_); simp -dsimp only [go_sem, ↓reduceIte, reduceCtorEq, Nat.reduceAdd, Nat.reduceMul, Nat.reduceSub, Nat.reduceLeDiff, Nat.reduceLT, Nat.reduceEqDiff, Int.reduceLE, Int.reduceLT, Int.reduceToNat, Int.reduceBEq, Int.reduceBNe, Int.reduceEq, Int.reduceAdd, Int.reduceSub, Int.reduceMul, Int.reduceNeg, Int.cast_ofNat_Int, encV, encN, encP, hkI, hwr, hs1', hlk, hbnd, undef]; first | refine callK_r (by first | assumption | exact hsi | exact hsh | exact hsf) (by first | exact .inl rfl | exact .inr rfl) ?_ | (refine callK_i (by assumption) ?_ ?_ ?_; (solve | (repeat (first | exact DLe.refl _ | exact DLe.nil _ | (refine DLe.tup ?_) | (refine DLe.agg ?_ rfl) | exact trivial | (refine And.intro ?_ ?_)))); (solve | exact .inl rfl | exact .inr rfl))) | fail | omega | exact decide_eq_true (by omega) | exact DLe.refl _)
          all_goals (refine hC _ _ _ _ _ ?_ ⟨k + 1, g2 + 1, _, hlt, ?_, rfl, rfl, rfl⟩ (weak_forget _ (by simp) (by rw [take_snoc hs.out]; simp only [encV, List.map_append, List.map_cons, List.map_nil, encP, ← dRows_app]; rfl) (by (repeat' (first | exact trivial | (refine ⟨rfl, ?_⟩)))) (by first | rfl | simp only [belowH, belowE, belowC, belowL, belowR, belowP, belowL_d, belowR_d, List.length_cons, List.length_nil, Nat.reduceAdd, Nat.reduceLT, decide_true, Bool.and_self, Bool.and_true]) (by first | rfl | simp only [belowH, belowE, belowC, belowL, belowR, belowP, belowL_d, belowR_d, List.length_cons, List.length_nil, Nat.reduceAdd, Nat.reduceLT, decide_true, Bool.and_self, Bool.and_true])))
          all_goals first
            | (have := hm2.out; omega)
            | (have h1 := hY.out; have h2 := hal.out; have h3 := hsb.out; clear hap1 hap2 hr1 hr2 hid hsi hsh hsf hC hmy; grind)
        · obtain rfl : k = v.subs.length := by omega
          rw [List.take_length] at hY ⊢
          replace hY := Lib.hid hY
          replace hm2 := Lib.hid hm2
          have ha1 : apaF [] (v.ranges.map (·.at_)) = apaF [] (v.ranges.map (·.at_)) := rfl
          generalize hA1 : apaF [] (v.ranges.map (·.at_)) = A1 at *
          generalize hA2 : apaF [] (v.subs.map (·.at_)) = A2 at *
          replace hA1 := Lib.hid hA1
          replace hA2 := Lib.hid hA2
          clear ha1
          repeat' (first | (with_reducible refine And.intro ?_ ?_) | (with_reducible refine gK_i (fun _ => ?_) (fun _ => ?_)) | (with_reducible refine condS_i (fun _ => ?_) (fun _ => ?_)) | (with_reducible refine drw_i (by kernel_rfl)) | simp -dsimp only [go_sem, ↓reduceIte, reduceCtorEq, Nat.reduceAdd, Nat.reduceMul, Nat.reduceSub, Nat.reduceLeDiff, Nat.reduceLT, Nat.reduceEqDiff, Int.reduceLE, Int.reduceLT, Int.reduceToNat, Int.reduceBEq, Int.reduceBNe, Int.reduceEq, Int.reduceAdd, Int.reduceSub, Int.reduceMul, Int.reduceNeg, Int.cast_ofNat_Int, *, encV, Int.lt_irrefl, undef] | ((with_reducible refine opK_c ?_); simp -dsimp only [go_sem, ↓reduceIte, reduceCtorEq, Nat.reduceAdd, Nat.reduceMul, Nat.reduceSub, Nat.reduceLeDiff, Nat.reduceLT, Nat.reduceEqDiff, Int.reduceLE, Int.reduceLT, Int.reduceToNat, Int.reduceBEq, Int.reduceBNe, Int.reduceEq, Int.reduceAdd, Int.reduceSub, Int.reduceMul, Int.reduceNeg, Int.cast_ofNat_Int, encV, Int.lt_irrefl, undef]; first | refine callK_r (by first | assumption | exact hap1 | exact hap2) (by first | exact .inl rfl | exact .inr rfl) ?_ | (refine callK_i (by assumption) ?_ ?_ ?_; (solve | (repeat (first | exact DLe.refl _ | exact DLe.nil _ | (refine DLe.tup ?_) | (refine DLe.agg ?_ rfl) | exact trivial | (refine And.intro ?_ ?_)))); (solve | exact .inl rfl | exact .inr rfl))) | fail | omega | exact decide_eq_true (by omega) | exact DLe.refl _)
          all_goals
            have h1 := hX.out
            have h2 := hY.out
            clear hap1 hap2 hr1 hr2 hid hC hmy
            first
              | exact DLe.refl _
              | (rw [if_pos (by grind)]; exact DLe.refl _)
              | (rw [if_neg (by grind)]; exact DLe.refl _)
              | (exfalso; grind)
    | true =>
      rw [b1, b2, Bool.true_and, Bool.true_and] at hF0
      subst hF0
      rw [b2] at hr1
      generalize risB (fun s : Sbn => s.id) v.subs = F0 at *
      refine ps_i tab_ok mixed Tryz.func12 rfl Tryz.ntmps12 Tryz.results12 (by kernel_rfl) ?_
      repeat' (first | (with_reducible refine And.intro ?_ ?_) | (with_reducible refine gK_i (fun _ => ?_) (fun _ => ?_)) | (with_reducible refine condS_i (fun _ => ?_) (fun _ => ?_)) | (with_reducible refine drw_i (by kernel_rfl)) | simp -dsimp only [go_sem, ↓reduceIte, reduceCtorEq, Nat.reduceAdd, Nat.reduceMul, Nat.reduceSub, Nat.reduceLeDiff, Nat.reduceLT, Nat.reduceEqDiff, Int.reduceLE, Int.reduceLT, Int.reduceToNat, Int.reduceBEq, Int.reduceBNe, Int.reduceEq, Int.reduceAdd, Int.reduceSub, Int.reduceMul, Int.reduceNeg, Int.cast_ofNat_Int, *, encV, undef] | ((with_reducible refine opK_c ?_); simp -dsimp only [go_sem, ↓reduceIte, reduceCtorEq, Nat.reduceAdd, Nat.reduceMul, Nat.reduceSub, Nat.reduceLeDiff, Nat.reduceLT, Nat.reduceEqDiff, Int.reduceLE, Int.reduceLT, Int.reduceToNat, Int.reduceBEq, Int.reduceBNe, Int.reduceEq, Int.reduceAdd, Int.reduceSub, Int.reduceMul, Int.reduceNeg, Int.cast_ofNat_Int, encV, undef]; first | refine callK_r (by first | assumption | exact hmy.out | exact hid | exact hr1 | exact hr2) (by first | exact .inl rfl | exact .inr rfl) ?_ | (refine callK_i (by assumption) ?_ ?_ ?_; (solve | (repeat (first | exact DLe.refl _ | exact DLe.nil _ | (refine DLe.tup ?_) | (refine DLe.agg ?_ rfl) | exact trivial | (refine And.intro ?_ ?_)))); (solve | exact .inl rfl | exact .inr rfl))) | fail | omega | exact decide_eq_true (by omega) | exact DLe.refl _)
      refine loopG tab_ok mixed (fun m e h => ∃ (k g : Nat) (X : Bool), k ≤ v.ranges.length ∧ X = (F0 && (v.ranges.take k).all rangeB) ∧ m = v.ranges.length - k ∧ e = [(28, .d (.v (.int .i64 k))), (27, .d (.v (.int .i64 v.ranges.length))), (26, .d (.sl 3 (v.ranges.map encG))), (5, .d (.v (.bool X))), (4, .d (.v (.slice none 0 0))), (3, .own 1 g), (2, .d (.v (.int .i64 0))), (1, .ptr 0 0)] ∧
        h = [.box 25 ((encV v).map .d), .row 27 2 g (dRows (((v.ranges.take k).map (·.at_)).map encP))]) _ _ _ ⟨0, 0, F0, Nat.zero_le _, by simp, rfl, rfl, rfl⟩ ((weak_adopt (Nat.zero_le _) 3 27 2 rfl).trans (weak_forget _ (by simp) (by (try simp only [encV]); rfl) (by (repeat' (first | exact trivial | (refine ⟨rfl, ?_⟩)))) (by first | rfl | simp only [belowH, belowE, belowC, belowL, belowR, belowP, belowL_d, belowR_d, List.length_cons, List.length_nil, Nat.reduceAdd, Nat.reduceLT, decide_true, Bool.and_self, Bool.and_true]) (by first | rfl | simp only [belowH, belowE, belowC, belowL, belowR, belowP, belowL_d, belowR_d, List.length_cons, List.length_nil, Nat.reduceAdd, Nat.reduceLT, decide_true, Bool.and_self, Bool.and_true]))) ?_
      rintro m e h ⟨k, g, X, hk, hX, hm0, rfl, rfl⟩ C hC
      by_cases hlt : k < v.ranges.length
      · have hkI : (k : Int) < (v.ranges.length : Int) := by omega
        have hwr : IntKind.i64.wrap ((k : Int) + 1) = ((k + 1 : Nat) : Int) := by rw [IntKind.wrap_i64]; omega
        obtain ⟨r, hr⟩ : ∃ r, v.ranges[k]? = some r := ⟨_, List.getElem?_eq_getElem hlt⟩
        have hrp := vids_p r.pool
        have hrc := check_p r.at_
        have hlk : (List.take k v.ranges).length = k := by rw [List.length_take]; omega
        have hbnd : (k + 1) * 16 ≤ 140737488355328 := by omega
        have hal := all_snoc (p := rangeB) hr
        have hrb : rangeB r = (idOK r.pool && (chk r.at_.at_ r.at_.len == 0)) := rfl
        generalize chk r.at_.at_ r.at_.len = K at *
        generalize idOK r.pool = I at *
        replace hX := Lib.hid hX
        replace hal := Lib.hid hal
        replace hrb := Lib.hid hrb
        replace hm0 := Lib.hid hm0
        replace hr := Lib.hid hr
        have hr1' := hr.out
        repeat' (first | (with_reducible refine And.intro ?_ ?_) | (with_reducible refine gK_i (fun _ => ?_) (fun _ => ?_)) | (with_reducible refine condS_i (fun _ => ?_) (fun _ => ?_)) | (with_reducible refine drw_i (by kernel_rfl)) | simp -dsimp only [go_sem, ↓reduceIte, reduceCtorEq, Nat.reduceAdd, Nat.reduceMul, Nat.reduceSub, Nat.reduceLeDiff, Nat.reduceLT, Nat.reduceEqDiff, Int.reduceLE, Int.reduceLT, Int.reduceToNat, Int.reduceBEq, Int.reduceBNe, Int.reduceEq, Int.reduceAdd, Int.reduceSub, Int.reduceMul, Int.reduceNeg, Int.cast_ofNat_Int, *, encV, encG, encP, hkI, hwr, hr1', hlk, hbnd, undef] | ((with_reducible refine opK_c ?_); simp -dsimp only [go_sem, ↓reduceIte, reduceCtorEq, Nat.reduceAdd, Nat.reduceMul, Nat.reduceSub, Nat.reduceLeDiff, Nat.reduceLT, Nat.reduceEqDiff, Int.reduceLE, Int.reduceLT, Int.reduceToNat, Int.reduceBEq, Int.reduceBNe, Int.reduceEq, Int.reduceAdd, Int.reduceSub, Int.reduceMul, Int.reduceNeg, Int.cast_ofNat_Int, encV, encG, encP, hkI, hwr, hr1', hlk, hbnd, undef]; first | refine callK_r (by first | assumption | exact hrp | exact hrc) (by first | exact .inl rfl | exact .inr rfl) ?_ | (refine callK_i (by assumption) ?_ ?_ ?_; (solve | (repeat (first | exact DLe.refl _ | exact DLe.nil _ | (refine DLe.tup ?_) | (refine DLe.agg ?_ rfl) | exact trivial | (refine And.intro ?_ ?_)))); (solve | exact .inl rfl | exact .inr rfl))) | fail | omega | exact decide_eq_true (by omega) | exact DLe.refl _)
        all_goals (refine hC _ _ _ _ _ ?_ ⟨k + 1, g + 1, _, hlt, ?_, rfl, rfl, rfl⟩ (weak_forget _ (by simp) (by rw [take_snoc hr.out]; simp only [encV, List.map_append, List.map_cons, List.map_nil, encP, ← dRows_app]; rfl) (by (repeat' (first | exact trivial | (refine ⟨rfl, ?_⟩)))) (by first | rfl | simp only [belowH, belowE, belowC, belowL, belowR, belowP, belowL_d, belowR_d, List.length_cons, List.length_nil, Nat.reduceAdd, Nat.reduceLT, decide_true, Bool.and_self, Bool.and_true]) (by first | rfl | simp only [belowH, belowE, belowC, belowL, belowR, belowP, belowL_d, belowR_d, List.length_cons, List.length_nil, Nat.reduceAdd, Nat.reduceLT, decide_true, Bool.and_self, Bool.and_true])))
        all_goals first
          | (have := hm0.out; omega)
          | (have h1 := hX.out; have h2 := hal.out; have h3 := hrb.out; clear hap1 hap2 hr1 hr2 hid hrp hrc hC hmy; grind)
      · obtain rfl : k = v.ranges.length := by omega
        rw [List.take_length] at hX ⊢
        replace hX := Lib.hid hX
        replace hm0 := Lib.hid hm0
        repeat' (first | (with_reducible refine And.intro ?_ ?_) | (with_reducible refine gK_i (fun _ => ?_) (fun _ => ?_)) | (with_reducible refine condS_i (fun _ => ?_) (fun _ => ?_)) | (with_reducible refine drw_i (by kernel_rfl)) | simp -dsimp only [go_sem, ↓reduceIte, reduceCtorEq, Nat.reduceAdd, Nat.reduceMul, Nat.reduceSub, Nat.reduceLeDiff, Nat.reduceLT, Nat.reduceEqDiff, Int.reduceLE, Int.reduceLT, Int.reduceToNat, Int.reduceBEq, Int.reduceBNe, Int.reduceEq, Int.reduceAdd, Int.reduceSub, Int.reduceMul, Int.reduceNeg, Int.cast_ofNat_Int, *, encV, Int.lt_irrefl] | ((with_reducible refine opK_c ?_); simp -dsimp only [go_sem, ↓reduceIte, reduceCtorEq, Nat.reduceAdd, Nat.reduceMul, Nat.reduceSub, Nat.reduceLeDiff, Nat.reduceLT, Nat.reduceEqDiff, Int.reduceLE, Int.reduceLT, Int.reduceToNat, Int.reduceBEq, Int.reduceBNe, Int.reduceEq, Int.reduceAdd, Int.reduceSub, Int.reduceMul, Int.reduceNeg, Int.cast_ofNat_Int, encV, Int.lt_irrefl]; first | refine callK_r (by first | assumption | fail) (by first | exact .inl rfl | exact .inr rfl) ?_ | (refine callK_i (by assumption) ?_ ?_ ?_; (solve | (repeat (first | exact DLe.refl _ | exact DLe.nil _ | (refine DLe.tup ?_) | (refine DLe.agg ?_ rfl) | exact trivial | (refine And.intro ?_ ?_)))); (solve | exact .inl rfl | exact .inr rfl))) | fail | omega | exact decide_eq_true (by omega) | exact DLe.refl _)
        refine loopG tab_ok mixed (fun m e h => ∃ (k g2 : Nat) (Y : Bool), k ≤ v.subs.length ∧ Y = (X && (v.subs.take k).all (subB v)) ∧ m = v.subs.length - k ∧ e = [(53, .d (.v (.int .i64 k))), (52, .d (.v (.int .i64 v.subs.length))), (51, .d (.sl 4 (v.subs.map encN))), (5, .d (.v (.bool Y))), (4, .own 2 g2), (3, .own 1 g), (2, .d (.v (.int .i64 0))), (1, .ptr 0 0)] ∧
          h = [.box 25 ((encV v).map .d), .row 27 2 g (dRows ((v.ranges.map (·.at_)).map encP)), .row 27 2 g2 (dRows (((v.subs.take k).map (·.at_)).map encP))]) _ _ _ ⟨0, 0, X, Nat.zero_le _, by simp, rfl, rfl, rfl⟩ ((weak_adopt (Nat.zero_le _) 4 27 2 rfl).trans (weak_forget _ (by simp) (by (try simp only [encV]); rfl) (by (repeat' (first | exact trivial | (refine ⟨rfl, ?_⟩)))) (by first | rfl | simp only [belowH, belowE, belowC, belowL, belowR, belowP, belowL_d, belowR_d, List.length_cons, List.length_nil, Nat.reduceAdd, Nat.reduceLT, decide_true, Bool.and_self, Bool.and_true]) (by first | rfl | simp only [belowH, belowE, belowC, belowL, belowR, belowP, belowL_d, belowR_d, List.length_cons, List.length_nil, Nat.reduceAdd, Nat.reduceLT, decide_true, Bool.and_self, Bool.and_true]))) ?_
        rintro m2 e h ⟨k, g2, Y, hk2, hY, hm2, rfl, rfl⟩ C hC
        by_cases hlt : k < v.subs.length
        · have hkI : (k : Int) < (v.subs.length : Int) := by omega
          have hwr : IntKind.i64.wrap ((k : Int) + 1) = ((k + 1 : Nat) : Int) := by rw [IntKind.wrap_i64]; omega
          obtain ⟨s, hs⟩ : ∃ s, v.subs[k]? = some s := ⟨_, List.getElem?_eq_getElem hlt⟩
          have hsm := List.mem_of_getElem? hs
          have hsi := vids_p s.id
          have hsh := vholds_p v s.at_ (by omega)
          have hsf := faces_p s (h8.out s hsm).1 (h8.out s hsm).2
          have hlk : (List.take k v.subs).length = k := by rw [List.length_take]; omega
          have hbnd : (k + 1) * 16 ≤ 140737488355328 := by omega
          have hal := all_snoc (p := subB v) hs
          have hsb : subB v s = (idOK s.id && (holdsV v s.at_ && facesB s)) := rfl
          generalize holdsV v s.at_ = H at *
          generalize idOK s.id = I at *
          generalize facesB s = F at *
          replace hY := Lib.hid hY
          replace hal := Lib.hid hal
          replace hsb := Lib.hid hsb
          replace hm2 := Lib.hid hm2
          replace hs := Lib.hid hs
          have hs1' := hs.out
          repeat' (first | (with_reducible refine And.intro ?_ ?_) | (with_reducible refine gK_i (fun _ => ?_) (fun _ => ?_)) | (with_reducible refine condS_i (fun _ => ?_) (fun _ => ?_)) | (with_reducible refine drw_i (by kernel_rfl)) | simp -dsimp only [go_sem, ↓reduceIte, reduceCtorEq, Nat.reduceAdd, Nat.reduceMul, Nat.reduceSub, Nat.reduceLeDiff, Nat.reduceLT, Nat.reduceEqDiff, Int.reduceLE, Int.reduceLT, Int.reduceToNat, Int.reduceBEq, Int.reduceBNe, Int.reduceEq, Int.reduceAdd, Int.reduceSub, Int.reduceMul, Int.reduceNeg, Int.cast_ofNat_Int, *, encV, encN, encP, hkI, hwr, hs1', hlk, hbnd, undef] | ((with_reducible refine opK_c ?_); simp -dsimp only [go_sem, ↓reduceIte, reduceCtorEq, Nat.reduceAdd, Nat.reduceMul, Nat.reduceSub, Nat.reduceLeDiff, Nat.reduceLT, Nat.reduceEqDiff, Int.reduceLE, Int.reduceLT, Int.reduceToNat, Int.reduceBEq, Int.reduceBNe, Int.reduceEq, Int.reduceAdd, Int.reduceSub, Int.reduceMul, Int.reduceNeg, Int.cast_ofNat_Int, encV, encN, encP, hkI, hwr, hs1', hlk, hbnd, undef]; first | refine callK_r (by first | assumption | exact hsi | exact hsh | exact hsf) (by first | exact .inl rfl | exact .inr rfl) ?_ | (refine callK_i (by assumption) ?_ ?_ ?_; (solve | (repeat (first | exact DLe.refl _ | exact DLe.nil _ | (refine DLe.tup ?_) | (refine DLe.agg ?_ rfl) | exact trivial | (refine And.intro ?_ ?_)))); (solve | exact .inl rfl | exact .inr rfl))) | fail | omega | exact decide_eq_true (by omega) | exact DLe.refl _)
          all_goals (refine hC _ _ _ _ _ ?_ ⟨k + 1, g2 + 1, _, hlt, ?_, rfl, rfl, rfl⟩ (weak_forget _ (by simp) (by rw [take_snoc hs.out]; simp only [encV, List.map_append, List.map_cons, List.map_nil, encP, ← dRows_app]; rfl) (by (repeat' (first | exact trivial | (refine ⟨rfl, ?_⟩)))) (by first | rfl | simp only [belowH, belowE, belowC, belowL, belowR, belowP, belowL_d, belowR_d, List.length_cons, List.length_nil, Nat.reduceAdd, Nat.reduceLT, decide_true, Bool.and_self, Bool.and_true]) (by first | rfl | simp only [belowH, belowE, belowC, belowL, belowR, belowP, belowL_d, belowR_d, List.length_cons, List.length_nil, Nat.reduceAdd, Nat.reduceLT, decide_true, Bool.and_self, Bool.and_true])))
          all_goals first
            | (have := hm2.out; omega)
            | (have h1 := hY.out; have h2 := hal.out; have h3 := hsb.out; clear hap1 hap2 hr1 hr2 hid hsi hsh hsf hC hmy; grind)
        · obtain rfl : k = v.subs.length := by omega
          rw [List.take_length] at hY ⊢
          replace hY := Lib.hid hY
          replace hm2 := Lib.hid hm2
          have ha1 : apaF [] (v.ranges.map (·.at_)) = apaF [] (v.ranges.map (·.at_)) := rfl
          generalize hA1 : apaF [] (v.ranges.map (·.at_)) = A1 at *
          generalize hA2 : apaF [] (v.subs.map (·.at_)) = A2 at *
          replace hA1 := Lib.hid hA1
          replace hA2 := Lib.hid hA2
          clear ha1
          repeat' (first | (with_reducible refine And.intro ?_ ?_) | (with_reducible refine gK_i (fun _ => ?_) (fun _ => ?_)) | (with_reducible refine condS_i (fun _ => ?_) (fun _ => ?_)) | (with_reducible refine drw_i (by kernel_rfl)) | simp -dsimp only [go_sem, ↓reduceIte, reduceCtorEq, Nat.reduceAdd, Nat.reduceMul, Nat.reduceSub, Nat.reduceLeDiff, Nat.reduceLT, Nat.reduceEqDiff, Int.reduceLE, Int.reduceLT, Int.reduceToNat, Int.reduceBEq, Int.reduceBNe, Int.reduceEq, Int.reduceAdd, Int.reduceSub, Int.reduceMul, Int.reduceNeg, Int.cast_ofNat_Int, *, encV, Int.lt_irrefl, undef] | ((with_reducible refine opK_c ?_); simp -dsimp only [go_sem, ↓reduceIte, reduceCtorEq, Nat.reduceAdd, Nat.reduceMul, Nat.reduceSub, Nat.reduceLeDiff, Nat.reduceLT, Nat.reduceEqDiff, Int.reduceLE, Int.reduceLT, Int.reduceToNat, Int.reduceBEq, Int.reduceBNe, Int.reduceEq, Int.reduceAdd, Int.reduceSub, Int.reduceMul, Int.reduceNeg, Int.cast_ofNat_Int, encV, Int.lt_irrefl, undef]; first | refine callK_r (by first | assumption | exact hap1 | exact hap2) (by first | exact .inl rfl | exact .inr rfl) ?_ | (refine callK_i (by assumption) ?_ ?_ ?_; (solve | (repeat (first | exact DLe.refl _ | exact DLe.nil _ | (refine DLe.tup ?_) | (refine DLe.agg ?_ rfl) | exact trivial | (refine And.intro ?_ ?_)))); (solve | exact .inl rfl | exact .inr rfl))) | fail | omega | exact decide_eq_true (by omega) | exact DLe.refl _)
          all_goals
            have h1 := hX.out
            have h2 := hY.out
            clear hap1 hap2 hr1 hr2 hid hC hmy
            first
              | exact DLe.refl _
              | (rw [if_pos (by grind)]; exact DLe.refl _)
              | (rw [if_neg (by grind)]; exact DLe.refl _)
              | (exfalso; grind)
end Go.Proofs.YtdcjeacphbfmjaaGreat
namespace Go.Proofs.YtdcjeacphbfmjaaGreat
open Go Go.RowKit
theorem clone_int (l : List Int) (hl : l.length ≤ 1000000000) :
    MSpec Tryz.prog 73 [.d (.sl 1 (l.map encA))] [] (.own 0 1) [.row 3 1 1 (dRows (l.map encA))] := by
  cases l with
  | nil =>
    refine ms_empty (pl := []) (ql := []) fun ao cap => ?_
    cases ao with
    | none =>
      simp only [List.nil_append]
      refine ms_i tab_ok mixed Tryz.func73 rfl Tryz.ntmps73 Tryz.results73 (by kernel_rfl) (by simp) (by simp [belowL, belowP]) (by simp [belowH, belowC, belowL, belowP, belowL_d, belowR_d]) ?_
      repeat' (first | (with_reducible refine And.intro ?_ ?_) | (with_reducible refine gK_i (fun _ => ?_) (fun _ => ?_)) | (with_reducible refine condS_i (fun _ => ?_) (fun _ => ?_)) | (with_reducible refine drw_i (by kernel_rfl)) | simp -dsimp only [go_sem, ↓reduceIte, reduceCtorEq, Nat.reduceAdd, Nat.reduceMul, Nat.reduceSub, Nat.reduceLeDiff, Nat.reduceLT, Nat.reduceEqDiff, Int.reduceLE, Int.reduceLT, Int.reduceToNat, Int.reduceBEq, Int.reduceBNe, Int.reduceEq, Int.reduceAdd, Int.reduceSub, Int.reduceMul, Int.reduceNeg, Int.cast_ofNat_Int, *, Option.isNone_none, Option.isSome_some] | ((with_reducible refine opK_c ?_); simp -dsimp only [go_sem, ↓reduceIte, reduceCtorEq, Nat.reduceAdd, Nat.reduceMul, Nat.reduceSub, Nat.reduceLeDiff, Nat.reduceLT, Nat.reduceEqDiff, Int.reduceLE, Int.reduceLT, Int.reduceToNat, Int.reduceBEq, Int.reduceBNe, Int.reduceEq, Int.reduceAdd, Int.reduceSub, Int.reduceMul, Int.reduceNeg, Int.cast_ofNat_Int, Option.isNone_none, Option.isSome_some]; first | refine callK_r (by first | assumption | fail) (by first | exact .inl rfl | exact .inr rfl) ?_ | refine callK_i (by assumption) (by repeat (first | exact DLe.refl _ | exact DLe.nil _ | (refine DLe.tup ?_) | (refine DLe.agg ?_ rfl) | exact trivial | (refine And.intro ?_ ?_))) (by first | exact .inl rfl | exact .inr rfl) ?_) | omega | exact decide_eq_true (by omega) | exact DLe.refl _)
      refine weak_ret_adopt (h := []) (Nat.le_refl _) 3 1 ?_
      exact (weak_ret_bump 0 0 3 1 [] rfl (weak_eq rfl rfl))
    | some a =>
      simp only [List.nil_append]
      refine ms_i tab_ok mixed Tryz.func73 rfl Tryz.ntmps73 Tryz.results73 (by kernel_rfl) (by simp) (by simp [belowL, belowP]) (by simp [belowH, belowC, belowL, belowP, belowL_d, belowR_d]) ?_
      repeat' (first | (with_reducible refine And.intro ?_ ?_) | (with_reducible refine gK_i (fun _ => ?_) (fun _ => ?_)) | (with_reducible refine condS_i (fun _ => ?_) (fun _ => ?_)) | (with_reducible refine drw_i (by kernel_rfl)) | simp -dsimp only [go_sem, ↓reduceIte, reduceCtorEq, Nat.reduceAdd, Nat.reduceMul, Nat.reduceSub, Nat.reduceLeDiff, Nat.reduceLT, Nat.reduceEqDiff, Int.reduceLE, Int.reduceLT, Int.reduceToNat, Int.reduceBEq, Int.reduceBNe, Int.reduceEq, Int.reduceAdd, Int.reduceSub, Int.reduceMul, Int.reduceNeg, Int.cast_ofNat_Int, *, Option.isNone_some, Option.isSome_some] | ((with_reducible refine opK_c ?_); simp -dsimp only [go_sem, ↓reduceIte, reduceCtorEq, Nat.reduceAdd, Nat.reduceMul, Nat.reduceSub, Nat.reduceLeDiff, Nat.reduceLT, Nat.reduceEqDiff, Int.reduceLE, Int.reduceLT, Int.reduceToNat, Int.reduceBEq, Int.reduceBNe, Int.reduceEq, Int.reduceAdd, Int.reduceSub, Int.reduceMul, Int.reduceNeg, Int.cast_ofNat_Int, Option.isNone_some, Option.isSome_some]; first | refine callK_r (by first | assumption | fail) (by first | exact .inl rfl | exact .inr rfl) ?_ | refine callK_i (by assumption) (by repeat (first | exact DLe.refl _ | exact DLe.nil _ | (refine DLe.tup ?_) | (refine DLe.agg ?_ rfl) | exact trivial | (refine And.intro ?_ ?_))) (by first | exact .inl rfl | exact .inr rfl) ?_) | omega | exact decide_eq_true (by omega) | exact DLe.refl _)
      exact weak_eq rfl rfl
  | cons x l =>
    simp only [List.length_cons] at hl
    refine ms_i tab_ok mixed Tryz.func73 rfl Tryz.ntmps73 Tryz.results73 (by kernel_rfl) (by simp) (by simp [belowL, belowP]) (by simp [belowH, belowC, belowL, belowP, belowL_d, belowR_d]) ?_
    repeat' (first | (with_reducible refine And.intro ?_ ?_) | (with_reducible refine gK_i (fun _ => ?_) (fun _ => ?_)) | (with_reducible refine condS_i (fun _ => ?_) (fun _ => ?_)) | (with_reducible refine drw_i (by kernel_rfl)) | simp -dsimp only [go_sem, ↓reduceIte, reduceCtorEq, Nat.reduceAdd, Nat.reduceMul, Nat.reduceSub, Nat.reduceLeDiff, Nat.reduceLT, Nat.reduceEqDiff, Int.reduceLE, Int.reduceLT, Int.reduceToNat, Int.reduceBEq, Int.reduceBNe, Int.reduceEq, Int.reduceAdd, Int.reduceSub, Int.reduceMul, Int.reduceNeg, Int.cast_ofNat_Int, *, Option.isNone_some, Option.isSome_some] | ((with_reducible refine opK_c ?_); simp -dsimp only [go_sem, ↓reduceIte, reduceCtorEq, Nat.reduceAdd, Nat.reduceMul, Nat.reduceSub, Nat.reduceLeDiff, Nat.reduceLT, Nat.reduceEqDiff, Int.reduceLE, Int.reduceLT, Int.reduceToNat, Int.reduceBEq, Int.reduceBNe, Int.reduceEq, Int.reduceAdd, Int.reduceSub, Int.reduceMul, Int.reduceNeg, Int.cast_ofNat_Int, Option.isNone_some, Option.isSome_some]; first | refine callK_r (by first | assumption | fail) (by first | exact .inl rfl | exact .inr rfl) ?_ | refine callK_i (by assumption) (by repeat (first | exact DLe.refl _ | exact DLe.nil _ | (refine DLe.tup ?_) | (refine DLe.agg ?_ rfl) | exact trivial | (refine And.intro ?_ ?_))) (by first | exact .inl rfl | exact .inr rfl) ?_) | omega | exact decide_eq_true (by omega) | exact DLe.refl _)
    all_goals first | omega | exact weak_eq rfl rfl
def subRow (s : Sbn) (v : PV) : List PV := [.d (.v (.int .i64 s.id)), .d (.v (.int .i64 s.at_.at_)), .d (.v (.int .i64 s.at_.len)), v]
def faceRow (f : Fce) (v : PV) : List PV := [.d (.v (.int .i64 f.id)), v]
/-- Rows of data, one of which has something for itself. -/
def zipG {α : Type} (enc : α → List D) (pre : List α) (r : List PV) (post : List α) : List (List PV) := dRows (pre.map enc) ++ r :: dRows (post.map enc)
section
variable {α : Type} {enc : α → List D}
theorem zipG_len (pre : List α) (r : List PV) (post : List α) : (zipG enc pre r post).length = pre.length + 1 + post.length := by
  simp [zipG, dRows_len]; omega
theorem belowR_app (n : Nat) : ∀ (l m : List (List PV)), belowR n (l ++ m) = (belowR n l && belowR n m)
  | [], m => rfl
  | r :: l, m => by simp only [List.cons_append, belowR, belowR_app n l m, Bool.and_assoc]
theorem belowR_zipG (n : Nat) (pre : List α) (r : List PV) (post : List α) : belowR n (zipG enc pre r post) = belowL n r := by
  simp only [zipG, belowR_app, belowR, belowR_d, Bool.true_and, Bool.and_true]
theorem fzR_zipG (k g : Nat) (d : D) (pre : List α) (r : List PV) (post : List α) : fzR k g d (zipG enc pre r post) = zipG enc pre (fzL k g d r) post := by
  simp only [zipG, fzR_app, fzR, fzR_d]
theorem zipG_snoc (pre : List α) (r : List PV) (post : List α) (q : α) : zipG enc pre r post ++ [(enc q).map .d] = zipG enc pre r (post ++ [q]) := by
  simp [zipG, dRows]
theorem renR_zipG (ρ : Nat → Nat) (pre : List α) (r : List PV) (post : List α) : renR ρ (zipG enc pre r post) = zipG enc pre (renL ρ r) post := by
  have app : ∀ (l m : List (List PV)), renR ρ (l ++ m) = renR ρ l ++ renR ρ m := by
    intro l m
    rw [renR_map, renR_map, renR_map, List.map_append]
  simp only [zipG, app, renR, renR_d]
theorem viewR_app (f : PV → Option D) : ∀ (l m : List (List PV)), viewR f (l ++ m) = match viewR f l, viewR f m with | some a, some b => some (a ++ b) | _, _ => none
  | [], m => by simp only [List.nil_append, viewR]; cases viewR f m <;> rfl
  | r :: l, m => by
    simp only [List.cons_append, viewR, viewR_app f l m]
    cases viewL f r <;> cases viewR f l <;> cases viewR f m <;> rfl
theorem viewR_zipG (h : Nat → Chunk) (n : Nat) (pre : List α) (r : List PV) (post : List α) : viewR (viewF h n) (zipG enc pre r post) = match viewL (viewF h n) r with | some d => some (pre.map enc ++ d :: post.map enc) | none => none := by
  simp only [zipG, viewR_app, viewR, viewR_d]
  cases viewL (viewF h n) r <;> rfl
theorem zipG_get (pre : List α) (r : List PV) (post : List α) : (zipG enc pre r post)[pre.length]? = some r := by
  unfold zipG
  rw [List.getElem?_append_right (by simp [dRows_len])]
  simp [dRows_len]
theorem zipG_set (pre : List α) (r r' : List PV) (post : List α) : (zipG enc pre r post).set pre.length r' = zipG enc pre r' post := by
  unfold zipG
  rw [List.set_append_right _ _ (by simp [dRows_len])]
  simp [dRows_len]
end
theorem beginE_m (v : Vpc) (h : chkV v ≠ 0) :
    MSpec Tryz.prog 26 [.d (.agg (encV v))] [] (.tup [.ptr 1 0, .d (.v (.int .i64 (chkV v)))]) [.gone, .box 25 [.d (.v (.int .i64 0)), .d (.v (.slice none 0 0)), .d (.v (.slice none 0 0))]] := by
  have hc := vcheck_p v
  have h1 : (chkV v != 0) = true := by simpa using h
  refine ms_i tab_ok mixed Tryz.func26 rfl Tryz.ntmps26 Tryz.results26 (by kernel_rfl) (by simp) (by simp [belowL, belowP]) (by simp [belowH, belowC, belowL, belowP, belowL_d, belowR_d]) ?_
  repeat' (first | (with_reducible refine And.intro ?_ ?_) | (with_reducible refine gK_i (fun _ => ?_) (fun _ => ?_)) | (with_reducible refine condS_i (fun _ => ?_) (fun _ => ?_)) | (with_reducible refine drw_i (by kernel_rfl)) | simp -dsimp only [go_sem, ↓reduceIte, reduceCtorEq, Nat.reduceAdd, Nat.reduceMul, Nat.reduceSub, Nat.reduceLeDiff, Nat.reduceLT, Nat.reduceEqDiff, Int.reduceLE, Int.reduceLT, Int.reduceToNat, Int.reduceBEq, Int.reduceBNe, Int.reduceEq, Int.reduceAdd, Int.reduceSub, Int.reduceMul, Int.reduceNeg, Int.cast_ofNat_Int, *, encV, h1] | ((with_reducible refine opK_c ?_); simp -dsimp only [go_sem, ↓reduceIte, reduceCtorEq, Nat.reduceAdd, Nat.reduceMul, Nat.reduceSub, Nat.reduceLeDiff, Nat.reduceLT, Nat.reduceEqDiff, Int.reduceLE, Int.reduceLT, Int.reduceToNat, Int.reduceBEq, Int.reduceBNe, Int.reduceEq, Int.reduceAdd, Int.reduceSub, Int.reduceMul, Int.reduceNeg, Int.cast_ofNat_Int, encV, h1]; first | refine callK_r (by first | assumption | exact hc) (by first | exact .inl rfl | exact .inr rfl) ?_ | (refine callK_i (by assumption) ?_ ?_ ?_; (solve | (repeat (first | exact DLe.refl _ | exact DLe.nil _ | (refine DLe.tup ?_) | (refine DLe.agg ?_ rfl) | exact trivial | (refine And.intro ?_ ?_)))); (solve | exact .inl rfl | exact .inr rfl))) | fail | omega | exact decide_eq_true (by omega) | exact DLe.refl _)
  exact (weak_gone 0 (by simp)).trans (weak_eq rfl rfl)
set_option maxRecDepth 100000 in
set_option maxHeartbeats 1000000 in
theorem beginD_m (v : Vpc) (h : chkV v = 0) (h4 : v.ranges.length ≤ 4) (h6 : v.subs.length ≤ 6) (h8 : ∀ s ∈ v.subs, s.faces.length ≤ 8 ∧ ∀ f ∈ s.faces, f.addrs.length ≤ 4) :
    MSpec Tryz.prog 26 [.d (.agg (encV v))] [] (.tup [.ptr 2 0, .d (.v (.int .i64 0))]) [.gone, .row 29 3 1 (dRows (v.ranges.map encG)), .box 25 [.d (.v (.int .i64 v.id)), .own 1 1, .own 3 v.subs.length], .row 62 4 v.subs.length (dRows (v.subs.map encN))] := by
  have hc := vcheck_p v
  rw [h] at hc
  replace h := Lib.hid h
  replace h8 := Lib.hid h8
  have hcl := clone_Range encG v.ranges (by omega)
  refine ms_i tab_ok mixed Tryz.func26 rfl Tryz.ntmps26 Tryz.results26 (by kernel_rfl) (by simp) (by simp [belowL, belowP]) (by simp [belowH, belowC, belowL, belowP, belowL_d, belowR_d]) ?_
  repeat' (first | (with_reducible refine And.intro ?_ ?_) | (with_reducible refine gK_i (fun _ => ?_) (fun _ => ?_)) | (with_reducible refine condS_i (fun _ => ?_) (fun _ => ?_)) | (with_reducible refine drw_i (by kernel_rfl)) | simp -dsimp only [go_sem, ↓reduceIte, reduceCtorEq, Nat.reduceAdd, Nat.reduceMul, Nat.reduceSub, Nat.reduceLeDiff, Nat.reduceLT, Nat.reduceEqDiff, Int.reduceLE, Int.reduceLT, Int.reduceToNat, Int.reduceBEq, Int.reduceBNe, Int.reduceEq, Int.reduceAdd, Int.reduceSub, Int.reduceMul, Int.reduceNeg, Int.cast_ofNat_Int, *, encV] | ((with_reducible refine opK_c ?_); simp -dsimp only [go_sem, ↓reduceIte, reduceCtorEq, Nat.reduceAdd, Nat.reduceMul, Nat.reduceSub, Nat.reduceLeDiff, Nat.reduceLT, Nat.reduceEqDiff, Int.reduceLE, Int.reduceLT, Int.reduceToNat, Int.reduceBEq, Int.reduceBNe, Int.reduceEq, Int.reduceAdd, Int.reduceSub, Int.reduceMul, Int.reduceNeg, Int.cast_ofNat_Int, encV]; first | refine callK_r (by first | assumption | exact hc) (by first | exact .inl rfl | exact .inr rfl) ?_ | (refine callK_i (by assumption) ?_ ?_ ?_; (solve | (repeat (first | exact DLe.refl _ | exact DLe.nil _ | (refine DLe.tup ?_) | (refine DLe.agg ?_ rfl) | exact trivial | (refine And.intro ?_ ?_)))); (solve | exact .inl rfl | exact .inr rfl))) | (refine opK_M [] (hcl) ?_ ?_ ?_ ?_ ?_ ?_; (solve | rfl | simp only [go_sem, ↓reduceIte, reduceCtorEq, Nat.reduceAdd, Nat.reduceMul, Nat.reduceSub, Nat.reduceLeDiff, Nat.reduceLT, Nat.reduceEqDiff, Int.reduceLE, Int.reduceLT, Int.reduceToNat, Int.reduceBEq, Int.reduceBNe, Int.reduceEq, Int.reduceAdd, Int.reduceSub, Int.reduceMul, Int.reduceNeg, Int.cast_ofNat_Int, encV]); (solve | rfl); (solve | decide); (solve | simp); (solve | simp only [go_sem, ↓reduceIte, reduceCtorEq, Nat.reduceAdd, Nat.reduceMul, Nat.reduceSub, Nat.reduceLeDiff, Nat.reduceLT, Nat.reduceEqDiff, Int.reduceLE, Int.reduceLT, Int.reduceToNat, Int.reduceBEq, Int.reduceBNe, Int.reduceEq, Int.reduceAdd, Int.reduceSub, Int.reduceMul, Int.reduceNeg, Int.cast_ofNat_Int, lentOK, encV])) | omega | exact decide_eq_true (by omega) | exact DLe.refl _)
  refine loopL tab_ok mixed v.subs (fun _ => True) (fun k => [(28, .d (.v (.int .i64 k))), (27, .d (.v (.int .i64 v.subs.length))), (26, .d (.sl 4 (v.subs.map encN))), (5, .ptr 2 0)])
    (fun k => [.gone, .row 29 3 1 (dRows (v.ranges.map encG)), .box 25 [.d (.v (.int .i64 v.id)), .own 1 1, .own 3 k], .row 62 4 k (dRows ((v.subs.take k).map encN))]) trivial ?_ ?_ ?_
  · refine (weak_gone 0 (by simp)).trans ((weak_adopt_box (by simp) 2 25 [.d (.v (.int .i64 v.id)), .own 1 1, .d (.v (.slice none 0 0))] 2 62 4 rfl rfl rfl).trans ?_)
    exact weak_forget _ (by simp) (by rfl) (by (repeat' (first | exact trivial | (refine ⟨rfl, ?_⟩)))) (by first | rfl | simp only [belowH, belowE, belowC, belowL, belowR, belowP, belowL_d, belowR_d, belowR_zipG, subRow, faceRow, List.length_cons, List.length_nil, Nat.reduceAdd, Nat.reduceLT, decide_true, Bool.and_self, Bool.and_true]) (by first | rfl | simp only [belowH, belowE, belowC, belowL, belowR, belowP, belowL_d, belowR_d, belowR_zipG, subRow, faceRow, List.length_cons, List.length_nil, Nat.reduceAdd, Nat.reduceLT, decide_true, Bool.and_self, Bool.and_true])
  · intro k s hs hk _ CO hCO
    have hkI : (k : Int) < (v.subs.length : Int) := by omega
    have hwr : IntKind.i64.wrap ((k : Int) + 1) = ((k + 1 : Nat) : Int) := by rw [IntKind.wrap_i64]; omega
    have h8s := h8.out s (List.mem_of_getElem? hs)
    have hb1 : k + 1 ≤ 100 := by omega
    have hlk : (List.take k v.subs).length = k := by rw [List.length_take]; omega
    replace hs := Lib.hid hs
    have hs1 := hs.out
    repeat' (first | (with_reducible refine And.intro ?_ ?_) | (with_reducible refine gK_i (fun _ => ?_) (fun _ => ?_)) | (with_reducible refine condS_i (fun _ => ?_) (fun _ => ?_)) | (with_reducible refine drw_i (by kernel_rfl)) | simp -dsimp only [go_sem, ↓reduceIte, reduceCtorEq, Nat.reduceAdd, Nat.reduceMul, Nat.reduceSub, Nat.reduceLeDiff, Nat.reduceLT, Nat.reduceEqDiff, Int.reduceLE, Int.reduceLT, Int.reduceToNat, Int.reduceBEq, Int.reduceBNe, Int.reduceEq, Int.reduceAdd, Int.reduceSub, Int.reduceMul, Int.reduceNeg, Int.cast_ofNat_Int, *, encV, encN, hkI, hs1] | ((with_reducible refine opK_c ?_); simp -dsimp only [go_sem, ↓reduceIte, reduceCtorEq, Nat.reduceAdd, Nat.reduceMul, Nat.reduceSub, Nat.reduceLeDiff, Nat.reduceLT, Nat.reduceEqDiff, Int.reduceLE, Int.reduceLT, Int.reduceToNat, Int.reduceBEq, Int.reduceBNe, Int.reduceEq, Int.reduceAdd, Int.reduceSub, Int.reduceMul, Int.reduceNeg, Int.cast_ofNat_Int, encV, encN, hkI, hs1]; first | refine callK_r (by first | assumption | fail) (by first | exact .inl rfl | exact .inr rfl) ?_ | (refine callK_i (by assumption) ?_ ?_ ?_; (solve | (repeat (first | exact DLe.refl _ | exact DLe.nil _ | (refine DLe.tup ?_) | (refine DLe.agg ?_ rfl) | exact trivial | (refine And.intro ?_ ?_)))); (solve | exact .inl rfl | exact .inr rfl))) | fail | omega | exact decide_eq_true (by omega) | exact DLe.refl _)
    refine loopL tab_ok mixed s.faces (fun _ => True) (fun j => [(40, .d (.v (.int .i64 j))), (39, .d (.v (.int .i64 s.faces.length))), (38, .d (.sl 2 (s.faces.map encF))), (28, .d (.v (.int .i64 k))), (27, .d (.v (.int .i64 v.subs.length))), (26, .d (.sl 4 (v.subs.map encN))), (8, .ptr 5 0), (5, .ptr 2 0)])
      (fun j => [.gone, .row 29 3 1 (dRows (v.ranges.map encG)), .box 25 [.d (.v (.int .i64 v.id)), .own 1 1, .own 3 k], .row 62 4 k (dRows ((v.subs.take k).map encN)), .gone, .box 62 [.d (.v (.int .i64 s.id)), .d (.v (.int .i64 s.at_.at_)), .d (.v (.int .i64 s.at_.len)), .own 6 j], .row 79 2 j (dRows ((s.faces.take j).map encF))]) trivial ?_ ?_ ?_
    · refine (weak_gone 4 (by simp)).trans ((weak_adopt_box (by simp) 5 62 [.d (.v (.int .i64 s.id)), .d (.v (.int .i64 s.at_.at_)), .d (.v (.int .i64 s.at_.len)), .d (.v (.slice none 0 0))] 3 79 2 rfl rfl rfl).trans ?_)
      exact weak_forget _ (by simp) (by rfl) (by (repeat' (first | exact trivial | (refine ⟨rfl, ?_⟩)))) (by first | rfl | simp only [belowH, belowE, belowC, belowL, belowR, belowP, belowL_d, belowR_d, belowR_zipG, subRow, faceRow, List.length_cons, List.length_nil, Nat.reduceAdd, Nat.reduceLT, decide_true, Bool.and_self, Bool.and_true]) (by first | rfl | simp only [belowH, belowE, belowC, belowL, belowR, belowP, belowL_d, belowR_d, belowR_zipG, subRow, faceRow, List.length_cons, List.length_nil, Nat.reduceAdd, Nat.reduceLT, decide_true, Bool.and_self, Bool.and_true])
    · intro j f hf hj _ C hC
      have hjI : (j : Int) < (s.faces.length : Int) := by omega
      have hwj : IntKind.i64.wrap ((j : Int) + 1) = ((j + 1 : Nat) : Int) := by rw [IntKind.wrap_i64]; omega
      have hfl := h8s.2 f (List.mem_of_getElem? hf)
      have hb2 : j + 1 ≤ 100 := by omega
      have hlj : (List.take j s.faces).length = j := by rw [List.length_take]; omega
      replace hf := Lib.hid hf
      have hf1 := hf.out
      repeat' (first | (with_reducible refine And.intro ?_ ?_) | (with_reducible refine gK_i (fun _ => ?_) (fun _ => ?_)) | (with_reducible refine condS_i (fun _ => ?_) (fun _ => ?_)) | (with_reducible refine drw_i (by kernel_rfl)) | simp -dsimp only [go_sem, ↓reduceIte, reduceCtorEq, Nat.reduceAdd, Nat.reduceMul, Nat.reduceSub, Nat.reduceLeDiff, Nat.reduceLT, Nat.reduceEqDiff, Int.reduceLE, Int.reduceLT, Int.reduceToNat, Int.reduceBEq, Int.reduceBNe, Int.reduceEq, Int.reduceAdd, Int.reduceSub, Int.reduceMul, Int.reduceNeg, Int.cast_ofNat_Int, *, encN, encF, hjI, hwj, hf1, hb2, hlj, renR_zipG, zipG_len] | ((with_reducible refine opK_c ?_); simp -dsimp only [go_sem, ↓reduceIte, reduceCtorEq, Nat.reduceAdd, Nat.reduceMul, Nat.reduceSub, Nat.reduceLeDiff, Nat.reduceLT, Nat.reduceEqDiff, Int.reduceLE, Int.reduceLT, Int.reduceToNat, Int.reduceBEq, Int.reduceBNe, Int.reduceEq, Int.reduceAdd, Int.reduceSub, Int.reduceMul, Int.reduceNeg, Int.cast_ofNat_Int, encN, encF, hjI, hwj, hf1, hb2, hlj, renR_zipG, zipG_len]; first | refine callK_r (by first | assumption | fail) (by first | exact .inl rfl | exact .inr rfl) ?_ | (refine callK_i (by assumption) ?_ ?_ ?_; (solve | (repeat (first | exact DLe.refl _ | exact DLe.nil _ | (refine DLe.tup ?_) | (refine DLe.agg ?_ rfl) | exact trivial | (refine And.intro ?_ ?_)))); (solve | exact .inl rfl | exact .inr rfl))) | (refine opK_M [] (clone_int f.addrs (by omega)) ?_ ?_ ?_ ?_ ?_ ?_; (solve | rfl | simp only [go_sem, ↓reduceIte, reduceCtorEq, Nat.reduceAdd, Nat.reduceMul, Nat.reduceSub, Nat.reduceLeDiff, Nat.reduceLT, Nat.reduceEqDiff, Int.reduceLE, Int.reduceLT, Int.reduceToNat, Int.reduceBEq, Int.reduceBNe, Int.reduceEq, Int.reduceAdd, Int.reduceSub, Int.reduceMul, Int.reduceNeg, Int.cast_ofNat_Int, encF]); (solve | rfl); (solve | decide); (solve | simp); (solve | simp only [go_sem, ↓reduceIte, reduceCtorEq, Nat.reduceAdd, Nat.reduceMul, Nat.reduceSub, Nat.reduceLeDiff, Nat.reduceLT, Nat.reduceEqDiff, Int.reduceLE, Int.reduceLT, Int.reduceToNat, Int.reduceBEq, Int.reduceBNe, Int.reduceEq, Int.reduceAdd, Int.reduceSub, Int.reduceMul, Int.reduceNeg, Int.cast_ofNat_Int, lentOK, encF])) | omega | exact decide_eq_true (by omega) | exact DLe.refl _)
      refine hC _ _ trivial ((weak_freeze 8 1 3 1 (f.addrs.map encA) rfl).trans ?_)
      simp only [fzE, fz, fzL, fzH, fzC, fzR, fzR_app, fzR_d, fzL_d, List.map_cons, List.map_nil, Nat.reduceAdd, Nat.reduceEqDiff, reduceIte, and_true, true_and, and_self, and_false, false_and, Nat.zero_add, Nat.add_zero, reduceCtorEq, fzR_zipG]
      exact weak_forget _ (by simp) (by rw [take_snoc hf.out, List.map_append, List.map_cons, List.map_nil, ← dRows_app]; rfl) (by (repeat' (first | exact trivial | (refine ⟨rfl, ?_⟩)))) (by first | rfl | simp only [belowH, belowE, belowC, belowL, belowR, belowP, belowL_d, belowR_d, belowR_zipG, subRow, faceRow, List.length_cons, List.length_nil, Nat.reduceAdd, Nat.reduceLT, decide_true, Bool.and_self, Bool.and_true]) (by first | rfl | simp only [belowH, belowE, belowC, belowL, belowR, belowP, belowL_d, belowR_d, belowR_zipG, subRow, faceRow, List.length_cons, List.length_nil, Nat.reduceAdd, Nat.reduceLT, decide_true, Bool.and_self, Bool.and_true])
    · intro _ C
      repeat' (first | (with_reducible refine And.intro ?_ ?_) | (with_reducible refine gK_i (fun _ => ?_) (fun _ => ?_)) | (with_reducible refine condS_i (fun _ => ?_) (fun _ => ?_)) | (with_reducible refine drw_i (by kernel_rfl)) | simp -dsimp only [go_sem, ↓reduceIte, reduceCtorEq, Nat.reduceAdd, Nat.reduceMul, Nat.reduceSub, Nat.reduceLeDiff, Nat.reduceLT, Nat.reduceEqDiff, Int.reduceLE, Int.reduceLT, Int.reduceToNat, Int.reduceBEq, Int.reduceBNe, Int.reduceEq, Int.reduceAdd, Int.reduceSub, Int.reduceMul, Int.reduceNeg, Int.cast_ofNat_Int, *, encN, hwr, hb1, hlk, Int.lt_irrefl, List.take_length] | ((with_reducible refine opK_c ?_); simp -dsimp only [go_sem, ↓reduceIte, reduceCtorEq, Nat.reduceAdd, Nat.reduceMul, Nat.reduceSub, Nat.reduceLeDiff, Nat.reduceLT, Nat.reduceEqDiff, Int.reduceLE, Int.reduceLT, Int.reduceToNat, Int.reduceBEq, Int.reduceBNe, Int.reduceEq, Int.reduceAdd, Int.reduceSub, Int.reduceMul, Int.reduceNeg, Int.cast_ofNat_Int, encN, hwr, hb1, hlk, Int.lt_irrefl, List.take_length]; first | refine callK_r (by first | assumption | fail) (by first | exact .inl rfl | exact .inr rfl) ?_ | (refine callK_i (by assumption) ?_ ?_ ?_; (solve | (repeat (first | exact DLe.refl _ | exact DLe.nil _ | (refine DLe.tup ?_) | (refine DLe.agg ?_ rfl) | exact trivial | (refine And.intro ?_ ?_)))); (solve | exact .inl rfl | exact .inr rfl))) | fail | omega | exact decide_eq_true (by omega) | exact DLe.refl _)
      refine hCO _ _ trivial ((weak_freeze 6 s.faces.length 79 2 (s.faces.map encF) rfl).trans ?_)
      simp only [fzE, fz, fzL, fzH, fzC, fzR, fzR_app, fzR_d, fzL_d, List.map_cons, List.map_nil, Nat.reduceAdd, Nat.reduceEqDiff, reduceIte, and_true, true_and, and_self, and_false, false_and, Nat.zero_add, Nat.add_zero, reduceCtorEq]
      exact weak_forget _ (by simp) (by rw [take_snoc hs.out, List.map_append, List.map_cons, List.map_nil, ← dRows_app]; rfl) (by (repeat' (first | exact trivial | (refine ⟨rfl, ?_⟩)))) (by first | rfl | simp only [belowH, belowE, belowC, belowL, belowR, belowP, belowL_d, belowR_d, belowR_zipG, subRow, faceRow, List.length_cons, List.length_nil, Nat.reduceAdd, Nat.reduceLT, decide_true, Bool.and_self, Bool.and_true]) (by first | rfl | simp only [belowH, belowE, belowC, belowL, belowR, belowP, belowL_d, belowR_d, belowR_zipG, subRow, faceRow, List.length_cons, List.length_nil, Nat.reduceAdd, Nat.reduceLT, decide_true, Bool.and_self, Bool.and_true])
  · intro _ C
    repeat' (first | (with_reducible refine And.intro ?_ ?_) | (with_reducible refine gK_i (fun _ => ?_) (fun _ => ?_)) | (with_reducible refine condS_i (fun _ => ?_) (fun _ => ?_)) | (with_reducible refine drw_i (by kernel_rfl)) | simp -dsimp only [go_sem, ↓reduceIte, reduceCtorEq, Nat.reduceAdd, Nat.reduceMul, Nat.reduceSub, Nat.reduceLeDiff, Nat.reduceLT, Nat.reduceEqDiff, Int.reduceLE, Int.reduceLT, Int.reduceToNat, Int.reduceBEq, Int.reduceBNe, Int.reduceEq, Int.reduceAdd, Int.reduceSub, Int.reduceMul, Int.reduceNeg, Int.cast_ofNat_Int, *, encV, Int.lt_irrefl] | ((with_reducible refine opK_c ?_); simp -dsimp only [go_sem, ↓reduceIte, reduceCtorEq, Nat.reduceAdd, Nat.reduceMul, Nat.reduceSub, Nat.reduceLeDiff, Nat.reduceLT, Nat.reduceEqDiff, Int.reduceLE, Int.reduceLT, Int.reduceToNat, Int.reduceBEq, Int.reduceBNe, Int.reduceEq, Int.reduceAdd, Int.reduceSub, Int.reduceMul, Int.reduceNeg, Int.cast_ofNat_Int, encV, Int.lt_irrefl]; first | refine callK_r (by first | assumption | fail) (by first | exact .inl rfl | exact .inr rfl) ?_ | (refine callK_i (by assumption) ?_ ?_ ?_; (solve | (repeat (first | exact DLe.refl _ | exact DLe.nil _ | (refine DLe.tup ?_) | (refine DLe.agg ?_ rfl) | exact trivial | (refine And.intro ?_ ?_)))); (solve | exact .inl rfl | exact .inr rfl))) | fail | omega | exact decide_eq_true (by omega) | exact DLe.refl _)
    rw [List.take_length]
    exact weak_eq rfl rfl
end Go.Proofs.YtdcjeacphbfmjaaGreat
namespace Go.Proofs.YtdcjeacphbfmjaaGreat
open Go Go.RowKit
set_option maxRecDepth 100000 in
set_option maxHeartbeats 2000000 in
theorem beginF_m (v : Vpc) (pre post : List Sbn) (s0 : Sbn) (hv : v.subs = pre ++ s0 :: post) (h : chkV v = 0) (h4 : v.ranges.length ≤ 4) (h6 : v.subs.length ≤ 6) (h8 : ∀ s ∈ v.subs, s.faces.length ≤ 8 ∧ ∀ f ∈ s.faces, f.addrs.length ≤ 4) :
    MSpec Tryz.prog 26 [.d (.agg (encV v))] [] (.tup [.ptr 2 0, .d (.v (.int .i64 0))]) [.gone, .row 29 3 1 (dRows (v.ranges.map encG)), .box 25 [.d (.v (.int .i64 v.id)), .own 1 1, .own 3 v.subs.length], .row 62 4 v.subs.length (zipG encN pre (subRow s0 (.own 6 s0.faces.length)) post),
      .gone, .gone, .row 79 2 s0.faces.length (dRows (s0.faces.map encF))] := by
  have hc := vcheck_p v
  rw [h] at hc
  replace h := Lib.hid h
  replace h8 := Lib.hid h8
  have hlen : v.subs.length = pre.length + 1 + post.length := by rw [hv]; simp; omega
  have hL := Lib.hid hv
  have hlen2 := Lib.hid hlen
  clear hv hlen
  have hcl := clone_Range encG v.ranges (by omega)
  refine ms_i tab_ok mixed Tryz.func26 rfl Tryz.ntmps26 Tryz.results26 (by kernel_rfl) (by simp) (by simp [belowL, belowP]) (by simp [belowH, belowC, belowL, belowP, belowL_d, belowR_d]) ?_
  repeat' (first | (with_reducible refine And.intro ?_ ?_) | (with_reducible refine gK_i (fun _ => ?_) (fun _ => ?_)) | (with_reducible refine condS_i (fun _ => ?_) (fun _ => ?_)) | (with_reducible refine drw_i (by kernel_rfl)) | simp -dsimp only [go_sem, ↓reduceIte, reduceCtorEq, Nat.reduceAdd, Nat.reduceMul, Nat.reduceSub, Nat.reduceLeDiff, Nat.reduceLT, Nat.reduceEqDiff, Int.reduceLE, Int.reduceLT, Int.reduceToNat, Int.reduceBEq, Int.reduceBNe, Int.reduceEq, Int.reduceAdd, Int.reduceSub, Int.reduceMul, Int.reduceNeg, Int.cast_ofNat_Int, *, encV] | ((with_reducible refine opK_c ?_); simp -dsimp only [go_sem, ↓reduceIte, reduceCtorEq, Nat.reduceAdd, Nat.reduceMul, Nat.reduceSub, Nat.reduceLeDiff, Nat.reduceLT, Nat.reduceEqDiff, Int.reduceLE, Int.reduceLT, Int.reduceToNat, Int.reduceBEq, Int.reduceBNe, Int.reduceEq, Int.reduceAdd, Int.reduceSub, Int.reduceMul, Int.reduceNeg, Int.cast_ofNat_Int, encV]; first | refine callK_r (by first | assumption | exact hc) (by first | exact .inl rfl | exact .inr rfl) ?_ | (refine callK_i (by assumption) ?_ ?_ ?_; (solve | (repeat (first | exact DLe.refl _ | exact DLe.nil _ | (refine DLe.tup ?_) | (refine DLe.agg ?_ rfl) | exact trivial | (refine And.intro ?_ ?_)))); (solve | exact .inl rfl | exact .inr rfl))) | (refine opK_M [] (hcl) ?_ ?_ ?_ ?_ ?_ ?_; (solve | rfl | simp only [go_sem, ↓reduceIte, reduceCtorEq, Nat.reduceAdd, Nat.reduceMul, Nat.reduceSub, Nat.reduceLeDiff, Nat.reduceLT, Nat.reduceEqDiff, Int.reduceLE, Int.reduceLT, Int.reduceToNat, Int.reduceBEq, Int.reduceBNe, Int.reduceEq, Int.reduceAdd, Int.reduceSub, Int.reduceMul, Int.reduceNeg, Int.cast_ofNat_Int, encV]); (solve | rfl); (solve | decide); (solve | simp); (solve | simp only [go_sem, ↓reduceIte, reduceCtorEq, Nat.reduceAdd, Nat.reduceMul, Nat.reduceSub, Nat.reduceLeDiff, Nat.reduceLT, Nat.reduceEqDiff, Int.reduceLE, Int.reduceLT, Int.reduceToNat, Int.reduceBEq, Int.reduceBNe, Int.reduceEq, Int.reduceAdd, Int.reduceSub, Int.reduceMul, Int.reduceNeg, Int.cast_ofNat_Int, lentOK, encV])) | omega | exact decide_eq_true (by omega) | exact DLe.refl _)
  refine loopG tab_ok mixed (fun m e h => (∃ k, k ≤ pre.length ∧ m = v.subs.length - k ∧ e = [(28, .d (.v (.int .i64 k))), (27, .d (.v (.int .i64 v.subs.length))), (26, .d (.sl 4 (v.subs.map encN))), (5, .ptr 2 0)] ∧
      h = [.gone, .row 29 3 1 (dRows (v.ranges.map encG)), .box 25 [.d (.v (.int .i64 v.id)), .own 1 1, .own 3 k], .row 62 4 k (dRows ((pre.take k).map encN))]) ∨
    ∃ k j, k = pre.length + 1 + j ∧ j ≤ post.length ∧ m = v.subs.length - k ∧ e = [(28, .d (.v (.int .i64 k))), (27, .d (.v (.int .i64 v.subs.length))), (26, .d (.sl 4 (v.subs.map encN))), (5, .ptr 2 0)] ∧
      h = [.gone, .row 29 3 1 (dRows (v.ranges.map encG)), .box 25 [.d (.v (.int .i64 v.id)), .own 1 1, .own 3 k], .row 62 4 k (zipG encN pre (subRow s0 (.own 6 s0.faces.length)) (post.take j)), .gone, .gone, .row 79 2 s0.faces.length (dRows (s0.faces.map encF))]) _ _ _ (.inl ⟨0, Nat.zero_le _, rfl, rfl, rfl⟩) ?_ ?_
  · refine (weak_gone 0 (by simp)).trans ((weak_adopt_box (by simp) 2 25 [.d (.v (.int .i64 v.id)), .own 1 1, .d (.v (.slice none 0 0))] 2 62 4 rfl rfl rfl).trans ?_)
    exact weak_forget _ (by simp) (by rfl) (by (repeat' (first | exact trivial | (refine ⟨rfl, ?_⟩)))) (by first | rfl | simp only [belowH, belowE, belowC, belowL, belowR, belowP, belowL_d, belowR_d, belowR_zipG, subRow, faceRow, List.length_cons, List.length_nil, Nat.reduceAdd, Nat.reduceLT, decide_true, Bool.and_self, Bool.and_true]) (by first | rfl | simp only [belowH, belowE, belowC, belowL, belowR, belowP, belowL_d, belowR_d, belowR_zipG, subRow, faceRow, List.length_cons, List.length_nil, Nat.reduceAdd, Nat.reduceLT, decide_true, Bool.and_self, Bool.and_true])
  · rintro m e h (⟨k, hk, hm, rfl, rfl⟩ | ⟨k, q, hkj, hj, hm, rfl, rfl⟩) CO hCO
    · have hkI : (k : Int) < (v.subs.length : Int) := by have := hlen2.out; omega
      have hwr : IntKind.i64.wrap ((k : Int) + 1) = ((k + 1 : Nat) : Int) := by rw [IntKind.wrap_i64]; omega
      have hb1 : k + 1 ≤ 100 := by have := hlen2.out; omega
      have hlk : (List.take k pre).length = k := by rw [List.length_take]; omega
      have hm := Lib.hid hm
      by_cases hkp : k < pre.length
      · obtain ⟨s, hq⟩ : ∃ s, pre[k]? = some s := ⟨_, List.getElem?_eq_getElem hkp⟩
        have hs : v.subs[k]? = some s := by rw [hL.out, List.getElem?_append_left hkp]; exact hq
        have h8s := h8.out s (List.mem_of_getElem? hs)
        replace hs := Lib.hid hs
        replace hq := Lib.hid hq
        have hs1 := hs.out
        repeat' (first | (with_reducible refine And.intro ?_ ?_) | (with_reducible refine gK_i (fun _ => ?_) (fun _ => ?_)) | (with_reducible refine condS_i (fun _ => ?_) (fun _ => ?_)) | (with_reducible refine drw_i (by kernel_rfl)) | simp -dsimp only [go_sem, ↓reduceIte, reduceCtorEq, Nat.reduceAdd, Nat.reduceMul, Nat.reduceSub, Nat.reduceLeDiff, Nat.reduceLT, Nat.reduceEqDiff, Int.reduceLE, Int.reduceLT, Int.reduceToNat, Int.reduceBEq, Int.reduceBNe, Int.reduceEq, Int.reduceAdd, Int.reduceSub, Int.reduceMul, Int.reduceNeg, Int.cast_ofNat_Int, *, encV, encN, hkI, hs1] | ((with_reducible refine opK_c ?_); simp -dsimp only [go_sem, ↓reduceIte, reduceCtorEq, Nat.reduceAdd, Nat.reduceMul, Nat.reduceSub, Nat.reduceLeDiff, Nat.reduceLT, Nat.reduceEqDiff, Int.reduceLE, Int.reduceLT, Int.reduceToNat, Int.reduceBEq, Int.reduceBNe, Int.reduceEq, Int.reduceAdd, Int.reduceSub, Int.reduceMul, Int.reduceNeg, Int.cast_ofNat_Int, encV, encN, hkI, hs1]; first | refine callK_r (by first | assumption | fail) (by first | exact .inl rfl | exact .inr rfl) ?_ | (refine callK_i (by assumption) ?_ ?_ ?_; (solve | (repeat (first | exact DLe.refl _ | exact DLe.nil _ | (refine DLe.tup ?_) | (refine DLe.agg ?_ rfl) | exact trivial | (refine And.intro ?_ ?_)))); (solve | exact .inl rfl | exact .inr rfl))) | fail | omega | exact decide_eq_true (by omega) | exact DLe.refl _)
        refine loopL tab_ok mixed s.faces (fun _ => True) (fun j => [(40, .d (.v (.int .i64 j))), (39, .d (.v (.int .i64 s.faces.length))), (38, .d (.sl 2 (s.faces.map encF))), (28, .d (.v (.int .i64 k))), (27, .d (.v (.int .i64 v.subs.length))), (26, .d (.sl 4 (v.subs.map encN))), (8, .ptr 5 0), (5, .ptr 2 0)])
          (fun j => [.gone, .row 29 3 1 (dRows (v.ranges.map encG)), .box 25 [.d (.v (.int .i64 v.id)), .own 1 1, .own 3 k], .row 62 4 k (dRows ((pre.take k).map encN)), .gone, .box 62 [.d (.v (.int .i64 s.id)), .d (.v (.int .i64 s.at_.at_)), .d (.v (.int .i64 s.at_.len)), .own 6 j], .row 79 2 j (dRows ((s.faces.take j).map encF))]) trivial ?_ ?_ ?_
        · refine (weak_gone 4 (by simp)).trans ((weak_adopt_box (by simp) 5 62 [.d (.v (.int .i64 s.id)), .d (.v (.int .i64 s.at_.at_)), .d (.v (.int .i64 s.at_.len)), .d (.v (.slice none 0 0))] 3 79 2 rfl rfl rfl).trans ?_)
          exact weak_forget _ (by simp) (by rfl) (by (repeat' (first | exact trivial | (refine ⟨rfl, ?_⟩)))) (by first | rfl | simp only [belowH, belowE, belowC, belowL, belowR, belowP, belowL_d, belowR_d, belowR_zipG, subRow, faceRow, List.length_cons, List.length_nil, Nat.reduceAdd, Nat.reduceLT, decide_true, Bool.and_self, Bool.and_true]) (by first | rfl | simp only [belowH, belowE, belowC, belowL, belowR, belowP, belowL_d, belowR_d, belowR_zipG, subRow, faceRow, List.length_cons, List.length_nil, Nat.reduceAdd, Nat.reduceLT, decide_true, Bool.and_self, Bool.and_true])
        · intro j f hf hj _ C hC
          have hjI : (j : Int) < (s.faces.length : Int) := by omega
          have hwj : IntKind.i64.wrap ((j : Int) + 1) = ((j + 1 : Nat) : Int) := by rw [IntKind.wrap_i64]; omega
          have hfl := h8s.2 f (List.mem_of_getElem? hf)
          have hb2 : j + 1 ≤ 100 := by omega
          have hlj : (List.take j s.faces).length = j := by rw [List.length_take]; omega
          replace hf := Lib.hid hf
          have hf1 := hf.out
          repeat' (first | (with_reducible refine And.intro ?_ ?_) | (with_reducible refine gK_i (fun _ => ?_) (fun _ => ?_)) | (with_reducible refine condS_i (fun _ => ?_) (fun _ => ?_)) | (with_reducible refine drw_i (by kernel_rfl)) | simp -dsimp only [go_sem, ↓reduceIte, reduceCtorEq, Nat.reduceAdd, Nat.reduceMul, Nat.reduceSub, Nat.reduceLeDiff, Nat.reduceLT, Nat.reduceEqDiff, Int.reduceLE, Int.reduceLT, Int.reduceToNat, Int.reduceBEq, Int.reduceBNe, Int.reduceEq, Int.reduceAdd, Int.reduceSub, Int.reduceMul, Int.reduceNeg, Int.cast_ofNat_Int, *, encN, encF, hjI, hwj, hf1, hb2, hlj, renR_zipG, zipG_len] | ((with_reducible refine opK_c ?_); simp -dsimp only [go_sem, ↓reduceIte, reduceCtorEq, Nat.reduceAdd, Nat.reduceMul, Nat.reduceSub, Nat.reduceLeDiff, Nat.reduceLT, Nat.reduceEqDiff, Int.reduceLE, Int.reduceLT, Int.reduceToNat, Int.reduceBEq, Int.reduceBNe, Int.reduceEq, Int.reduceAdd, Int.reduceSub, Int.reduceMul, Int.reduceNeg, Int.cast_ofNat_Int, encN, encF, hjI, hwj, hf1, hb2, hlj, renR_zipG, zipG_len]; first | refine callK_r (by first | assumption | fail) (by first | exact .inl rfl | exact .inr rfl) ?_ | (refine callK_i (by assumption) ?_ ?_ ?_; (solve | (repeat (first | exact DLe.refl _ | exact DLe.nil _ | (refine DLe.tup ?_) | (refine DLe.agg ?_ rfl) | exact trivial | (refine And.intro ?_ ?_)))); (solve | exact .inl rfl | exact .inr rfl))) | (refine opK_M [] (clone_int f.addrs (by omega)) ?_ ?_ ?_ ?_ ?_ ?_; (solve | rfl | simp only [go_sem, ↓reduceIte, reduceCtorEq, Nat.reduceAdd, Nat.reduceMul, Nat.reduceSub, Nat.reduceLeDiff, Nat.reduceLT, Nat.reduceEqDiff, Int.reduceLE, Int.reduceLT, Int.reduceToNat, Int.reduceBEq, Int.reduceBNe, Int.reduceEq, Int.reduceAdd, Int.reduceSub, Int.reduceMul, Int.reduceNeg, Int.cast_ofNat_Int, encF]); (solve | rfl); (solve | decide); (solve | simp); (solve | simp only [go_sem, ↓reduceIte, reduceCtorEq, Nat.reduceAdd, Nat.reduceMul, Nat.reduceSub, Nat.reduceLeDiff, Nat.reduceLT, Nat.reduceEqDiff, Int.reduceLE, Int.reduceLT, Int.reduceToNat, Int.reduceBEq, Int.reduceBNe, Int.reduceEq, Int.reduceAdd, Int.reduceSub, Int.reduceMul, Int.reduceNeg, Int.cast_ofNat_Int, lentOK, encF])) | omega | exact decide_eq_true (by omega) | exact DLe.refl _)
          refine hC _ _ trivial ((weak_freeze 8 1 3 1 (f.addrs.map encA) rfl).trans ?_)
          simp only [fzE, fz, fzL, fzH, fzC, fzR, fzR_app, fzR_d, fzL_d, List.map_cons, List.map_nil, Nat.reduceAdd, Nat.reduceEqDiff, reduceIte, and_true, true_and, and_self, and_false, false_and, Nat.zero_add, Nat.add_zero, reduceCtorEq, fzR_zipG]
          exact weak_forget _ (by simp) (by rw [take_snoc hf.out, List.map_append, List.map_cons, List.map_nil, ← dRows_app]; rfl) (by (repeat' (first | exact trivial | (refine ⟨rfl, ?_⟩)))) (by first | rfl | simp only [belowH, belowE, belowC, belowL, belowR, belowP, belowL_d, belowR_d, belowR_zipG, subRow, faceRow, List.length_cons, List.length_nil, Nat.reduceAdd, Nat.reduceLT, decide_true, Bool.and_self, Bool.and_true]) (by first | rfl | simp only [belowH, belowE, belowC, belowL, belowR, belowP, belowL_d, belowR_d, belowR_zipG, subRow, faceRow, List.length_cons, List.length_nil, Nat.reduceAdd, Nat.reduceLT, decide_true, Bool.and_self, Bool.and_true])
        · intro _ C
          repeat' (first | (with_reducible refine And.intro ?_ ?_) | (with_reducible refine gK_i (fun _ => ?_) (fun _ => ?_)) | (with_reducible refine condS_i (fun _ => ?_) (fun _ => ?_)) | (with_reducible refine drw_i (by kernel_rfl)) | simp -dsimp only [go_sem, ↓reduceIte, reduceCtorEq, Nat.reduceAdd, Nat.reduceMul, Nat.reduceSub, Nat.reduceLeDiff, Nat.reduceLT, Nat.reduceEqDiff, Int.reduceLE, Int.reduceLT, Int.reduceToNat, Int.reduceBEq, Int.reduceBNe, Int.reduceEq, Int.reduceAdd, Int.reduceSub, Int.reduceMul, Int.reduceNeg, Int.cast_ofNat_Int, *, encN, hwr, hb1, hlk, Int.lt_irrefl, List.take_length] | ((with_reducible refine opK_c ?_); simp -dsimp only [go_sem, ↓reduceIte, reduceCtorEq, Nat.reduceAdd, Nat.reduceMul, Nat.reduceSub, Nat.reduceLeDiff, Nat.reduceLT, Nat.reduceEqDiff, Int.reduceLE, Int.reduceLT, Int.reduceToNat, Int.reduceBEq, Int.reduceBNe, Int.reduceEq, Int.reduceAdd, Int.reduceSub, Int.reduceMul, Int.reduceNeg, Int.cast_ofNat_Int, encN, hwr, hb1, hlk, Int.lt_irrefl, List.take_length]; first | refine callK_r (by first | assumption | fail) (by first | exact .inl rfl | exact .inr rfl) ?_ | (refine callK_i (by assumption) ?_ ?_ ?_; (solve | (repeat (first | exact DLe.refl _ | exact DLe.nil _ | (refine DLe.tup ?_) | (refine DLe.agg ?_ rfl) | exact trivial | (refine And.intro ?_ ?_)))); (solve | exact .inl rfl | exact .inr rfl))) | fail | omega | exact decide_eq_true (by omega) | exact DLe.refl _)
          refine hCO _ _ _ _ _ ?_ (.inl ⟨k + 1, hkp, rfl, rfl, rfl⟩) ((weak_freeze 6 s.faces.length 79 2 (s.faces.map encF) rfl).trans ?_)
          · have := hm.out; have := hlen2.out; omega
          simp only [fzE, fz, fzL, fzH, fzC, fzR, fzR_app, fzR_d, fzL_d, List.map_cons, List.map_nil, Nat.reduceAdd, Nat.reduceEqDiff, reduceIte, and_true, true_and, and_self, and_false, false_and, Nat.zero_add, Nat.add_zero, reduceCtorEq]
          exact weak_forget _ (by simp) (by rw [take_snoc hq.out, List.map_append, List.map_cons, List.map_nil, ← dRows_app]; rfl) (by (repeat' (first | exact trivial | (refine ⟨rfl, ?_⟩)))) (by first | rfl | simp only [belowH, belowE, belowC, belowL, belowR, belowP, belowL_d, belowR_d, belowR_zipG, subRow, faceRow, List.length_cons, List.length_nil, Nat.reduceAdd, Nat.reduceLT, decide_true, Bool.and_self, Bool.and_true]) (by first | rfl | simp only [belowH, belowE, belowC, belowL, belowR, belowP, belowL_d, belowR_d, belowR_zipG, subRow, faceRow, List.length_cons, List.length_nil, Nat.reduceAdd, Nat.reduceLT, decide_true, Bool.and_self, Bool.and_true])
      · obtain rfl : k = pre.length := by omega
        have hs : v.subs[pre.length]? = some s0 := by rw [hL.out, List.getElem?_append_right (Nat.le_refl _), Nat.sub_self]; rfl
        have h8s := h8.out s0 (List.mem_of_getElem? hs)
        replace hs := Lib.hid hs
        have hs1 := hs.out
        obtain ⟨k, hk2⟩ : ∃ k, k = pre.length := ⟨_, rfl⟩
        obtain ⟨s, hs2⟩ : ∃ s, s = s0 := ⟨_, rfl⟩
        rw [← hs2] at h8s hs1 hCO ⊢
        rw [← hk2] at hs1 hkI hwr hb1 hlk hCO ⊢
        rw [hk2, List.take_length] at hlk
        replace hs2 := Lib.hid hs2
        replace hk2 := Lib.hid hk2
        repeat' (first | (with_reducible refine And.intro ?_ ?_) | (with_reducible refine gK_i (fun _ => ?_) (fun _ => ?_)) | (with_reducible refine condS_i (fun _ => ?_) (fun _ => ?_)) | (with_reducible refine drw_i (by kernel_rfl)) | simp -dsimp only [go_sem, ↓reduceIte, reduceCtorEq, Nat.reduceAdd, Nat.reduceMul, Nat.reduceSub, Nat.reduceLeDiff, Nat.reduceLT, Nat.reduceEqDiff, Int.reduceLE, Int.reduceLT, Int.reduceToNat, Int.reduceBEq, Int.reduceBNe, Int.reduceEq, Int.reduceAdd, Int.reduceSub, Int.reduceMul, Int.reduceNeg, Int.cast_ofNat_Int, *, encV, encN, hkI, hs1] | ((with_reducible refine opK_c ?_); simp -dsimp only [go_sem, ↓reduceIte, reduceCtorEq, Nat.reduceAdd, Nat.reduceMul, Nat.reduceSub, Nat.reduceLeDiff, Nat.reduceLT, Nat.reduceEqDiff, Int.reduceLE, Int.reduceLT, Int.reduceToNat, Int.reduceBEq, Int.reduceBNe, Int.reduceEq, Int.reduceAdd, Int.reduceSub, Int.reduceMul, Int.reduceNeg, Int.cast_ofNat_Int, encV, encN, hkI, hs1]; first | refine callK_r (by first | assumption | fail) (by first | exact .inl rfl | exact .inr rfl) ?_ | (refine callK_i (by assumption) ?_ ?_ ?_; (solve | (repeat (first | exact DLe.refl _ | exact DLe.nil _ | (refine DLe.tup ?_) | (refine DLe.agg ?_ rfl) | exact trivial | (refine And.intro ?_ ?_)))); (solve | exact .inl rfl | exact .inr rfl))) | fail | omega | exact decide_eq_true (by omega) | exact DLe.refl _)
        refine loopL tab_ok mixed s.faces (fun _ => True) (fun j => [(40, .d (.v (.int .i64 j))), (39, .d (.v (.int .i64 s.faces.length))), (38, .d (.sl 2 (s.faces.map encF))), (28, .d (.v (.int .i64 k))), (27, .d (.v (.int .i64 v.subs.length))), (26, .d (.sl 4 (v.subs.map encN))), (8, .ptr 5 0), (5, .ptr 2 0)])
          (fun j => [.gone, .row 29 3 1 (dRows (v.ranges.map encG)), .box 25 [.d (.v (.int .i64 v.id)), .own 1 1, .own 3 k], .row 62 4 k (dRows ((pre.take k).map encN)), .gone, .box 62 [.d (.v (.int .i64 s.id)), .d (.v (.int .i64 s.at_.at_)), .d (.v (.int .i64 s.at_.len)), .own 6 j], .row 79 2 j (dRows ((s.faces.take j).map encF))]) trivial ?_ ?_ ?_
        · refine (weak_gone 4 (by simp)).trans ((weak_adopt_box (by simp) 5 62 [.d (.v (.int .i64 s.id)), .d (.v (.int .i64 s.at_.at_)), .d (.v (.int .i64 s.at_.len)), .d (.v (.slice none 0 0))] 3 79 2 rfl rfl rfl).trans ?_)
          exact weak_forget _ (by simp) (by rfl) (by (repeat' (first | exact trivial | (refine ⟨rfl, ?_⟩)))) (by first | rfl | simp only [belowH, belowE, belowC, belowL, belowR, belowP, belowL_d, belowR_d, belowR_zipG, subRow, faceRow, List.length_cons, List.length_nil, Nat.reduceAdd, Nat.reduceLT, decide_true, Bool.and_self, Bool.and_true]) (by first | rfl | simp only [belowH, belowE, belowC, belowL, belowR, belowP, belowL_d, belowR_d, belowR_zipG, subRow, faceRow, List.length_cons, List.length_nil, Nat.reduceAdd, Nat.reduceLT, decide_true, Bool.and_self, Bool.and_true])
        · intro j f hf hj _ C hC
          have hjI : (j : Int) < (s.faces.length : Int) := by omega
          have hwj : IntKind.i64.wrap ((j : Int) + 1) = ((j + 1 : Nat) : Int) := by rw [IntKind.wrap_i64]; omega
          have hfl := h8s.2 f (List.mem_of_getElem? hf)
          have hb2 : j + 1 ≤ 100 := by omega
          have hlj : (List.take j s.faces).length = j := by rw [List.length_take]; omega
          replace hf := Lib.hid hf
          have hf1 := hf.out
          repeat' (first | (with_reducible refine And.intro ?_ ?_) | (with_reducible refine gK_i (fun _ => ?_) (fun _ => ?_)) | (with_reducible refine condS_i (fun _ => ?_) (fun _ => ?_)) | (with_reducible refine drw_i (by kernel_rfl)) | simp -dsimp only [go_sem, ↓reduceIte, reduceCtorEq, Nat.reduceAdd, Nat.reduceMul, Nat.reduceSub, Nat.reduceLeDiff, Nat.reduceLT, Nat.reduceEqDiff, Int.reduceLE, Int.reduceLT, Int.reduceToNat, Int.reduceBEq, Int.reduceBNe, Int.reduceEq, Int.reduceAdd, Int.reduceSub, Int.reduceMul, Int.reduceNeg, Int.cast_ofNat_Int, *, encN, encF, hjI, hwj, hf1, hb2, hlj, renR_zipG, zipG_len] | ((with_reducible refine opK_c ?_); simp -dsimp only [go_sem, ↓reduceIte, reduceCtorEq, Nat.reduceAdd, Nat.reduceMul, Nat.reduceSub, Nat.reduceLeDiff, Nat.reduceLT, Nat.reduceEqDiff, Int.reduceLE, Int.reduceLT, Int.reduceToNat, Int.reduceBEq, Int.reduceBNe, Int.reduceEq, Int.reduceAdd, Int.reduceSub, Int.reduceMul, Int.reduceNeg, Int.cast_ofNat_Int, encN, encF, hjI, hwj, hf1, hb2, hlj, renR_zipG, zipG_len]; first | refine callK_r (by first | assumption | fail) (by first | exact .inl rfl | exact .inr rfl) ?_ | (refine callK_i (by assumption) ?_ ?_ ?_; (solve | (repeat (first | exact DLe.refl _ | exact DLe.nil _ | (refine DLe.tup ?_) | (refine DLe.agg ?_ rfl) | exact trivial | (refine And.intro ?_ ?_)))); (solve | exact .inl rfl | exact .inr rfl))) | (refine opK_M [] (clone_int f.addrs (by omega)) ?_ ?_ ?_ ?_ ?_ ?_; (solve | rfl | simp only [go_sem, ↓reduceIte, reduceCtorEq, Nat.reduceAdd, Nat.reduceMul, Nat.reduceSub, Nat.reduceLeDiff, Nat.reduceLT, Nat.reduceEqDiff, Int.reduceLE, Int.reduceLT, Int.reduceToNat, Int.reduceBEq, Int.reduceBNe, Int.reduceEq, Int.reduceAdd, Int.reduceSub, Int.reduceMul, Int.reduceNeg, Int.cast_ofNat_Int, encF]); (solve | rfl); (solve | decide); (solve | simp); (solve | simp only [go_sem, ↓reduceIte, reduceCtorEq, Nat.reduceAdd, Nat.reduceMul, Nat.reduceSub, Nat.reduceLeDiff, Nat.reduceLT, Nat.reduceEqDiff, Int.reduceLE, Int.reduceLT, Int.reduceToNat, Int.reduceBEq, Int.reduceBNe, Int.reduceEq, Int.reduceAdd, Int.reduceSub, Int.reduceMul, Int.reduceNeg, Int.cast_ofNat_Int, lentOK, encF])) | omega | exact decide_eq_true (by omega) | exact DLe.refl _)
          refine hC _ _ trivial ((weak_freeze 8 1 3 1 (f.addrs.map encA) rfl).trans ?_)
          simp only [fzE, fz, fzL, fzH, fzC, fzR, fzR_app, fzR_d, fzL_d, List.map_cons, List.map_nil, Nat.reduceAdd, Nat.reduceEqDiff, reduceIte, and_true, true_and, and_self, and_false, false_and, Nat.zero_add, Nat.add_zero, reduceCtorEq, fzR_zipG]
          exact weak_forget _ (by simp) (by rw [take_snoc hf.out, List.map_append, List.map_cons, List.map_nil, ← dRows_app]; rfl) (by (repeat' (first | exact trivial | (refine ⟨rfl, ?_⟩)))) (by first | rfl | simp only [belowH, belowE, belowC, belowL, belowR, belowP, belowL_d, belowR_d, belowR_zipG, subRow, faceRow, List.length_cons, List.length_nil, Nat.reduceAdd, Nat.reduceLT, decide_true, Bool.and_self, Bool.and_true]) (by first | rfl | simp only [belowH, belowE, belowC, belowL, belowR, belowP, belowL_d, belowR_d, belowR_zipG, subRow, faceRow, List.length_cons, List.length_nil, Nat.reduceAdd, Nat.reduceLT, decide_true, Bool.and_self, Bool.and_true])
        · intro _ C
          have hlk2 : (List.take k pre).length = k := by rw [hk2.out, List.take_length]
          repeat' (first | (with_reducible refine And.intro ?_ ?_) | (with_reducible refine gK_i (fun _ => ?_) (fun _ => ?_)) | (with_reducible refine condS_i (fun _ => ?_) (fun _ => ?_)) | (with_reducible refine drw_i (by kernel_rfl)) | simp -dsimp only [go_sem, ↓reduceIte, reduceCtorEq, Nat.reduceAdd, Nat.reduceMul, Nat.reduceSub, Nat.reduceLeDiff, Nat.reduceLT, Nat.reduceEqDiff, Int.reduceLE, Int.reduceLT, Int.reduceToNat, Int.reduceBEq, Int.reduceBNe, Int.reduceEq, Int.reduceAdd, Int.reduceSub, Int.reduceMul, Int.reduceNeg, Int.cast_ofNat_Int, *, encN, hwr, hb1, hlk2, Int.lt_irrefl, List.take_length] | ((with_reducible refine opK_c ?_); simp -dsimp only [go_sem, ↓reduceIte, reduceCtorEq, Nat.reduceAdd, Nat.reduceMul, Nat.reduceSub, Nat.reduceLeDiff, Nat.reduceLT, Nat.reduceEqDiff, Int.reduceLE, Int.reduceLT, Int.reduceToNat, Int.reduceBEq, Int.reduceBNe, Int.reduceEq, Int.reduceAdd, Int.reduceSub, Int.reduceMul, Int.reduceNeg, Int.cast_ofNat_Int, encN, hwr, hb1, hlk2, Int.lt_irrefl, List.take_length]; first | refine callK_r (by first | assumption | fail) (by first | exact .inl rfl | exact .inr rfl) ?_ | (refine callK_i (by assumption) ?_ ?_ ?_; (solve | (repeat (first | exact DLe.refl _ | exact DLe.nil _ | (refine DLe.tup ?_) | (refine DLe.agg ?_ rfl) | exact trivial | (refine And.intro ?_ ?_)))); (solve | exact .inl rfl | exact .inr rfl))) | fail | omega | exact decide_eq_true (by omega) | exact DLe.refl _)
          refine hCO _ _ _ _ _ ?_ (.inr ⟨k + 1, 0, by rw [hk2.out], Nat.zero_le _, rfl, rfl, rfl⟩) ((weak_gone 5 (by simp)).trans ?_)
          · have := hm.out; have := hlen2.out; have := hk2.out; omega
          exact weak_forget _ (by simp) (by rw [hk2.out, List.take_length]; rfl) (by (repeat' (first | exact trivial | (refine ⟨rfl, ?_⟩)))) (by first | rfl | simp only [belowH, belowE, belowC, belowL, belowR, belowP, belowL_d, belowR_d, belowR_zipG, subRow, faceRow, List.length_cons, List.length_nil, Nat.reduceAdd, Nat.reduceLT, decide_true, Bool.and_self, Bool.and_true]) (by first | rfl | simp only [belowH, belowE, belowC, belowL, belowR, belowP, belowL_d, belowR_d, belowR_zipG, subRow, faceRow, List.length_cons, List.length_nil, Nat.reduceAdd, Nat.reduceLT, decide_true, Bool.and_self, Bool.and_true])
    · have hm := Lib.hid hm
      have hkj2 := Lib.hid hkj
      have hb1 : pre.length + 1 + q + 1 ≤ 100 := by have := hlen2.out; omega
      have hlk : (List.take q post).length = q := by rw [List.length_take]; omega
      have hkl : k ≤ v.subs.length := by have := hlen2.out; omega
      by_cases hjp : q < post.length
      · obtain ⟨s, hq⟩ : ∃ s, post[q]? = some s := ⟨_, List.getElem?_eq_getElem hjp⟩
        have hs : v.subs[k]? = some s := by
          rw [hL.out, List.getElem?_append_right (by omega), show k - pre.length = q + 1 by omega, List.getElem?_cons_succ]; exact hq
        have h8s := h8.out s (List.mem_of_getElem? hs)
        have hkI : (k : Int) < (v.subs.length : Int) := by have := hlen2.out; omega
        have hwr : IntKind.i64.wrap ((k : Int) + 1) = ((k + 1 : Nat) : Int) := by rw [IntKind.wrap_i64]; omega
        replace hq := Lib.hid hq
        replace hs := Lib.hid hs
        have hs1 := hs.out
        clear hkj
        repeat' (first | (with_reducible refine And.intro ?_ ?_) | (with_reducible refine gK_i (fun _ => ?_) (fun _ => ?_)) | (with_reducible refine condS_i (fun _ => ?_) (fun _ => ?_)) | (with_reducible refine drw_i (by kernel_rfl)) | simp -dsimp only [go_sem, ↓reduceIte, reduceCtorEq, Nat.reduceAdd, Nat.reduceMul, Nat.reduceSub, Nat.reduceLeDiff, Nat.reduceLT, Nat.reduceEqDiff, Int.reduceLE, Int.reduceLT, Int.reduceToNat, Int.reduceBEq, Int.reduceBNe, Int.reduceEq, Int.reduceAdd, Int.reduceSub, Int.reduceMul, Int.reduceNeg, Int.cast_ofNat_Int, *, encV, encN, hkI, hs1] | ((with_reducible refine opK_c ?_); simp -dsimp only [go_sem, ↓reduceIte, reduceCtorEq, Nat.reduceAdd, Nat.reduceMul, Nat.reduceSub, Nat.reduceLeDiff, Nat.reduceLT, Nat.reduceEqDiff, Int.reduceLE, Int.reduceLT, Int.reduceToNat, Int.reduceBEq, Int.reduceBNe, Int.reduceEq, Int.reduceAdd, Int.reduceSub, Int.reduceMul, Int.reduceNeg, Int.cast_ofNat_Int, encV, encN, hkI, hs1]; first | refine callK_r (by first | assumption | fail) (by first | exact .inl rfl | exact .inr rfl) ?_ | (refine callK_i (by assumption) ?_ ?_ ?_; (solve | (repeat (first | exact DLe.refl _ | exact DLe.nil _ | (refine DLe.tup ?_) | (refine DLe.agg ?_ rfl) | exact trivial | (refine And.intro ?_ ?_)))); (solve | exact .inl rfl | exact .inr rfl))) | fail | omega | exact decide_eq_true (by omega) | exact DLe.refl _)
        refine loopL tab_ok mixed s.faces (fun _ => True) (fun j => [(40, .d (.v (.int .i64 j))), (39, .d (.v (.int .i64 s.faces.length))), (38, .d (.sl 2 (s.faces.map encF))), (28, .d (.v (.int .i64 k))), (27, .d (.v (.int .i64 v.subs.length))), (26, .d (.sl 4 (v.subs.map encN))), (8, .ptr 8 0), (5, .ptr 2 0)])
          (fun j => [.gone, .row 29 3 1 (dRows (v.ranges.map encG)), .box 25 [.d (.v (.int .i64 v.id)), .own 1 1, .own 3 k], .row 62 4 k (zipG encN pre (subRow s0 (.own 6 s0.faces.length)) (post.take q)), .gone, .gone, .row 79 2 s0.faces.length (dRows (s0.faces.map encF)), .gone, .box 62 [.d (.v (.int .i64 s.id)), .d (.v (.int .i64 s.at_.at_)), .d (.v (.int .i64 s.at_.len)), .own 9 j], .row 79 2 j (dRows ((s.faces.take j).map encF))]) trivial ?_ ?_ ?_
        · refine (weak_gone 7 (by simp)).trans ((weak_adopt_box (by simp) 8 62 [.d (.v (.int .i64 s.id)), .d (.v (.int .i64 s.at_.at_)), .d (.v (.int .i64 s.at_.len)), .d (.v (.slice none 0 0))] 3 79 2 rfl rfl rfl).trans ?_)
          exact weak_forget _ (by simp) (by rfl) (by (repeat' (first | exact trivial | (refine ⟨rfl, ?_⟩)))) (by first | rfl | simp only [belowH, belowE, belowC, belowL, belowR, belowP, belowL_d, belowR_d, belowR_zipG, subRow, faceRow, List.length_cons, List.length_nil, Nat.reduceAdd, Nat.reduceLT, decide_true, Bool.and_self, Bool.and_true]) (by first | rfl | simp only [belowH, belowE, belowC, belowL, belowR, belowP, belowL_d, belowR_d, belowR_zipG, subRow, faceRow, List.length_cons, List.length_nil, Nat.reduceAdd, Nat.reduceLT, decide_true, Bool.and_self, Bool.and_true])
        · intro j f hf hj _ C hC
          have hjI : (j : Int) < (s.faces.length : Int) := by omega
          have hwj : IntKind.i64.wrap ((j : Int) + 1) = ((j + 1 : Nat) : Int) := by rw [IntKind.wrap_i64]; omega
          have hfl := h8s.2 f (List.mem_of_getElem? hf)
          have hb2 : j + 1 ≤ 100 := by omega
          have hlj : (List.take j s.faces).length = j := by rw [List.length_take]; omega
          replace hf := Lib.hid hf
          have hf1 := hf.out
          repeat' (first | (with_reducible refine And.intro ?_ ?_) | (with_reducible refine gK_i (fun _ => ?_) (fun _ => ?_)) | (with_reducible refine condS_i (fun _ => ?_) (fun _ => ?_)) | (with_reducible refine drw_i (by kernel_rfl)) | simp -dsimp only [go_sem, ↓reduceIte, reduceCtorEq, Nat.reduceAdd, Nat.reduceMul, Nat.reduceSub, Nat.reduceLeDiff, Nat.reduceLT, Nat.reduceEqDiff, Int.reduceLE, Int.reduceLT, Int.reduceToNat, Int.reduceBEq, Int.reduceBNe, Int.reduceEq, Int.reduceAdd, Int.reduceSub, Int.reduceMul, Int.reduceNeg, Int.cast_ofNat_Int, *, encN, encF, hjI, hwj, hf1, hb2, hlj, renR_zipG, zipG_len] | ((with_reducible refine opK_c ?_); simp -dsimp only [go_sem, ↓reduceIte, reduceCtorEq, Nat.reduceAdd, Nat.reduceMul, Nat.reduceSub, Nat.reduceLeDiff, Nat.reduceLT, Nat.reduceEqDiff, Int.reduceLE, Int.reduceLT, Int.reduceToNat, Int.reduceBEq, Int.reduceBNe, Int.reduceEq, Int.reduceAdd, Int.reduceSub, Int.reduceMul, Int.reduceNeg, Int.cast_ofNat_Int, encN, encF, hjI, hwj, hf1, hb2, hlj, renR_zipG, zipG_len]; first | refine callK_r (by first | assumption | fail) (by first | exact .inl rfl | exact .inr rfl) ?_ | (refine callK_i (by assumption) ?_ ?_ ?_; (solve | (repeat (first | exact DLe.refl _ | exact DLe.nil _ | (refine DLe.tup ?_) | (refine DLe.agg ?_ rfl) | exact trivial | (refine And.intro ?_ ?_)))); (solve | exact .inl rfl | exact .inr rfl))) | (refine opK_M [] (clone_int f.addrs (by omega)) ?_ ?_ ?_ ?_ ?_ ?_; (solve | rfl | simp only [go_sem, ↓reduceIte, reduceCtorEq, Nat.reduceAdd, Nat.reduceMul, Nat.reduceSub, Nat.reduceLeDiff, Nat.reduceLT, Nat.reduceEqDiff, Int.reduceLE, Int.reduceLT, Int.reduceToNat, Int.reduceBEq, Int.reduceBNe, Int.reduceEq, Int.reduceAdd, Int.reduceSub, Int.reduceMul, Int.reduceNeg, Int.cast_ofNat_Int, encF]); (solve | rfl); (solve | decide); (solve | simp); (solve | simp only [go_sem, ↓reduceIte, reduceCtorEq, Nat.reduceAdd, Nat.reduceMul, Nat.reduceSub, Nat.reduceLeDiff, Nat.reduceLT, Nat.reduceEqDiff, Int.reduceLE, Int.reduceLT, Int.reduceToNat, Int.reduceBEq, Int.reduceBNe, Int.reduceEq, Int.reduceAdd, Int.reduceSub, Int.reduceMul, Int.reduceNeg, Int.cast_ofNat_Int, lentOK, encF])) | omega | exact decide_eq_true (by omega) | exact DLe.refl _)
          refine hC _ _ trivial ((weak_freeze 11 1 3 1 (f.addrs.map encA) rfl).trans ?_)
          simp only [fzE, fz, fzL, fzH, fzC, fzR, fzR_app, fzR_d, fzL_d, List.map_cons, List.map_nil, Nat.reduceAdd, Nat.reduceEqDiff, reduceIte, and_true, true_and, and_self, and_false, false_and, Nat.zero_add, Nat.add_zero, reduceCtorEq, fzR_zipG]
          exact weak_forget _ (by simp) (by rw [take_snoc hf.out, List.map_append, List.map_cons, List.map_nil, ← dRows_app]; rfl) (by (repeat' (first | exact trivial | (refine ⟨rfl, ?_⟩)))) (by first | rfl | simp only [belowH, belowE, belowC, belowL, belowR, belowP, belowL_d, belowR_d, belowR_zipG, subRow, faceRow, List.length_cons, List.length_nil, Nat.reduceAdd, Nat.reduceLT, decide_true, Bool.and_self, Bool.and_true]) (by first | rfl | simp only [belowH, belowE, belowC, belowL, belowR, belowP, belowL_d, belowR_d, belowR_zipG, subRow, faceRow, List.length_cons, List.length_nil, Nat.reduceAdd, Nat.reduceLT, decide_true, Bool.and_self, Bool.and_true])
        · intro _ C
          repeat' (first | (with_reducible refine And.intro ?_ ?_) | (with_reducible refine gK_i (fun _ => ?_) (fun _ => ?_)) | (with_reducible refine condS_i (fun _ => ?_) (fun _ => ?_)) | (with_reducible refine drw_i (by kernel_rfl)) | simp -dsimp only [go_sem, ↓reduceIte, reduceCtorEq, Nat.reduceAdd, Nat.reduceMul, Nat.reduceSub, Nat.reduceLeDiff, Nat.reduceLT, Nat.reduceEqDiff, Int.reduceLE, Int.reduceLT, Int.reduceToNat, Int.reduceBEq, Int.reduceBNe, Int.reduceEq, Int.reduceAdd, Int.reduceSub, Int.reduceMul, Int.reduceNeg, Int.cast_ofNat_Int, *, encN, hwr, hb1, hlk, zipG_len, Int.lt_irrefl, List.take_length] | ((with_reducible refine opK_c ?_); simp -dsimp only [go_sem, ↓reduceIte, reduceCtorEq, Nat.reduceAdd, Nat.reduceMul, Nat.reduceSub, Nat.reduceLeDiff, Nat.reduceLT, Nat.reduceEqDiff, Int.reduceLE, Int.reduceLT, Int.reduceToNat, Int.reduceBEq, Int.reduceBNe, Int.reduceEq, Int.reduceAdd, Int.reduceSub, Int.reduceMul, Int.reduceNeg, Int.cast_ofNat_Int, encN, hwr, hb1, hlk, zipG_len, Int.lt_irrefl, List.take_length]; first | refine callK_r (by first | assumption | fail) (by first | exact .inl rfl | exact .inr rfl) ?_ | (refine callK_i (by assumption) ?_ ?_ ?_; (solve | (repeat (first | exact DLe.refl _ | exact DLe.nil _ | (refine DLe.tup ?_) | (refine DLe.agg ?_ rfl) | exact trivial | (refine And.intro ?_ ?_)))); (solve | exact .inl rfl | exact .inr rfl))) | fail | omega | exact decide_eq_true (by omega) | exact DLe.refl _)
          refine hCO _ _ _ _ _ ?_ (.inr ⟨k + 1, q + 1, by have := hkj2.out; omega, hjp, rfl, rfl, rfl⟩) ((weak_freeze 9 s.faces.length 79 2 (s.faces.map encF) rfl).trans ?_)
          · have := hm.out; have := hlen2.out; have := hkj2.out; omega
          simp only [fzE, fz, fzL, fzH, fzC, fzR, fzR_app, fzR_d, fzL_d, List.map_cons, List.map_nil, Nat.reduceAdd, Nat.reduceEqDiff, reduceIte, and_true, true_and, and_self, and_false, false_and, Nat.zero_add, Nat.add_zero, reduceCtorEq, fzR_zipG, subRow]
          exact weak_forget _ (by simp) (by rw [take_snoc hq.out, ← zipG_snoc]; rfl) (by (repeat' (first | exact trivial | (refine ⟨rfl, ?_⟩)))) (by first | rfl | simp only [belowH, belowE, belowC, belowL, belowR, belowP, belowL_d, belowR_d, belowR_zipG, subRow, faceRow, List.length_cons, List.length_nil, Nat.reduceAdd, Nat.reduceLT, decide_true, Bool.and_self, Bool.and_true]) (by first | rfl | simp only [belowH, belowE, belowC, belowL, belowR, belowP, belowL_d, belowR_d, belowR_zipG, subRow, faceRow, List.length_cons, List.length_nil, Nat.reduceAdd, Nat.reduceLT, decide_true, Bool.and_self, Bool.and_true])
      · obtain rfl : q = post.length := by omega
        obtain rfl : k = v.subs.length := by have := hlen2.out; omega
        clear hkj
        repeat' (first | (with_reducible refine And.intro ?_ ?_) | (with_reducible refine gK_i (fun _ => ?_) (fun _ => ?_)) | (with_reducible refine condS_i (fun _ => ?_) (fun _ => ?_)) | (with_reducible refine drw_i (by kernel_rfl)) | simp -dsimp only [go_sem, ↓reduceIte, reduceCtorEq, Nat.reduceAdd, Nat.reduceMul, Nat.reduceSub, Nat.reduceLeDiff, Nat.reduceLT, Nat.reduceEqDiff, Int.reduceLE, Int.reduceLT, Int.reduceToNat, Int.reduceBEq, Int.reduceBNe, Int.reduceEq, Int.reduceAdd, Int.reduceSub, Int.reduceMul, Int.reduceNeg, Int.cast_ofNat_Int, *, encV, Int.lt_irrefl] | ((with_reducible refine opK_c ?_); simp -dsimp only [go_sem, ↓reduceIte, reduceCtorEq, Nat.reduceAdd, Nat.reduceMul, Nat.reduceSub, Nat.reduceLeDiff, Nat.reduceLT, Nat.reduceEqDiff, Int.reduceLE, Int.reduceLT, Int.reduceToNat, Int.reduceBEq, Int.reduceBNe, Int.reduceEq, Int.reduceAdd, Int.reduceSub, Int.reduceMul, Int.reduceNeg, Int.cast_ofNat_Int, encV, Int.lt_irrefl]; first | refine callK_r (by first | assumption | fail) (by first | exact .inl rfl | exact .inr rfl) ?_ | (refine callK_i (by assumption) ?_ ?_ ?_; (solve | (repeat (first | exact DLe.refl _ | exact DLe.nil _ | (refine DLe.tup ?_) | (refine DLe.agg ?_ rfl) | exact trivial | (refine And.intro ?_ ?_)))); (solve | exact .inl rfl | exact .inr rfl))) | fail | omega | exact decide_eq_true (by omega) | exact DLe.refl _)
        rw [List.take_length]
        exact weak_eq rfl rfl
end Go.Proofs.YtdcjeacphbfmjaaGreat
namespace Go.Proofs.YtdcjeacphbfmjaaGreat
open Go Go.RowKit
set_option maxRecDepth 100000 in
set_option maxHeartbeats 2000000 in
theorem beginA_m (v : Vpc) (pre post : List Sbn) (s0 : Sbn) (preF postF : List Fce) (f0 : Fce) (hv : v.subs = pre ++ s0 :: post) (hfv : s0.faces = preF ++ f0 :: postF) (h : chkV v = 0) (h4 : v.ranges.length ≤ 4) (h6 : v.subs.length ≤ 6) (h8 : ∀ s ∈ v.subs, s.faces.length ≤ 8 ∧ ∀ f ∈ s.faces, f.addrs.length ≤ 4) :
    MSpec Tryz.prog 26 [.d (.agg (encV v))] [] (.tup [.ptr 2 0, .d (.v (.int .i64 0))]) [.gone, .row 29 3 1 (dRows (v.ranges.map encG)), .box 25 [.d (.v (.int .i64 v.id)), .own 1 1, .own 3 v.subs.length], .row 62 4 v.subs.length (zipG encN pre (subRow s0 (.own 6 s0.faces.length)) post),
      .gone, .gone, .row 79 2 s0.faces.length (zipG encF preF (faceRow f0 (.own 8 1)) postF), .gone, .row 3 1 1 (dRows (f0.addrs.map encA))] := by
  have hc := vcheck_p v
  rw [h] at hc
  replace h := Lib.hid h
  replace h8 := Lib.hid h8
  have hlen : v.subs.length = pre.length + 1 + post.length := by rw [hv]; simp; omega
  have hL := Lib.hid hv
  have hlen2 := Lib.hid hlen
  clear hv hlen
  have hlenF : s0.faces.length = preF.length + 1 + postF.length := by rw [hfv]; simp; omega
  have hLF := Lib.hid hfv
  have hlenF2 := Lib.hid hlenF
  clear hfv hlenF
  have hcl := clone_Range encG v.ranges (by omega)
  refine ms_i tab_ok mixed Tryz.func26 rfl Tryz.ntmps26 Tryz.results26 (by kernel_rfl) (by simp) (by simp [belowL, belowP]) (by simp [belowH, belowC, belowL, belowP, belowL_d, belowR_d]) ?_
  repeat' (first | (with_reducible refine And.intro ?_ ?_) | (with_reducible refine gK_i (fun _ => ?_) (fun _ => ?_)) | (with_reducible refine condS_i (fun _ => ?_) (fun _ => ?_)) | (with_reducible refine drw_i (by kernel_rfl)) | simp -dsimp only [go_sem, ↓reduceIte, reduceCtorEq, Nat.reduceAdd, Nat.reduceMul, Nat.reduceSub, Nat.reduceLeDiff, Nat.reduceLT, Nat.reduceEqDiff, Int.reduceLE, Int.reduceLT, Int.reduceToNat, Int.reduceBEq, Int.reduceBNe, Int.reduceEq, Int.reduceAdd, Int.reduceSub, Int.reduceMul, Int.reduceNeg, Int.cast_ofNat_Int, *, encV] | ((with_reducible refine opK_c ?_); simp -dsimp only [go_sem, ↓reduceIte, reduceCtorEq, Nat.reduceAdd, Nat.reduceMul, Nat.reduceSub, Nat.reduceLeDiff, Nat.reduceLT, Nat.reduceEqDiff, Int.reduceLE, Int.reduceLT, Int.reduceToNat, Int.reduceBEq, Int.reduceBNe, Int.reduceEq, Int.reduceAdd, Int.reduceSub, Int.reduceMul, Int.reduceNeg, Int.cast_ofNat_Int, encV]; first | refine callK_r (by first | assumption | exact hc) (by first | exact .inl rfl | exact .inr rfl) ?_ | (refine callK_i (by assumption) ?_ ?_ ?_; (solve | (repeat (first | exact DLe.refl _ | exact DLe.nil _ | (refine DLe.tup ?_) | (refine DLe.agg ?_ rfl) | exact trivial | (refine And.intro ?_ ?_)))); (solve | exact .inl rfl | exact .inr rfl))) | (refine opK_M [] (hcl) ?_ ?_ ?_ ?_ ?_ ?_; (solve | rfl | simp only [go_sem, ↓reduceIte, reduceCtorEq, Nat.reduceAdd, Nat.reduceMul, Nat.reduceSub, Nat.reduceLeDiff, Nat.reduceLT, Nat.reduceEqDiff, Int.reduceLE, Int.reduceLT, Int.reduceToNat, Int.reduceBEq, Int.reduceBNe, Int.reduceEq, Int.reduceAdd, Int.reduceSub, Int.reduceMul, Int.reduceNeg, Int.cast_ofNat_Int, encV]); (solve | rfl); (solve | decide); (solve | simp); (solve | simp only [go_sem, ↓reduceIte, reduceCtorEq, Nat.reduceAdd, Nat.reduceMul, Nat.reduceSub, Nat.reduceLeDiff, Nat.reduceLT, Nat.reduceEqDiff, Int.reduceLE, Int.reduceLT, Int.reduceToNat, Int.reduceBEq, Int.reduceBNe, Int.reduceEq, Int.reduceAdd, Int.reduceSub, Int.reduceMul, Int.reduceNeg, Int.cast_ofNat_Int, lentOK, encV])) | omega | exact decide_eq_true (by omega) | exact DLe.refl _)
  refine loopG tab_ok mixed (fun m e h => (∃ k, k ≤ pre.length ∧ m = v.subs.length - k ∧ e = [(28, .d (.v (.int .i64 k))), (27, .d (.v (.int .i64 v.subs.length))), (26, .d (.sl 4 (v.subs.map encN))), (5, .ptr 2 0)] ∧
      h = [.gone, .row 29 3 1 (dRows (v.ranges.map encG)), .box 25 [.d (.v (.int .i64 v.id)), .own 1 1, .own 3 k], .row 62 4 k (dRows ((pre.take k).map encN))]) ∨
    ∃ k j, k = pre.length + 1 + j ∧ j ≤ post.length ∧ m = v.subs.length - k ∧ e = [(28, .d (.v (.int .i64 k))), (27, .d (.v (.int .i64 v.subs.length))), (26, .d (.sl 4 (v.subs.map encN))), (5, .ptr 2 0)] ∧
      h = [.gone, .row 29 3 1 (dRows (v.ranges.map encG)), .box 25 [.d (.v (.int .i64 v.id)), .own 1 1, .own 3 k], .row 62 4 k (zipG encN pre (subRow s0 (.own 6 s0.faces.length)) (post.take j)), .gone, .gone, .row 79 2 s0.faces.length (zipG encF preF (faceRow f0 (.own 8 1)) postF), .gone, .row 3 1 1 (dRows (f0.addrs.map encA))]) _ _ _ (.inl ⟨0, Nat.zero_le _, rfl, rfl, rfl⟩) ?_ ?_
  · refine (weak_gone 0 (by simp)).trans ((weak_adopt_box (by simp) 2 25 [.d (.v (.int .i64 v.id)), .own 1 1, .d (.v (.slice none 0 0))] 2 62 4 rfl rfl rfl).trans ?_)
    exact weak_forget _ (by simp) (by rfl) (by (repeat' (first | exact trivial | (refine ⟨rfl, ?_⟩)))) (by first | rfl | simp only [belowH, belowE, belowC, belowL, belowR, belowP, belowL_d, belowR_d, belowR_zipG, subRow, faceRow, List.length_cons, List.length_nil, Nat.reduceAdd, Nat.reduceLT, decide_true, Bool.and_self, Bool.and_true]) (by first | rfl | simp only [belowH, belowE, belowC, belowL, belowR, belowP, belowL_d, belowR_d, belowR_zipG, subRow, faceRow, List.length_cons, List.length_nil, Nat.reduceAdd, Nat.reduceLT, decide_true, Bool.and_self, Bool.and_true])
  · rintro m e h (⟨k, hk, hm, rfl, rfl⟩ | ⟨k, q, hkj, hj, hm, rfl, rfl⟩) CO hCO
    · have hkI : (k : Int) < (v.subs.length : Int) := by have := hlen2.out; omega
      have hwr : IntKind.i64.wrap ((k : Int) + 1) = ((k + 1 : Nat) : Int) := by rw [IntKind.wrap_i64]; omega
      have hb1 : k + 1 ≤ 100 := by have := hlen2.out; omega
      have hlk : (List.take k pre).length = k := by rw [List.length_take]; omega
      have hm := Lib.hid hm
      by_cases hkp : k < pre.length
      · obtain ⟨s, hq⟩ : ∃ s, pre[k]? = some s := ⟨_, List.getElem?_eq_getElem hkp⟩
        have hs : v.subs[k]? = some s := by rw [hL.out, List.getElem?_append_left hkp]; exact hq
        have h8s := h8.out s (List.mem_of_getElem? hs)
        replace hs := Lib.hid hs
        replace hq := Lib.hid hq
        have hs1 := hs.out
        repeat' (first | (with_reducible refine And.intro ?_ ?_) | (with_reducible refine gK_i (fun _ => ?_) (fun _ => ?_)) | (with_reducible refine condS_i (fun _ => ?_) (fun _ => ?_)) | (with_reducible refine drw_i (by kernel_rfl)) | simp -dsimp only [go_sem, ↓reduceIte, reduceCtorEq, Nat.reduceAdd, Nat.reduceMul, Nat.reduceSub, Nat.reduceLeDiff, Nat.reduceLT, Nat.reduceEqDiff, Int.reduceLE, Int.reduceLT, Int.reduceToNat, Int.reduceBEq, Int.reduceBNe, Int.reduceEq, Int.reduceAdd, Int.reduceSub, Int.reduceMul, Int.reduceNeg, Int.cast_ofNat_Int, *, encV, encN, hkI, hs1] | ((with_reducible refine opK_c ?_); simp -dsimp only [go_sem, ↓reduceIte, reduceCtorEq, Nat.reduceAdd, Nat.reduceMul, Nat.reduceSub, Nat.reduceLeDiff, Nat.reduceLT, Nat.reduceEqDiff, Int.reduceLE, Int.reduceLT, Int.reduceToNat, Int.reduceBEq, Int.reduceBNe, Int.reduceEq, Int.reduceAdd, Int.reduceSub, Int.reduceMul, Int.reduceNeg, Int.cast_ofNat_Int, encV, encN, hkI, hs1]; first | refine callK_r (by first | assumption | fail) (by first | exact .inl rfl | exact .inr rfl) ?_ | (refine callK_i (by assumption) ?_ ?_ ?_; (solve | (repeat (first | exact DLe.refl _ | exact DLe.nil _ | (refine DLe.tup ?_) | (refine DLe.agg ?_ rfl) | exact trivial | (refine And.intro ?_ ?_)))); (solve | exact .inl rfl | exact .inr rfl))) | fail | omega | exact decide_eq_true (by omega) | exact DLe.refl _)
        refine loopL tab_ok mixed s.faces (fun _ => True) (fun j => [(40, .d (.v (.int .i64 j))), (39, .d (.v (.int .i64 s.faces.length))), (38, .d (.sl 2 (s.faces.map encF))), (28, .d (.v (.int .i64 k))), (27, .d (.v (.int .i64 v.subs.length))), (26, .d (.sl 4 (v.subs.map encN))), (8, .ptr 5 0), (5, .ptr 2 0)])
          (fun j => [.gone, .row 29 3 1 (dRows (v.ranges.map encG)), .box 25 [.d (.v (.int .i64 v.id)), .own 1 1, .own 3 k], .row 62 4 k (dRows ((pre.take k).map encN)), .gone, .box 62 [.d (.v (.int .i64 s.id)), .d (.v (.int .i64 s.at_.at_)), .d (.v (.int .i64 s.at_.len)), .own 6 j], .row 79 2 j (dRows ((s.faces.take j).map encF))]) trivial ?_ ?_ ?_
        · refine (weak_gone 4 (by simp)).trans ((weak_adopt_box (by simp) 5 62 [.d (.v (.int .i64 s.id)), .d (.v (.int .i64 s.at_.at_)), .d (.v (.int .i64 s.at_.len)), .d (.v (.slice none 0 0))] 3 79 2 rfl rfl rfl).trans ?_)
          exact weak_forget _ (by simp) (by rfl) (by (repeat' (first | exact trivial | (refine ⟨rfl, ?_⟩)))) (by first | rfl | simp only [belowH, belowE, belowC, belowL, belowR, belowP, belowL_d, belowR_d, belowR_zipG, subRow, faceRow, List.length_cons, List.length_nil, Nat.reduceAdd, Nat.reduceLT, decide_true, Bool.and_self, Bool.and_true]) (by first | rfl | simp only [belowH, belowE, belowC, belowL, belowR, belowP, belowL_d, belowR_d, belowR_zipG, subRow, faceRow, List.length_cons, List.length_nil, Nat.reduceAdd, Nat.reduceLT, decide_true, Bool.and_self, Bool.and_true])
        · intro j f hf hj _ C hC
          have hjI : (j : Int) < (s.faces.length : Int) := by omega
          have hwj : IntKind.i64.wrap ((j : Int) + 1) = ((j + 1 : Nat) : Int) := by rw [IntKind.wrap_i64]; omega
          have hfl := h8s.2 f (List.mem_of_getElem? hf)
          have hb2 : j + 1 ≤ 100 := by omega
          have hlj : (List.take j s.faces).length = j := by rw [List.length_take]; omega
          replace hf := Lib.hid hf
          have hf1 := hf.out
          repeat' (first | (with_reducible refine And.intro ?_ ?_) | (with_reducible refine gK_i (fun _ => ?_) (fun _ => ?_)) | (with_reducible refine condS_i (fun _ => ?_) (fun _ => ?_)) | (with_reducible refine drw_i (by kernel_rfl)) | simp -dsimp only [go_sem, ↓reduceIte, reduceCtorEq, Nat.reduceAdd, Nat.reduceMul, Nat.reduceSub, Nat.reduceLeDiff, Nat.reduceLT, Nat.reduceEqDiff, Int.reduceLE, Int.reduceLT, Int.reduceToNat, Int.reduceBEq, Int.reduceBNe, Int.reduceEq, Int.reduceAdd, Int.reduceSub, Int.reduceMul, Int.reduceNeg, Int.cast_ofNat_Int, *, encN, encF, hjI, hwj, hf1, hb2, hlj, renR_zipG, zipG_len] | ((with_reducible refine opK_c ?_); simp -dsimp only [go_sem, ↓reduceIte, reduceCtorEq, Nat.reduceAdd, Nat.reduceMul, Nat.reduceSub, Nat.reduceLeDiff, Nat.reduceLT, Nat.reduceEqDiff, Int.reduceLE, Int.reduceLT, Int.reduceToNat, Int.reduceBEq, Int.reduceBNe, Int.reduceEq, Int.reduceAdd, Int.reduceSub, Int.reduceMul, Int.reduceNeg, Int.cast_ofNat_Int, encN, encF, hjI, hwj, hf1, hb2, hlj, renR_zipG, zipG_len]; first | refine callK_r (by first | assumption | fail) (by first | exact .inl rfl | exact .inr rfl) ?_ | (refine callK_i (by assumption) ?_ ?_ ?_; (solve | (repeat (first | exact DLe.refl _ | exact DLe.nil _ | (refine DLe.tup ?_) | (refine DLe.agg ?_ rfl) | exact trivial | (refine And.intro ?_ ?_)))); (solve | exact .inl rfl | exact .inr rfl))) | (refine opK_M [] (clone_int f.addrs (by omega)) ?_ ?_ ?_ ?_ ?_ ?_; (solve | rfl | simp only [go_sem, ↓reduceIte, reduceCtorEq, Nat.reduceAdd, Nat.reduceMul, Nat.reduceSub, Nat.reduceLeDiff, Nat.reduceLT, Nat.reduceEqDiff, Int.reduceLE, Int.reduceLT, Int.reduceToNat, Int.reduceBEq, Int.reduceBNe, Int.reduceEq, Int.reduceAdd, Int.reduceSub, Int.reduceMul, Int.reduceNeg, Int.cast_ofNat_Int, encF]); (solve | rfl); (solve | decide); (solve | simp); (solve | simp only [go_sem, ↓reduceIte, reduceCtorEq, Nat.reduceAdd, Nat.reduceMul, Nat.reduceSub, Nat.reduceLeDiff, Nat.reduceLT, Nat.reduceEqDiff, Int.reduceLE, Int.reduceLT, Int.reduceToNat, Int.reduceBEq, Int.reduceBNe, Int.reduceEq, Int.reduceAdd, Int.reduceSub, Int.reduceMul, Int.reduceNeg, Int.cast_ofNat_Int, lentOK, encF])) | omega | exact decide_eq_true (by omega) | exact DLe.refl _)
          refine hC _ _ trivial ((weak_freeze 8 1 3 1 (f.addrs.map encA) rfl).trans ?_)
          simp only [fzE, fz, fzL, fzH, fzC, fzR, fzR_app, fzR_d, fzL_d, List.map_cons, List.map_nil, Nat.reduceAdd, Nat.reduceEqDiff, reduceIte, and_true, true_and, and_self, and_false, false_and, Nat.zero_add, Nat.add_zero, reduceCtorEq, fzR_zipG]
          exact weak_forget _ (by simp) (by rw [take_snoc hf.out, List.map_append, List.map_cons, List.map_nil, ← dRows_app]; rfl) (by (repeat' (first | exact trivial | (refine ⟨rfl, ?_⟩)))) (by first | rfl | simp only [belowH, belowE, belowC, belowL, belowR, belowP, belowL_d, belowR_d, belowR_zipG, subRow, faceRow, List.length_cons, List.length_nil, Nat.reduceAdd, Nat.reduceLT, decide_true, Bool.and_self, Bool.and_true]) (by first | rfl | simp only [belowH, belowE, belowC, belowL, belowR, belowP, belowL_d, belowR_d, belowR_zipG, subRow, faceRow, List.length_cons, List.length_nil, Nat.reduceAdd, Nat.reduceLT, decide_true, Bool.and_self, Bool.and_true])
        · intro _ C
          repeat' (first | (with_reducible refine And.intro ?_ ?_) | (with_reducible refine gK_i (fun _ => ?_) (fun _ => ?_)) | (with_reducible refine condS_i (fun _ => ?_) (fun _ => ?_)) | (with_reducible refine drw_i (by kernel_rfl)) | simp -dsimp only [go_sem, ↓reduceIte, reduceCtorEq, Nat.reduceAdd, Nat.reduceMul, Nat.reduceSub, Nat.reduceLeDiff, Nat.reduceLT, Nat.reduceEqDiff, Int.reduceLE, Int.reduceLT, Int.reduceToNat, Int.reduceBEq, Int.reduceBNe, Int.reduceEq, Int.reduceAdd, Int.reduceSub, Int.reduceMul, Int.reduceNeg, Int.cast_ofNat_Int, *, encN, hwr, hb1, hlk, Int.lt_irrefl, List.take_length] | ((with_reducible refine opK_c ?_); simp -dsimp only [go_sem, ↓reduceIte, reduceCtorEq, Nat.reduceAdd, Nat.reduceMul, Nat.reduceSub, Nat.reduceLeDiff, Nat.reduceLT, Nat.reduceEqDiff, Int.reduceLE, Int.reduceLT, Int.reduceToNat, Int.reduceBEq, Int.reduceBNe, Int.reduceEq, Int.reduceAdd, Int.reduceSub, Int.reduceMul, Int.reduceNeg, Int.cast_ofNat_Int, encN, hwr, hb1, hlk, Int.lt_irrefl, List.take_length]; first | refine callK_r (by first | assumption | fail) (by first | exact .inl rfl | exact .inr rfl) ?_ | (refine callK_i (by assumption) ?_ ?_ ?_; (solve | (repeat (first | exact DLe.refl _ | exact DLe.nil _ | (refine DLe.tup ?_) | (refine DLe.agg ?_ rfl) | exact trivial | (refine And.intro ?_ ?_)))); (solve | exact .inl rfl | exact .inr rfl))) | fail | omega | exact decide_eq_true (by omega) | exact DLe.refl _)
          refine hCO _ _ _ _ _ ?_ (.inl ⟨k + 1, hkp, rfl, rfl, rfl⟩) ((weak_freeze 6 s.faces.length 79 2 (s.faces.map encF) rfl).trans ?_)
          · have := hm.out; have := hlen2.out; omega
          simp only [fzE, fz, fzL, fzH, fzC, fzR, fzR_app, fzR_d, fzL_d, List.map_cons, List.map_nil, Nat.reduceAdd, Nat.reduceEqDiff, reduceIte, and_true, true_and, and_self, and_false, false_and, Nat.zero_add, Nat.add_zero, reduceCtorEq]
          exact weak_forget _ (by simp) (by rw [take_snoc hq.out, List.map_append, List.map_cons, List.map_nil, ← dRows_app]; rfl) (by (repeat' (first | exact trivial | (refine ⟨rfl, ?_⟩)))) (by first | rfl | simp only [belowH, belowE, belowC, belowL, belowR, belowP, belowL_d, belowR_d, belowR_zipG, subRow, faceRow, List.length_cons, List.length_nil, Nat.reduceAdd, Nat.reduceLT, decide_true, Bool.and_self, Bool.and_true]) (by first | rfl | simp only [belowH, belowE, belowC, belowL, belowR, belowP, belowL_d, belowR_d, belowR_zipG, subRow, faceRow, List.length_cons, List.length_nil, Nat.reduceAdd, Nat.reduceLT, decide_true, Bool.and_self, Bool.and_true])
      · obtain rfl : k = pre.length := by omega
        have hs : v.subs[pre.length]? = some s0 := by rw [hL.out, List.getElem?_append_right (Nat.le_refl _), Nat.sub_self]; rfl
        have h8s := h8.out s0 (List.mem_of_getElem? hs)
        replace hs := Lib.hid hs
        have hs1 := hs.out
        obtain ⟨k, hk2⟩ : ∃ k, k = pre.length := ⟨_, rfl⟩
        rw [← hk2] at hs1 hkI hwr hb1 hlk hCO ⊢
        rw [hk2, List.take_length] at hlk
        replace hk2 := Lib.hid hk2
        repeat' (first | (with_reducible refine And.intro ?_ ?_) | (with_reducible refine gK_i (fun _ => ?_) (fun _ => ?_)) | (with_reducible refine condS_i (fun _ => ?_) (fun _ => ?_)) | (with_reducible refine drw_i (by kernel_rfl)) | simp -dsimp only [go_sem, ↓reduceIte, reduceCtorEq, Nat.reduceAdd, Nat.reduceMul, Nat.reduceSub, Nat.reduceLeDiff, Nat.reduceLT, Nat.reduceEqDiff, Int.reduceLE, Int.reduceLT, Int.reduceToNat, Int.reduceBEq, Int.reduceBNe, Int.reduceEq, Int.reduceAdd, Int.reduceSub, Int.reduceMul, Int.reduceNeg, Int.cast_ofNat_Int, *, encV, encN, hkI, hs1] | ((with_reducible refine opK_c ?_); simp -dsimp only [go_sem, ↓reduceIte, reduceCtorEq, Nat.reduceAdd, Nat.reduceMul, Nat.reduceSub, Nat.reduceLeDiff, Nat.reduceLT, Nat.reduceEqDiff, Int.reduceLE, Int.reduceLT, Int.reduceToNat, Int.reduceBEq, Int.reduceBNe, Int.reduceEq, Int.reduceAdd, Int.reduceSub, Int.reduceMul, Int.reduceNeg, Int.cast_ofNat_Int, encV, encN, hkI, hs1]; first | refine callK_r (by first | assumption | fail) (by first | exact .inl rfl | exact .inr rfl) ?_ | (refine callK_i (by assumption) ?_ ?_ ?_; (solve | (repeat (first | exact DLe.refl _ | exact DLe.nil _ | (refine DLe.tup ?_) | (refine DLe.agg ?_ rfl) | exact trivial | (refine And.intro ?_ ?_)))); (solve | exact .inl rfl | exact .inr rfl))) | fail | omega | exact decide_eq_true (by omega) | exact DLe.refl _)
        refine loopG tab_ok mixed (fun m e h => (∃ j, j ≤ preF.length ∧ m = s0.faces.length - j ∧ e = [(40, .d (.v (.int .i64 j))), (39, .d (.v (.int .i64 s0.faces.length))), (38, .d (.sl 2 (s0.faces.map encF))), (28, .d (.v (.int .i64 k))), (27, .d (.v (.int .i64 v.subs.length))), (26, .d (.sl 4 (v.subs.map encN))), (8, .ptr 5 0), (5, .ptr 2 0)] ∧
            h = [.gone, .row 29 3 1 (dRows (v.ranges.map encG)), .box 25 [.d (.v (.int .i64 v.id)), .own 1 1, .own 3 k], .row 62 4 k (dRows ((pre.take k).map encN)), .gone, .box 62 [.d (.v (.int .i64 s0.id)), .d (.v (.int .i64 s0.at_.at_)), .d (.v (.int .i64 s0.at_.len)), .own 6 j], .row 79 2 j (dRows ((preF.take j).map encF))]) ∨
          ∃ j i, j = preF.length + 1 + i ∧ i ≤ postF.length ∧ m = s0.faces.length - j ∧ e = [(40, .d (.v (.int .i64 j))), (39, .d (.v (.int .i64 s0.faces.length))), (38, .d (.sl 2 (s0.faces.map encF))), (28, .d (.v (.int .i64 k))), (27, .d (.v (.int .i64 v.subs.length))), (26, .d (.sl 4 (v.subs.map encN))), (8, .ptr 5 0), (5, .ptr 2 0)] ∧
            h = [.gone, .row 29 3 1 (dRows (v.ranges.map encG)), .box 25 [.d (.v (.int .i64 v.id)), .own 1 1, .own 3 k], .row 62 4 k (dRows ((pre.take k).map encN)), .gone, .box 62 [.d (.v (.int .i64 s0.id)), .d (.v (.int .i64 s0.at_.at_)), .d (.v (.int .i64 s0.at_.len)), .own 6 j], .row 79 2 j (zipG encF preF (faceRow f0 (.own 8 1)) (postF.take i)), .gone, .row 3 1 1 (dRows (f0.addrs.map encA))]) _ _ _ (.inl ⟨0, Nat.zero_le _, rfl, rfl, rfl⟩) ?_ ?_
        · refine (weak_gone 4 (by simp)).trans ((weak_adopt_box (by simp) 5 62 [.d (.v (.int .i64 s0.id)), .d (.v (.int .i64 s0.at_.at_)), .d (.v (.int .i64 s0.at_.len)), .d (.v (.slice none 0 0))] 3 79 2 rfl rfl rfl).trans ?_)
          exact weak_forget _ (by simp) (by rfl) (by (repeat' (first | exact trivial | (refine ⟨rfl, ?_⟩)))) (by first | rfl | simp only [belowH, belowE, belowC, belowL, belowR, belowP, belowL_d, belowR_d, belowR_zipG, subRow, faceRow, List.length_cons, List.length_nil, Nat.reduceAdd, Nat.reduceLT, decide_true, Bool.and_self, Bool.and_true]) (by first | rfl | simp only [belowH, belowE, belowC, belowL, belowR, belowP, belowL_d, belowR_d, belowR_zipG, subRow, faceRow, List.length_cons, List.length_nil, Nat.reduceAdd, Nat.reduceLT, decide_true, Bool.and_self, Bool.and_true])
        · rintro m2 e h (⟨j, hj, hm2, rfl, rfl⟩ | ⟨j, i, hji, hi, hm2, rfl, rfl⟩) C hC
          · have hjI : (j : Int) < (s0.faces.length : Int) := by have := hlenF2.out; omega
            have hwj : IntKind.i64.wrap ((j : Int) + 1) = ((j + 1 : Nat) : Int) := by rw [IntKind.wrap_i64]; have := h8s.1; omega
            have hb2 : j + 1 ≤ 100 := by have := h8s.1; omega
            have hlj : (List.take j preF).length = j := by rw [List.length_take]; omega
            have hm2 := Lib.hid hm2
            by_cases hjp : j < preF.length
            · obtain ⟨f, hq⟩ : ∃ f, preF[j]? = some f := ⟨_, List.getElem?_eq_getElem hjp⟩
              have hf : s0.faces[j]? = some f := by rw [hLF.out, List.getElem?_append_left hjp]; exact hq
              have hfl := h8s.2 f (List.mem_of_getElem? hf)
              replace hf := Lib.hid hf
              replace hq := Lib.hid hq
              have hf1 := hf.out
              repeat' (first | (with_reducible refine And.intro ?_ ?_) | (with_reducible refine gK_i (fun _ => ?_) (fun _ => ?_)) | (with_reducible refine condS_i (fun _ => ?_) (fun _ => ?_)) | (with_reducible refine drw_i (by kernel_rfl)) | simp -dsimp only [go_sem, ↓reduceIte, reduceCtorEq, Nat.reduceAdd, Nat.reduceMul, Nat.reduceSub, Nat.reduceLeDiff, Nat.reduceLT, Nat.reduceEqDiff, Int.reduceLE, Int.reduceLT, Int.reduceToNat, Int.reduceBEq, Int.reduceBNe, Int.reduceEq, Int.reduceAdd, Int.reduceSub, Int.reduceMul, Int.reduceNeg, Int.cast_ofNat_Int, *, encN, encF, hjI, hwj, hf1, hb2, hlj] | ((with_reducible refine opK_c ?_); simp -dsimp only [go_sem, ↓reduceIte, reduceCtorEq, Nat.reduceAdd, Nat.reduceMul, Nat.reduceSub, Nat.reduceLeDiff, Nat.reduceLT, Nat.reduceEqDiff, Int.reduceLE, Int.reduceLT, Int.reduceToNat, Int.reduceBEq, Int.reduceBNe, Int.reduceEq, Int.reduceAdd, Int.reduceSub, Int.reduceMul, Int.reduceNeg, Int.cast_ofNat_Int, encN, encF, hjI, hwj, hf1, hb2, hlj]; first | refine callK_r (by first | assumption | fail) (by first | exact .inl rfl | exact .inr rfl) ?_ | (refine callK_i (by assumption) ?_ ?_ ?_; (solve | (repeat (first | exact DLe.refl _ | exact DLe.nil _ | (refine DLe.tup ?_) | (refine DLe.agg ?_ rfl) | exact trivial | (refine And.intro ?_ ?_)))); (solve | exact .inl rfl | exact .inr rfl))) | (refine opK_M [] (clone_int f.addrs (by omega)) ?_ ?_ ?_ ?_ ?_ ?_; (solve | rfl | simp only [go_sem, ↓reduceIte, reduceCtorEq, Nat.reduceAdd, Nat.reduceMul, Nat.reduceSub, Nat.reduceLeDiff, Nat.reduceLT, Nat.reduceEqDiff, Int.reduceLE, Int.reduceLT, Int.reduceToNat, Int.reduceBEq, Int.reduceBNe, Int.reduceEq, Int.reduceAdd, Int.reduceSub, Int.reduceMul, Int.reduceNeg, Int.cast_ofNat_Int, encF]); (solve | rfl); (solve | decide); (solve | simp); (solve | simp only [go_sem, ↓reduceIte, reduceCtorEq, Nat.reduceAdd, Nat.reduceMul, Nat.reduceSub, Nat.reduceLeDiff, Nat.reduceLT, Nat.reduceEqDiff, Int.reduceLE, Int.reduceLT, Int.reduceToNat, Int.reduceBEq, Int.reduceBNe, Int.reduceEq, Int.reduceAdd, Int.reduceSub, Int.reduceMul, Int.reduceNeg, Int.cast_ofNat_Int, lentOK, encF])) | omega | exact decide_eq_true (by omega) | exact DLe.refl _)
              refine hC _ _ _ _ _ ?_ (.inl ⟨j + 1, hjp, rfl, rfl, rfl⟩) ((weak_freeze 8 1 3 1 (f.addrs.map encA) rfl).trans ?_)
              · have := hm2.out; have := hlenF2.out; omega
              simp only [fzE, fz, fzL, fzH, fzC, fzR, fzR_app, fzR_d, fzL_d, List.map_cons, List.map_nil, Nat.reduceAdd, Nat.reduceEqDiff, reduceIte, and_true, true_and, and_self, and_false, false_and, Nat.zero_add, Nat.add_zero, reduceCtorEq, fzR_zipG]
              exact weak_forget _ (by simp) (by rw [take_snoc hq.out, List.map_append, List.map_cons, List.map_nil, ← dRows_app]; rfl) (by (repeat' (first | exact trivial | (refine ⟨rfl, ?_⟩)))) (by first | rfl | simp only [belowH, belowE, belowC, belowL, belowR, belowP, belowL_d, belowR_d, belowR_zipG, subRow, faceRow, List.length_cons, List.length_nil, Nat.reduceAdd, Nat.reduceLT, decide_true, Bool.and_self, Bool.and_true]) (by first | rfl | simp only [belowH, belowE, belowC, belowL, belowR, belowP, belowL_d, belowR_d, belowR_zipG, subRow, faceRow, List.length_cons, List.length_nil, Nat.reduceAdd, Nat.reduceLT, decide_true, Bool.and_self, Bool.and_true])
            · obtain rfl : j = preF.length := by omega
              have hf : s0.faces[preF.length]? = some f0 := by rw [hLF.out, List.getElem?_append_right (Nat.le_refl _), Nat.sub_self]; rfl
              have hfl := h8s.2 f0 (List.mem_of_getElem? hf)
              replace hf := Lib.hid hf
              have hf1 := hf.out
              repeat' (first | (with_reducible refine And.intro ?_ ?_) | (with_reducible refine gK_i (fun _ => ?_) (fun _ => ?_)) | (with_reducible refine condS_i (fun _ => ?_) (fun _ => ?_)) | (with_reducible refine drw_i (by kernel_rfl)) | simp -dsimp only [go_sem, ↓reduceIte, reduceCtorEq, Nat.reduceAdd, Nat.reduceMul, Nat.reduceSub, Nat.reduceLeDiff, Nat.reduceLT, Nat.reduceEqDiff, Int.reduceLE, Int.reduceLT, Int.reduceToNat, Int.reduceBEq, Int.reduceBNe, Int.reduceEq, Int.reduceAdd, Int.reduceSub, Int.reduceMul, Int.reduceNeg, Int.cast_ofNat_Int, *, encN, encF, hjI, hwj, hf1, hb2, hlj, List.take_length] | ((with_reducible refine opK_c ?_); simp -dsimp only [go_sem, ↓reduceIte, reduceCtorEq, Nat.reduceAdd, Nat.reduceMul, Nat.reduceSub, Nat.reduceLeDiff, Nat.reduceLT, Nat.reduceEqDiff, Int.reduceLE, Int.reduceLT, Int.reduceToNat, Int.reduceBEq, Int.reduceBNe, Int.reduceEq, Int.reduceAdd, Int.reduceSub, Int.reduceMul, Int.reduceNeg, Int.cast_ofNat_Int, encN, encF, hjI, hwj, hf1, hb2, hlj, List.take_length]; first | refine callK_r (by first | assumption | fail) (by first | exact .inl rfl | exact .inr rfl) ?_ | (refine callK_i (by assumption) ?_ ?_ ?_; (solve | (repeat (first | exact DLe.refl _ | exact DLe.nil _ | (refine DLe.tup ?_) | (refine DLe.agg ?_ rfl) | exact trivial | (refine And.intro ?_ ?_)))); (solve | exact .inl rfl | exact .inr rfl))) | (refine opK_M [] (clone_int f0.addrs (by omega)) ?_ ?_ ?_ ?_ ?_ ?_; (solve | rfl | simp only [go_sem, ↓reduceIte, reduceCtorEq, Nat.reduceAdd, Nat.reduceMul, Nat.reduceSub, Nat.reduceLeDiff, Nat.reduceLT, Nat.reduceEqDiff, Int.reduceLE, Int.reduceLT, Int.reduceToNat, Int.reduceBEq, Int.reduceBNe, Int.reduceEq, Int.reduceAdd, Int.reduceSub, Int.reduceMul, Int.reduceNeg, Int.cast_ofNat_Int, encF]); (solve | rfl); (solve | decide); (solve | simp); (solve | simp only [go_sem, ↓reduceIte, reduceCtorEq, Nat.reduceAdd, Nat.reduceMul, Nat.reduceSub, Nat.reduceLeDiff, Nat.reduceLT, Nat.reduceEqDiff, Int.reduceLE, Int.reduceLT, Int.reduceToNat, Int.reduceBEq, Int.reduceBNe, Int.reduceEq, Int.reduceAdd, Int.reduceSub, Int.reduceMul, Int.reduceNeg, Int.cast_ofNat_Int, lentOK, encF])) | omega | exact decide_eq_true (by omega) | exact DLe.refl _)
              refine hC _ _ _ _ _ ?_ (.inr ⟨preF.length + 1, 0, rfl, Nat.zero_le _, rfl, rfl, rfl⟩) ((weak_gone 7 (by simp)).trans ?_)
              · have := hm2.out; have := hlenF2.out; omega
              exact weak_forget _ (by simp) (by rfl) (by (repeat' (first | exact trivial | (refine ⟨rfl, ?_⟩)))) (by first | rfl | simp only [belowH, belowE, belowC, belowL, belowR, belowP, belowL_d, belowR_d, belowR_zipG, subRow, faceRow, List.length_cons, List.length_nil, Nat.reduceAdd, Nat.reduceLT, decide_true, Bool.and_self, Bool.and_true]) (by first | rfl | simp only [belowH, belowE, belowC, belowL, belowR, belowP, belowL_d, belowR_d, belowR_zipG, subRow, faceRow, List.length_cons, List.length_nil, Nat.reduceAdd, Nat.reduceLT, decide_true, Bool.and_self, Bool.and_true])
          · have hm2 := Lib.hid hm2
            have hji2 := Lib.hid hji
            have hb2 : preF.length + 1 + i + 1 ≤ 100 := by have := hlenF2.out; have := h8s.1; omega
            have hli : (List.take i postF).length = i := by rw [List.length_take]; omega
            have hjl : j ≤ s0.faces.length := by have := hlenF2.out; omega
            by_cases hip : i < postF.length
            · obtain ⟨f, hq⟩ : ∃ f, postF[i]? = some f := ⟨_, List.getElem?_eq_getElem hip⟩
              have hf : s0.faces[j]? = some f := by
                rw [hLF.out, List.getElem?_append_right (by omega), show j - preF.length = i + 1 by omega, List.getElem?_cons_succ]; exact hq
              have hfl := h8s.2 f (List.mem_of_getElem? hf)
              have hjI : (j : Int) < (s0.faces.length : Int) := by have := hlenF2.out; omega
              have hwj : IntKind.i64.wrap ((j : Int) + 1) = ((j + 1 : Nat) : Int) := by rw [IntKind.wrap_i64]; have := h8s.1; omega
              replace hf := Lib.hid hf
              replace hq := Lib.hid hq
              have hf1 := hf.out
              clear hji
              repeat' (first | (with_reducible refine And.intro ?_ ?_) | (with_reducible refine gK_i (fun _ => ?_) (fun _ => ?_)) | (with_reducible refine condS_i (fun _ => ?_) (fun _ => ?_)) | (with_reducible refine drw_i (by kernel_rfl)) | simp -dsimp only [go_sem, ↓reduceIte, reduceCtorEq, Nat.reduceAdd, Nat.reduceMul, Nat.reduceSub, Nat.reduceLeDiff, Nat.reduceLT, Nat.reduceEqDiff, Int.reduceLE, Int.reduceLT, Int.reduceToNat, Int.reduceBEq, Int.reduceBNe, Int.reduceEq, Int.reduceAdd, Int.reduceSub, Int.reduceMul, Int.reduceNeg, Int.cast_ofNat_Int, *, encN, encF, hjI, hwj, hf1, hb2, hli, zipG_len] | ((with_reducible refine opK_c ?_); simp -dsimp only [go_sem, ↓reduceIte, reduceCtorEq, Nat.reduceAdd, Nat.reduceMul, Nat.reduceSub, Nat.reduceLeDiff, Nat.reduceLT, Nat.reduceEqDiff, Int.reduceLE, Int.reduceLT, Int.reduceToNat, Int.reduceBEq, Int.reduceBNe, Int.reduceEq, Int.reduceAdd, Int.reduceSub, Int.reduceMul, Int.reduceNeg, Int.cast_ofNat_Int, encN, encF, hjI, hwj, hf1, hb2, hli, zipG_len]; first | refine callK_r (by first | assumption | fail) (by first | exact .inl rfl | exact .inr rfl) ?_ | (refine callK_i (by assumption) ?_ ?_ ?_; (solve | (repeat (first | exact DLe.refl _ | exact DLe.nil _ | (refine DLe.tup ?_) | (refine DLe.agg ?_ rfl) | exact trivial | (refine And.intro ?_ ?_)))); (solve | exact .inl rfl | exact .inr rfl))) | (refine opK_M [] (clone_int f.addrs (by omega)) ?_ ?_ ?_ ?_ ?_ ?_; (solve | rfl | simp only [go_sem, ↓reduceIte, reduceCtorEq, Nat.reduceAdd, Nat.reduceMul, Nat.reduceSub, Nat.reduceLeDiff, Nat.reduceLT, Nat.reduceEqDiff, Int.reduceLE, Int.reduceLT, Int.reduceToNat, Int.reduceBEq, Int.reduceBNe, Int.reduceEq, Int.reduceAdd, Int.reduceSub, Int.reduceMul, Int.reduceNeg, Int.cast_ofNat_Int, encF]); (solve | rfl); (solve | decide); (solve | simp); (solve | simp only [go_sem, ↓reduceIte, reduceCtorEq, Nat.reduceAdd, Nat.reduceMul, Nat.reduceSub, Nat.reduceLeDiff, Nat.reduceLT, Nat.reduceEqDiff, Int.reduceLE, Int.reduceLT, Int.reduceToNat, Int.reduceBEq, Int.reduceBNe, Int.reduceEq, Int.reduceAdd, Int.reduceSub, Int.reduceMul, Int.reduceNeg, Int.cast_ofNat_Int, lentOK, encF])) | omega | exact decide_eq_true (by omega) | exact DLe.refl _)
              refine hC _ _ _ _ _ ?_ (.inr ⟨j + 1, i + 1, by have := hji2.out; omega, hip, rfl, rfl, rfl⟩) ((weak_freeze 10 1 3 1 (f.addrs.map encA) rfl).trans ?_)
              · have := hm2.out; have := hlenF2.out; have := hji2.out; omega
              simp only [fzE, fz, fzL, fzH, fzC, fzR, fzR_app, fzR_d, fzL_d, List.map_cons, List.map_nil, Nat.reduceAdd, Nat.reduceEqDiff, reduceIte, and_true, true_and, and_self, and_false, false_and, Nat.zero_add, Nat.add_zero, reduceCtorEq, fzR_zipG, faceRow]
              exact weak_forget _ (by simp) (by rw [take_snoc hq.out, ← zipG_snoc]; rfl) (by (repeat' (first | exact trivial | (refine ⟨rfl, ?_⟩)))) (by first | rfl | simp only [belowH, belowE, belowC, belowL, belowR, belowP, belowL_d, belowR_d, belowR_zipG, subRow, faceRow, List.length_cons, List.length_nil, Nat.reduceAdd, Nat.reduceLT, decide_true, Bool.and_self, Bool.and_true]) (by first | rfl | simp only [belowH, belowE, belowC, belowL, belowR, belowP, belowL_d, belowR_d, belowR_zipG, subRow, faceRow, List.length_cons, List.length_nil, Nat.reduceAdd, Nat.reduceLT, decide_true, Bool.and_self, Bool.and_true])
            · obtain rfl : i = postF.length := by omega
              obtain rfl : j = s0.faces.length := by have := hlenF2.out; omega
              clear hji
              have hlk2 : (List.take k pre).length = k := by rw [hk2.out, List.take_length]
              repeat' (first | (with_reducible refine And.intro ?_ ?_) | (with_reducible refine gK_i (fun _ => ?_) (fun _ => ?_)) | (with_reducible refine condS_i (fun _ => ?_) (fun _ => ?_)) | (with_reducible refine drw_i (by kernel_rfl)) | simp -dsimp only [go_sem, ↓reduceIte, reduceCtorEq, Nat.reduceAdd, Nat.reduceMul, Nat.reduceSub, Nat.reduceLeDiff, Nat.reduceLT, Nat.reduceEqDiff, Int.reduceLE, Int.reduceLT, Int.reduceToNat, Int.reduceBEq, Int.reduceBNe, Int.reduceEq, Int.reduceAdd, Int.reduceSub, Int.reduceMul, Int.reduceNeg, Int.cast_ofNat_Int, *, encN, hwr, hb1, hlk2, Int.lt_irrefl, List.take_length] | ((with_reducible refine opK_c ?_); simp -dsimp only [go_sem, ↓reduceIte, reduceCtorEq, Nat.reduceAdd, Nat.reduceMul, Nat.reduceSub, Nat.reduceLeDiff, Nat.reduceLT, Nat.reduceEqDiff, Int.reduceLE, Int.reduceLT, Int.reduceToNat, Int.reduceBEq, Int.reduceBNe, Int.reduceEq, Int.reduceAdd, Int.reduceSub, Int.reduceMul, Int.reduceNeg, Int.cast_ofNat_Int, encN, hwr, hb1, hlk2, Int.lt_irrefl, List.take_length]; first | refine callK_r (by first | assumption | fail) (by first | exact .inl rfl | exact .inr rfl) ?_ | (refine callK_i (by assumption) ?_ ?_ ?_; (solve | (repeat (first | exact DLe.refl _ | exact DLe.nil _ | (refine DLe.tup ?_) | (refine DLe.agg ?_ rfl) | exact trivial | (refine And.intro ?_ ?_)))); (solve | exact .inl rfl | exact .inr rfl))) | fail | omega | exact decide_eq_true (by omega) | exact DLe.refl _)
              refine hCO _ _ _ _ _ ?_ (.inr ⟨k + 1, 0, by rw [hk2.out], Nat.zero_le _, rfl, rfl, rfl⟩) ((weak_gone 5 (by simp)).trans ?_)
              · have := hm.out; have := hlen2.out; have := hk2.out; omega
              exact weak_forget _ (by simp) (by rw [hk2.out, List.take_length]; rfl) (by (repeat' (first | exact trivial | (refine ⟨rfl, ?_⟩)))) (by first | rfl | simp only [belowH, belowE, belowC, belowL, belowR, belowP, belowL_d, belowR_d, belowR_zipG, subRow, faceRow, List.length_cons, List.length_nil, Nat.reduceAdd, Nat.reduceLT, decide_true, Bool.and_self, Bool.and_true]) (by first | rfl | simp only [belowH, belowE, belowC, belowL, belowR, belowP, belowL_d, belowR_d, belowR_zipG, subRow, faceRow, List.length_cons, List.length_nil, Nat.reduceAdd, Nat.reduceLT, decide_true, Bool.and_self, Bool.and_true])
    · have hm := Lib.hid hm
      have hkj2 := Lib.hid hkj
      have hb1 : pre.length + 1 + q + 1 ≤ 100 := by have := hlen2.out; omega
      have hlk : (List.take q post).length = q := by rw [List.length_take]; omega
      have hkl : k ≤ v.subs.length := by have := hlen2.out; omega
      by_cases hjp : q < post.length
      · obtain ⟨s, hq⟩ : ∃ s, post[q]? = some s := ⟨_, List.getElem?_eq_getElem hjp⟩
        have hs : v.subs[k]? = some s := by
          rw [hL.out, List.getElem?_append_right (by omega), show k - pre.length = q + 1 by omega, List.getElem?_cons_succ]; exact hq
        have h8s := h8.out s (List.mem_of_getElem? hs)
        have hkI : (k : Int) < (v.subs.length : Int) := by have := hlen2.out; omega
        have hwr : IntKind.i64.wrap ((k : Int) + 1) = ((k + 1 : Nat) : Int) := by rw [IntKind.wrap_i64]; omega
        replace hq := Lib.hid hq
        replace hs := Lib.hid hs
        have hs1 := hs.out
        clear hkj
        repeat' (first | (with_reducible refine And.intro ?_ ?_) | (with_reducible refine gK_i (fun _ => ?_) (fun _ => ?_)) | (with_reducible refine condS_i (fun _ => ?_) (fun _ => ?_)) | (with_reducible refine drw_i (by kernel_rfl)) | simp -dsimp only [go_sem, ↓reduceIte, reduceCtorEq, Nat.reduceAdd, Nat.reduceMul, Nat.reduceSub, Nat.reduceLeDiff, Nat.reduceLT, Nat.reduceEqDiff, Int.reduceLE, Int.reduceLT, Int.reduceToNat, Int.reduceBEq, Int.reduceBNe, Int.reduceEq, Int.reduceAdd, Int.reduceSub, Int.reduceMul, Int.reduceNeg, Int.cast_ofNat_Int, *, encV, encN, hkI, hs1] | ((with_reducible refine opK_c ?_); simp -dsimp only [go_sem, ↓reduceIte, reduceCtorEq, Nat.reduceAdd, Nat.reduceMul, Nat.reduceSub, Nat.reduceLeDiff, Nat.reduceLT, Nat.reduceEqDiff, Int.reduceLE, Int.reduceLT, Int.reduceToNat, Int.reduceBEq, Int.reduceBNe, Int.reduceEq, Int.reduceAdd, Int.reduceSub, Int.reduceMul, Int.reduceNeg, Int.cast_ofNat_Int, encV, encN, hkI, hs1]; first | refine callK_r (by first | assumption | fail) (by first | exact .inl rfl | exact .inr rfl) ?_ | (refine callK_i (by assumption) ?_ ?_ ?_; (solve | (repeat (first | exact DLe.refl _ | exact DLe.nil _ | (refine DLe.tup ?_) | (refine DLe.agg ?_ rfl) | exact trivial | (refine And.intro ?_ ?_)))); (solve | exact .inl rfl | exact .inr rfl))) | fail | omega | exact decide_eq_true (by omega) | exact DLe.refl _)
        refine loopL tab_ok mixed s.faces (fun _ => True) (fun j => [(40, .d (.v (.int .i64 j))), (39, .d (.v (.int .i64 s.faces.length))), (38, .d (.sl 2 (s.faces.map encF))), (28, .d (.v (.int .i64 k))), (27, .d (.v (.int .i64 v.subs.length))), (26, .d (.sl 4 (v.subs.map encN))), (8, .ptr 10 0), (5, .ptr 2 0)])
          (fun j => [.gone, .row 29 3 1 (dRows (v.ranges.map encG)), .box 25 [.d (.v (.int .i64 v.id)), .own 1 1, .own 3 k], .row 62 4 k (zipG encN pre (subRow s0 (.own 6 s0.faces.length)) (post.take q)), .gone, .gone, .row 79 2 s0.faces.length (zipG encF preF (faceRow f0 (.own 8 1)) postF), .gone, .row 3 1 1 (dRows (f0.addrs.map encA)), .gone, .box 62 [.d (.v (.int .i64 s.id)), .d (.v (.int .i64 s.at_.at_)), .d (.v (.int .i64 s.at_.len)), .own 11 j], .row 79 2 j (dRows ((s.faces.take j).map encF))]) trivial ?_ ?_ ?_
        · refine (weak_gone 9 (by simp)).trans ((weak_adopt_box (by simp) 10 62 [.d (.v (.int .i64 s.id)), .d (.v (.int .i64 s.at_.at_)), .d (.v (.int .i64 s.at_.len)), .d (.v (.slice none 0 0))] 3 79 2 rfl rfl rfl).trans ?_)
          exact weak_forget _ (by simp) (by rfl) (by (repeat' (first | exact trivial | (refine ⟨rfl, ?_⟩)))) (by first | rfl | simp only [belowH, belowE, belowC, belowL, belowR, belowP, belowL_d, belowR_d, belowR_zipG, subRow, faceRow, List.length_cons, List.length_nil, Nat.reduceAdd, Nat.reduceLT, decide_true, Bool.and_self, Bool.and_true]) (by first | rfl | simp only [belowH, belowE, belowC, belowL, belowR, belowP, belowL_d, belowR_d, belowR_zipG, subRow, faceRow, List.length_cons, List.length_nil, Nat.reduceAdd, Nat.reduceLT, decide_true, Bool.and_self, Bool.and_true])
        · intro j f hf hj _ C hC
          have hjI : (j : Int) < (s.faces.length : Int) := by omega
          have hwj : IntKind.i64.wrap ((j : Int) + 1) = ((j + 1 : Nat) : Int) := by rw [IntKind.wrap_i64]; omega
          have hfl := h8s.2 f (List.mem_of_getElem? hf)
          have hb2 : j + 1 ≤ 100 := by omega
          have hlj : (List.take j s.faces).length = j := by rw [List.length_take]; omega
          replace hf := Lib.hid hf
          have hf1 := hf.out
          repeat' (first | (with_reducible refine And.intro ?_ ?_) | (with_reducible refine gK_i (fun _ => ?_) (fun _ => ?_)) | (with_reducible refine condS_i (fun _ => ?_) (fun _ => ?_)) | (with_reducible refine drw_i (by kernel_rfl)) | simp -dsimp only [go_sem, ↓reduceIte, reduceCtorEq, Nat.reduceAdd, Nat.reduceMul, Nat.reduceSub, Nat.reduceLeDiff, Nat.reduceLT, Nat.reduceEqDiff, Int.reduceLE, Int.reduceLT, Int.reduceToNat, Int.reduceBEq, Int.reduceBNe, Int.reduceEq, Int.reduceAdd, Int.reduceSub, Int.reduceMul, Int.reduceNeg, Int.cast_ofNat_Int, *, encN, encF, hjI, hwj, hf1, hb2, hlj, renR_zipG, zipG_len] | ((with_reducible refine opK_c ?_); simp -dsimp only [go_sem, ↓reduceIte, reduceCtorEq, Nat.reduceAdd, Nat.reduceMul, Nat.reduceSub, Nat.reduceLeDiff, Nat.reduceLT, Nat.reduceEqDiff, Int.reduceLE, Int.reduceLT, Int.reduceToNat, Int.reduceBEq, Int.reduceBNe, Int.reduceEq, Int.reduceAdd, Int.reduceSub, Int.reduceMul, Int.reduceNeg, Int.cast_ofNat_Int, encN, encF, hjI, hwj, hf1, hb2, hlj, renR_zipG, zipG_len]; first | refine callK_r (by first | assumption | fail) (by first | exact .inl rfl | exact .inr rfl) ?_ | (refine callK_i (by assumption) ?_ ?_ ?_; (solve | (repeat (first | exact DLe.refl _ | exact DLe.nil _ | (refine DLe.tup ?_) | (refine DLe.agg ?_ rfl) | exact trivial | (refine And.intro ?_ ?_)))); (solve | exact .inl rfl | exact .inr rfl))) | (refine opK_M [] (clone_int f.addrs (by omega)) ?_ ?_ ?_ ?_ ?_ ?_; (solve | rfl | simp only [go_sem, ↓reduceIte, reduceCtorEq, Nat.reduceAdd, Nat.reduceMul, Nat.reduceSub, Nat.reduceLeDiff, Nat.reduceLT, Nat.reduceEqDiff, Int.reduceLE, Int.reduceLT, Int.reduceToNat, Int.reduceBEq, Int.reduceBNe, Int.reduceEq, Int.reduceAdd, Int.reduceSub, Int.reduceMul, Int.reduceNeg, Int.cast_ofNat_Int, encF]); (solve | rfl); (solve | decide); (solve | simp); (solve | simp only [go_sem, ↓reduceIte, reduceCtorEq, Nat.reduceAdd, Nat.reduceMul, Nat.reduceSub, Nat.reduceLeDiff, Nat.reduceLT, Nat.reduceEqDiff, Int.reduceLE, Int.reduceLT, Int.reduceToNat, Int.reduceBEq, Int.reduceBNe, Int.reduceEq, Int.reduceAdd, Int.reduceSub, Int.reduceMul, Int.reduceNeg, Int.cast_ofNat_Int, lentOK, encF])) | omega | exact decide_eq_true (by omega) | exact DLe.refl _)
          refine hC _ _ trivial ((weak_freeze 13 1 3 1 (f.addrs.map encA) rfl).trans ?_)
          simp only [fzE, fz, fzL, fzH, fzC, fzR, fzR_app, fzR_d, fzL_d, List.map_cons, List.map_nil, Nat.reduceAdd, Nat.reduceEqDiff, reduceIte, and_true, true_and, and_self, and_false, false_and, Nat.zero_add, Nat.add_zero, reduceCtorEq, fzR_zipG]
          exact weak_forget _ (by simp) (by rw [take_snoc hf.out, List.map_append, List.map_cons, List.map_nil, ← dRows_app]; rfl) (by (repeat' (first | exact trivial | (refine ⟨rfl, ?_⟩)))) (by first | rfl | simp only [belowH, belowE, belowC, belowL, belowR, belowP, belowL_d, belowR_d, belowR_zipG, subRow, faceRow, List.length_cons, List.length_nil, Nat.reduceAdd, Nat.reduceLT, decide_true, Bool.and_self, Bool.and_true]) (by first | rfl | simp only [belowH, belowE, belowC, belowL, belowR, belowP, belowL_d, belowR_d, belowR_zipG, subRow, faceRow, List.length_cons, List.length_nil, Nat.reduceAdd, Nat.reduceLT, decide_true, Bool.and_self, Bool.and_true])
        · intro _ C
          repeat' (first | (with_reducible refine And.intro ?_ ?_) | (with_reducible refine gK_i (fun _ => ?_) (fun _ => ?_)) | (with_reducible refine condS_i (fun _ => ?_) (fun _ => ?_)) | (with_reducible refine drw_i (by kernel_rfl)) | simp -dsimp only [go_sem, ↓reduceIte, reduceCtorEq, Nat.reduceAdd, Nat.reduceMul, Nat.reduceSub, Nat.reduceLeDiff, Nat.reduceLT, Nat.reduceEqDiff, Int.reduceLE, Int.reduceLT, Int.reduceToNat, Int.reduceBEq, Int.reduceBNe, Int.reduceEq, Int.reduceAdd, Int.reduceSub, Int.reduceMul, Int.reduceNeg, Int.cast_ofNat_Int, *, encN, hwr, hb1, hlk, zipG_len, Int.lt_irrefl, List.take_length] | ((with_reducible refine opK_c ?_); simp -dsimp only [go_sem, ↓reduceIte, reduceCtorEq, Nat.reduceAdd, Nat.reduceMul, Nat.reduceSub, Nat.reduceLeDiff, Nat.reduceLT, Nat.reduceEqDiff, Int.reduceLE, Int.reduceLT, Int.reduceToNat, Int.reduceBEq, Int.reduceBNe, Int.reduceEq, Int.reduceAdd, Int.reduceSub, Int.reduceMul, Int.reduceNeg, Int.cast_ofNat_Int, encN, hwr, hb1, hlk, zipG_len, Int.lt_irrefl, List.take_length]; first | refine callK_r (by first | assumption | fail) (by first | exact .inl rfl | exact .inr rfl) ?_ | (refine callK_i (by assumption) ?_ ?_ ?_; (solve | (repeat (first | exact DLe.refl _ | exact DLe.nil _ | (refine DLe.tup ?_) | (refine DLe.agg ?_ rfl) | exact trivial | (refine And.intro ?_ ?_)))); (solve | exact .inl rfl | exact .inr rfl))) | fail | omega | exact decide_eq_true (by omega) | exact DLe.refl _)
          refine hCO _ _ _ _ _ ?_ (.inr ⟨k + 1, q + 1, by have := hkj2.out; omega, hjp, rfl, rfl, rfl⟩) ((weak_freeze 11 s.faces.length 79 2 (s.faces.map encF) rfl).trans ?_)
          · have := hm.out; have := hlen2.out; have := hkj2.out; omega
          simp only [fzE, fz, fzL, fzH, fzC, fzR, fzR_app, fzR_d, fzL_d, List.map_cons, List.map_nil, Nat.reduceAdd, Nat.reduceEqDiff, reduceIte, and_true, true_and, and_self, and_false, false_and, Nat.zero_add, Nat.add_zero, reduceCtorEq, fzR_zipG, subRow]
          exact weak_forget _ (by simp) (by rw [take_snoc hq.out, ← zipG_snoc]; rfl) (by (repeat' (first | exact trivial | (refine ⟨rfl, ?_⟩)))) (by first | rfl | simp only [belowH, belowE, belowC, belowL, belowR, belowP, belowL_d, belowR_d, belowR_zipG, subRow, faceRow, List.length_cons, List.length_nil, Nat.reduceAdd, Nat.reduceLT, decide_true, Bool.and_self, Bool.and_true]) (by first | rfl | simp only [belowH, belowE, belowC, belowL, belowR, belowP, belowL_d, belowR_d, belowR_zipG, subRow, faceRow, List.length_cons, List.length_nil, Nat.reduceAdd, Nat.reduceLT, decide_true, Bool.and_self, Bool.and_true])
      · obtain rfl : q = post.length := by omega
        obtain rfl : k = v.subs.length := by have := hlen2.out; omega
        clear hkj
        repeat' (first | (with_reducible refine And.intro ?_ ?_) | (with_reducible refine gK_i (fun _ => ?_) (fun _ => ?_)) | (with_reducible refine condS_i (fun _ => ?_) (fun _ => ?_)) | (with_reducible refine drw_i (by kernel_rfl)) | simp -dsimp only [go_sem, ↓reduceIte, reduceCtorEq, Nat.reduceAdd, Nat.reduceMul, Nat.reduceSub, Nat.reduceLeDiff, Nat.reduceLT, Nat.reduceEqDiff, Int.reduceLE, Int.reduceLT, Int.reduceToNat, Int.reduceBEq, Int.reduceBNe, Int.reduceEq, Int.reduceAdd, Int.reduceSub, Int.reduceMul, Int.reduceNeg, Int.cast_ofNat_Int, *, encV, Int.lt_irrefl] | ((with_reducible refine opK_c ?_); simp -dsimp only [go_sem, ↓reduceIte, reduceCtorEq, Nat.reduceAdd, Nat.reduceMul, Nat.reduceSub, Nat.reduceLeDiff, Nat.reduceLT, Nat.reduceEqDiff, Int.reduceLE, Int.reduceLT, Int.reduceToNat, Int.reduceBEq, Int.reduceBNe, Int.reduceEq, Int.reduceAdd, Int.reduceSub, Int.reduceMul, Int.reduceNeg, Int.cast_ofNat_Int, encV, Int.lt_irrefl]; first | refine callK_r (by first | assumption | fail) (by first | exact .inl rfl | exact .inr rfl) ?_ | (refine callK_i (by assumption) ?_ ?_ ?_; (solve | (repeat (first | exact DLe.refl _ | exact DLe.nil _ | (refine DLe.tup ?_) | (refine DLe.agg ?_ rfl) | exact trivial | (refine And.intro ?_ ?_)))); (solve | exact .inl rfl | exact .inr rfl))) | fail | omega | exact decide_eq_true (by omega) | exact DLe.refl _)
        rw [List.take_length]
        exact weak_eq rfl rfl
end Go.Proofs.YtdcjeacphbfmjaaGreat
namespace Go.Proofs.YtdcjeacphbfmjaaGreat
open Go Go.RowKit Go.Proofs Go.ChangeShapes Go.WideShapes Go.Deep
section
variable {H : Type} {enc : TypeId × Value → H} {P : Program} {w : World} {base : Nat} {spare : Nat → Bool} {held : Bool}
/-- Whatever is read as of type t is an R. -/
def Rd {α : Type} (enc : TypeId × Value → H) (P : Program) (w : World) (base : Nat) (spare : Nat → Bool) (held : Bool) (t : TypeId) (R : List Value → α → Prop) : Prop :=
  ∀ fuel cs x, DataW.trod enc P w base spare held fuel t cs = some x → ∃ a, R cs a
theorem Rd.map {α β : Type} {t : TypeId} {R : List Value → α → Prop} {R' : List Value → β → Prop} (h : Rd enc P w base spare held t R) (f : α → β) (hf : ∀ cs a, R cs a → R' cs (f a)) : Rd enc P w base spare held t R' := by
  intro fuel cs x hx
  obtain ⟨a, ha⟩ := h fuel cs x hx
  exact ⟨f a, hf _ _ ha⟩
def in64 (n : Int) : Prop := -9223372036854775808 ≤ n ∧ n ≤ 9223372036854775807
def IntR (cs : List Value) (n : Int) : Prop := cs = [.int .i64 n] ∧ in64 n
theorem in64_wf {n : Int} (h : (Lit.int .i64 n).wf = true) : in64 n := by
  simp only [Lit.wf, Bool.and_eq_true, decide_eq_true_eq] at h
  have h1 : IntKind.i64.min = -9223372036854775808 := rfl
  have h2 : IntKind.i64.max = 9223372036854775807 := rfl
  rw [h1, h2] at h
  exact h
theorem rd_int {t : TypeId} (ht : P.underlying t = some (.int .i64)) : Rd enc P w base spare held t IntR := by
  intro fuel cs x hx
  obtain ⟨n, h, _, hw⟩ := DataW.trod_int ht hx
  exact ⟨n, h, in64_wf hw⟩
theorem rd_field {α : Type} {t : TypeId} {fs : Array Field} {fuel : Nat} {cs : List Value} {x : DataW H × List MemPlace} (ht : P.underlying t = some (.struct fs)) (h : DataW.trod enc P w base spare held fuel t cs = some x)
    (j : Nat) {f : Field} (hf : fs[j]? = some f) {R : List Value → α → Prop} (hr : Rd enc P w base spare held f.type R) : ∃ a, R ((cs.drop f.offset).take (P.cellsOf f.type)) a := by
  obtain ⟨xs, n, _, _, _, hlen, hg⟩ := DataW.trod_struct ht h
  have h1 := hg j f hf
  have hj : j < xs.length := by rw [hlen]; exact (Array.getElem?_eq_some_iff.1 hf).1
  rw [List.getElem?_eq_getElem hj] at h1
  exact hr _ _ _ h1
theorem rd_len {t : TypeId} {fs : Array Field} {fuel : Nat} {cs : List Value} {x : DataW H × List MemPlace} (ht : P.underlying t = some (.struct fs)) (h : DataW.trod enc P w base spare held fuel t cs = some x) : cs.length = P.cellsOf t := by
  obtain ⟨_, _, _, _, h, _⟩ := DataW.trod_struct ht h
  exact h
theorem pick_list {α : Type} {Q : Nat → α → Prop} : ∀ (n : Nat), (∀ i, i < n → ∃ a, Q i a) → ∃ l : List α, l.length = n ∧ ∀ i (h : i < l.length), Q i l[i]
  | 0, _ => ⟨[], rfl, fun i h => by simp at h⟩
  | n + 1, h => by
    obtain ⟨l, hl, hq⟩ := pick_list n fun i hi => h i (by omega)
    obtain ⟨a, ha⟩ := h n (by omega)
    refine ⟨l ++ [a], by simp [hl], fun i hi => ?_⟩
    rcases Nat.lt_or_ge i l.length with h1 | h1
    · rw [List.getElem_append_left h1]; exact hq i h1
    · have : i = n := by simp at hi; omega
      subst this
      rw [List.getElem_append_right h1]
      simpa using ha
/-- What came in lies below the heap's size. -/
def inW (w : World) : Area := fun b => b < w.heap.size
theorem arg_int {r : Reach} {b0 : Nat} {t : TypeId} {v : Value} {d : DataW H} {p : List MemPlace} (ht : P.underlying t = some (.int .i64)) (hval : Value.okWide P w r b0 t v) (hd : DataW.Trod enc P w base spare held t v d p) : ∃ n, v = .int .i64 n ∧ in64 n := by
  obtain ⟨n, h, _, _, hw⟩ := open_int ht hval hd
  exact ⟨n, h, in64_wf hw⟩
theorem trod_lts {t : TypeId} {v : Value} {d : DataW H} {p : List MemPlace} (h : DataW.Trod enc P w base spare held t v d p) : ∀ x ∈ p, x.block < w.heap.size := by
  obtain ⟨m, hm⟩ := h
  exact DataW.trod_lt m _ _ _ hm
end
end Go.Proofs.YtdcjeacphbfmjaaGreat
namespace Go.Proofs.YtdcjeacphbfmjaaGreat
open Go Go.RowKit Go.Proofs Go.Shelf
/-- A row's cells, the first of which is an integer. -/
structure SRow (sz : Nat) where
  xs : List Value
  len : xs.length = sz
  one : ∀ v ∈ xs, v.oneCell' = true
  key : Int
  head : xs[0]? = some (.int .i64 key)
def cfS {sz : Nat} (x y : SRow sz) : Int := cmpI x.key y.key
theorem ltS {sz : Nat} (x y : SRow sz) : ltOf cfS x y = decide (x.key < y.key) := cmpI_neg _ _
theorem swoS {sz : Nat} : Sort.SWO (ltOf (cfS (sz := sz))) where
  irrefl x := by rw [ltS]; simp
  trans x y z h1 h2 := by rw [ltS] at *; simp at *; omega
  ntrans x y z h1 h2 := by rw [ltS] at *; simp at *; omega
@[reducible] def srow_inh (n : Nat) : Inhabited (SRow (n + 1)) := ⟨⟨List.replicate (n + 1) (.int .i64 0), by simp, fun v hv => by rw [List.eq_of_mem_replicate hv]; rfl, 0, by simp⟩⟩
theorem putCells_take (F cur : Array Value) (h : F.size ≤ cur.size) : (Sort.putCells id 0 F cur).toList.take F.size = F.toList ∧ (Sort.putCells id 0 F cur).size = cur.size := by
  refine ⟨?_, by simp [Sort.putCells]⟩
  apply List.ext_getElem?
  intro i
  by_cases hi : i < F.size
  · rw [List.getElem?_take_of_lt hi]
    have hc : i < cur.size := by omega
    simp [Sort.putCells, hi, hc]
  · rw [List.getElem?_eq_none (by rw [List.length_take]; omega), List.getElem?_eq_none (by simp; omega)]
theorem flatK_rows {sz : Nat} (n : Nat) (hs : sz = n + 1) [Inhabited (SRow sz)] (d : Array (SRow sz)) : (Sort.flatK (fun r : SRow sz => r.xs) sz d).toList = (d.toList.map (·.xs)).flatten := by
  have hrow : ∀ r ∈ d.toList.map (·.xs), r.length = sz := fun r hr => by
    obtain ⟨x, -, rfl⟩ := List.mem_map.1 hr; exact x.len
  have hlen : (d.toList.map (·.xs)).flatten.length = d.size * sz := by rw [flatten_len hrow]; simp
  apply List.ext_getElem?
  intro t
  by_cases ht : t < d.size * sz
  · have h1 : t / sz < d.size := Nat.div_lt_of_lt_mul (by rw [Nat.mul_comm]; exact ht)
    have h2 : t % sz < sz := Nat.mod_lt _ (by omega)
    have h3 : t / sz * sz + t % sz = t := by rw [Nat.mul_comm]; exact Nat.div_add_mod t sz
    have h4 := flatten_atG hrow (t / sz) (t % sz) h2
    rw [h3] at h4
    rw [h4]
    have h5 := Sort.get_flatK (fun r : SRow sz => r.xs) sz d t ht
    have h6 : t < (Sort.flatK (fun r : SRow sz => r.xs) sz d).size := by rw [Sort.size_flatK]; exact ht
    rw [getElem!_pos (Sort.flatK (fun r : SRow sz => r.xs) sz d) t h6] at h5
    rw [Array.getElem?_toList, Array.getElem?_eq_getElem h6, h5]
    have hl : (d[t / sz]).xs.length = sz := (d[t / sz]).len
    have e7 : (d[t / sz]).xs[t % sz]? = some ((d[t / sz]).xs[t % sz]!) := by
      rw [getElem!_pos (d[t / sz]).xs (t % sz) (by rw [hl]; exact h2)]
      exact List.getElem?_eq_getElem _
    rw [getElem!_pos d (t / sz) h1]
    rw [List.getElem?_map, Array.getElem?_toList, Array.getElem?_eq_getElem h1]
    simp only [Option.map_some, Option.bind_some]
    exact e7.symm
  · rw [List.getElem?_eq_none (by simp; omega), List.getElem?_eq_none (by omega)]
/-- Sorting, said of rows of values. -/
theorem sort_raw {P : Program} {ρ : Ren} (L : SlLaysF0.n6 P ρ) {f fc E n : Nat} (hf : ρ.f 6 = f) (aE : ∀ w, (isAgg (ρ.t 24)).run P w = .ok true w) (zE : ∀ w, (Go.sizeOf (ρ.t 24)).run P w = .ok (n + 1) w) (eg : ∀ args w, (callFunc fc args).run P w = .ok (.enter fc args) w)
    (hcmp : ∀ (x y : SRow (n + 1)) (W : World), Calls P fc #[.agg x.xs.toArray, .agg y.xs.toArray] W fun e w' => e = .returned (.int .i64 (cfS x y)) ∧ ∃ q os', w' = Sort.grow (W.drewN q) os')
    (ds : List (SRow (n + 1))) (w : World) (gb cap : Nat) (cur : Array Value) (hh : w.heap[gb]? = some (.cells cur E (0, 0))) (hc : cur.toList.take (ds.length * (n + 1)) = (ds.map (·.xs)).flatten) (hsz : ds.length * (n + 1) ≤ cur.size) (hl : ds.length ≤ 1000000) :
    Calls P f #[.slice (some ⟨gb, 0, none⟩) ds.length cap, .func (.func fc) #[] #[]] w fun e w' => e = .returned (.tuple #[]) ∧ ∃ (ds' : List (SRow (n + 1))) (cur' : Array Value), ds'.Perm ds ∧ ds'.Pairwise (fun x y => x.key ≤ y.key) ∧ w'.heap[gb]? = some (.cells cur' E (0, 0)) ∧ cur'.size = cur.size ∧
      cur'.toList.take (ds.length * (n + 1)) = (ds'.map (·.xs)).flatten ∧ OneB w w' (some gb) := by
  have inh := srow_inh n
  have hg : gb < w.heap.size := (Array.getElem?_eq_some_iff.1 hh).1
  have hfl := flatK_rows n rfl ds.toArray
  rw [List.toList_toArray] at hfl
  have hH : Sort.HoldsK (fun r : SRow (n + 1) => r.xs) (n + 1) w gb 0 ds.toArray := by
    intro t ht
    have ht2 := ht
    rw [Sort.size_flatK, List.size_toArray] at ht2
    refine ⟨?_, free_of_block hh⟩
    have hcell : ∀ o, w.cell? ⟨gb, o, none⟩ = cur[o]? := fun o => by simp [World.cell?, hh]
    rw [Nat.zero_add, hcell]
    have h1 : (cur.toList.take (ds.length * (n + 1)))[t]? = cur[t]? := by rw [List.getElem?_take_of_lt ht2]; simp
    rw [← h1, hc, ← hfl, Array.getElem?_toList, getElem!_pos (Sort.flatK (fun r : SRow (n + 1) => r.xs) (n + 1) ds.toArray) t ht, Array.getElem?_eq_getElem ht]
    rfl
  have hcon := AnyQ.slices_SortFunc L (n + 1) aE zE (fun r : SRow (n + 1) => r.xs) (·.len) (·.one) cfS swoS fc #[] gb 0 cap ds.toArray w eg (fun _ _ _ _ x y => hcmp x y _) hH hg (by simp; omega)
  rw [hf, List.size_toArray] at hcon
  refine Calls.mono hcon ?_
  rintro e w' ⟨rfl, d', m, os, ⟨hp1, -, hp⟩, hs, rfl⟩
  replace hp1 : d'.size = ds.length := by simpa using hp1
  have hF : (Sort.flatK (fun r : SRow (n + 1) => r.xs) (n + 1) d').size ≤ cur.size := by rw [Sort.size_flatK, hp1]; exact hsz
  obtain ⟨p1, p2⟩ := putCells_take (Sort.flatK (fun r : SRow (n + 1) => r.xs) (n + 1) d') cur hF
  refine ⟨rfl, d'.toList, Sort.putCells id 0 (Sort.flatK (fun r : SRow (n + 1) => r.xs) (n + 1) d') cur, ?_, ?_, ?_, p2, ?_, ?_⟩
  · have e1 : d'.extract 0 ds.length = d' := by rw [← hp1]; exact Array.extract_size
    have e2 : ds.toArray.extract 0 ds.length = ds.toArray := by simp
    rw [e1, e2] at hp
    simpa using hp
  · rw [List.pairwise_iff_getElem]
    intro i j hi hj hij
    have hj' : j < d'.size := by simpa using hj
    have := hs i j (Nat.zero_le _) hij (by omega)
    rw [ltS, getElem!_pos d' i (by omega), getElem!_pos d' j hj'] at this
    simpa using this
  · show (Sort.grow (Sort.putRow id (Sort.ahead w m) gb 0 (Sort.flatK (fun r : SRow (n + 1) => r.xs) (n + 1) d')) os).heap[gb]? = _
    rw [Sort.heap_grow_old _ _ (by simpa using hg)]
    show (w.heap.modify gb (Sort.onCells _))[gb]? = _
    rw [Array.getElem?_modify, if_pos rfl, hh]
    rfl
  · rw [show ds.length * (n + 1) = (Sort.flatK (fun r : SRow (n + 1) => r.xs) (n + 1) d').size by rw [Sort.size_flatK, hp1], p1, flatK_rows n rfl]
  · refine ⟨rfl, rfl, rfl, ?_, fun b hb hne => ?_⟩
    · show w.heap.size ≤ (Sort.grow (Sort.putRow id (Sort.ahead w m) gb 0 _) os).heap.size
      rw [Sort.size_grow, Sort.size_putRow, Sort.heap_ahead]; omega
    · show (Sort.grow (Sort.putRow id (Sort.ahead w m) gb 0 (Sort.flatK (fun r : SRow (n + 1) => r.xs) (n + 1) d')) os).heap[b]? = _
      rw [Sort.heap_grow_old _ _ (by simpa using hb)]
      show (w.heap.modify gb (Sort.onCells _))[b]? = _
      rw [Array.getElem?_modify, if_neg (fun e => hne (by rw [e]))]
theorem key_sort {α β : Type} {ka : α → Int} {kb : β → Int} {l l' : List α} {d d' : List β} (hk : d.map kb = l.map ka) (hp : l'.Perm l) (hs : l'.Pairwise fun x y => ka x < ka y) (hq : d'.Perm d) (ht : d'.Pairwise fun x y => kb x ≤ kb y) : d'.map kb = l'.map ka :=
  List.Perm.eq_of_pairwise (le := fun x y : Int => x ≤ y) (fun a b _ _ h1 h2 => by omega) (by rw [List.pairwise_map]; exact ht) (by rw [List.pairwise_map]; exact hs.imp fun h => by omega) ((hq.map kb).trans (by rw [hk]; exact (hp.map ka).symm))
set_option maxHeartbeats 1000000 in
/-- slices.SortFunc, where the first integers are all different. -/
theorem sort_ms {P : Program} {ρ : Ren} (L : SlLaysF0.n6 P ρ) {f fc E n g : Nat} (hf : ρ.f 6 = f) (hfn : FnOK P f) (aE : ∀ w, (isAgg (ρ.t 24)).run P w = .ok true w) (zE : ∀ w, (Go.sizeOf (ρ.t 24)).run P w = .ok (n + 1) w) (eg : ∀ args w, (callFunc fc args).run P w = .ok (.enter fc args) w)
    (hcmp : ∀ (x y : SRow (n + 1)) (W : World), Calls P fc #[.agg x.xs.toArray, .agg y.xs.toArray] W fun e w' => e = .returned (.int .i64 (cfS x y)) ∧ ∃ q os', w' = Sort.grow (W.drewN q) os')
    {α : Type} (enc : α → List D) (key : α → Int) (hkey : ∀ x, (enc x)[0]? = some (.v (.int .i64 (key x)))) {l l' : List α} (hl0 : l ≠ []) (hp : l'.Perm l) (hs : l'.Pairwise fun x y => key x < key y) (hsz : l.length ≤ 1000000) :
    MSpec P f [.own 0 g, .d (.clo fc [])] [.row E (n + 1) g (dRows (l.map enc))] (.d (.tup [])) [.row E (n + 1) g (dRows (l'.map enc))] := by
  refine ⟨hfn, Nat.le_refl _, by simp [belowL, belowP], by simp [belowH, belowC, belowR_d], fun X hP hn hm w c vs hr hps => ?_⟩
  have hlen := hps.1
  match vs, hlen with
  | [v0, v1], _ =>
    have r0 := hps.2 0 _ v0 rfl rfl
    have r1 := repD_inv (hps.2 1 _ v1 rfl rfl)
    have hne : dRows (l.map enc) ≠ [] := by simpa [dRows] using hl0
    have hck := hr.chunk 0
    cases r0 with
    | own _ _ _ hov h1 =>
      obtain ⟨gb, cap, rfl⟩ := own_some hck hov hne
      obtain ⟨cur, xs, q1, q2, q3, q4, q5, q6, q7, q8, q9, q10, q11⟩ := row_cells hck hov hne
      have hxone := RepPs.one q2 (fun d hd => by obtain ⟨r, hr, hd⟩ := List.mem_flatten.1 hd; exact q6 r hr d hd)
      have hln : (dRows (l.map enc)).length = l.length := by rw [dRows_len, List.length_map]
      rw [hln] at q3 q4 q8 q10 hov ⊢
      have hv1 : v1 = .func (.func fc) #[] #[] := by
        cases r1 with
        | clo _ _ vs hl hrep =>
          have : vs = [] := by simpa using hl.symm
          subst this
          rfl
      subst hv1
      have hxs : cur.toList.take (l.length * (n + 1)) = xs := by
        apply List.ext_getElem?
        intro j
        by_cases hj : j < l.length * (n + 1)
        · rw [List.getElem?_take_of_lt hj, Array.getElem?_toList, q4 j hj]
        · rw [List.getElem?_eq_none (by rw [List.length_take]; omega), List.getElem?_eq_none (by omega)]
      -- the rows, as values
      obtain ⟨ds, hdl, hds⟩ := pick_list (Q := fun i (r : SRow (n + 1)) => r.xs = (xs.drop (i * (n + 1))).take (n + 1) ∧ ∃ x, l[i]? = some x ∧ r.key = key x) l.length fun i hi => by
        have hb : (i + 1) * (n + 1) ≤ l.length * (n + 1) := Nat.mul_le_mul_right _ hi
        rw [Nat.succ_mul] at hb
        obtain ⟨x, hx⟩ : ∃ x, l[i]? = some x := ⟨_, List.getElem?_eq_getElem hi⟩
        have h0 : xs[i * (n + 1)]? = some (.int .i64 (key x)) := by
          have hfl := flatten_atG q5 i 0 (Nat.zero_lt_succ n)
          rw [dRows_get, List.getElem?_map, hx] at hfl
          simp only [Option.map_some, Option.bind_some, List.getElem?_map, hkey, Nat.add_zero] at hfl
          obtain ⟨u, hu⟩ : ∃ u, xs[i * (n + 1)]? = some u := ⟨_, List.getElem?_eq_getElem (by omega)⟩
          have := q2.2 _ _ u hfl hu
          rw [hu]
          cases repD_inv this
          rfl
        exact ⟨⟨(xs.drop (i * (n + 1))).take (n + 1), by rw [List.length_take, List.length_drop]; omega, fun v hv => hxone v (List.mem_of_mem_drop (List.mem_of_mem_take hv)), key x, by rw [List.getElem?_take_of_lt (Nat.zero_lt_succ n), List.getElem?_drop]; exact h0⟩, rfl, x, hx, rfl⟩
      have hdrow : ∀ r ∈ ds.map (·.xs), r.length = n + 1 := fun r hr => by obtain ⟨x, -, rfl⟩ := List.mem_map.1 hr; exact x.len
      have hflat : (ds.map (·.xs)).flatten = xs := by
        apply List.ext_getElem?
        intro t
        by_cases ht : t < l.length * (n + 1)
        · have h1 : t / (n + 1) < l.length := Nat.div_lt_of_lt_mul (by rw [Nat.mul_comm]; exact ht)
          have h2 : t % (n + 1) < n + 1 := Nat.mod_lt _ (by omega)
          have h3 : t / (n + 1) * (n + 1) + t % (n + 1) = t := by rw [Nat.mul_comm]; exact Nat.div_add_mod t (n + 1)
          generalize t / (n + 1) = i at h1 h3
          generalize t % (n + 1) = j at h2 h3
          have h4 := flatten_atG hdrow i j h2
          rw [h3, List.getElem?_map, List.getElem?_eq_getElem (show i < ds.length by omega)] at h4
          rw [h4]
          simp only [Option.map_some, Option.bind_some]
          rw [(hds _ (show i < ds.length by omega)).1, List.getElem?_take_of_lt h2, List.getElem?_drop, h3]
        · rw [List.getElem?_eq_none (by rw [flatten_len hdrow, List.length_map, hdl]; omega), List.getElem?_eq_none (by omega)]
      have hkm : ds.map (·.key) = l.map key := by
        apply List.ext_getElem?
        intro i
        rw [List.getElem?_map, List.getElem?_map]
        by_cases hi : i < l.length
        · obtain ⟨-, x, hx, hk⟩ := hds i (by omega)
          rw [List.getElem?_eq_getElem (by omega), hx]
          simp [hk]
        · rw [List.getElem?_eq_none (show ds.length ≤ i by omega), List.getElem?_eq_none (show l.length ≤ i by omega)]; rfl
      have hcall := sort_raw L hf aE zE eg hcmp ds w gb cap cur q1 (by rw [hdl, hxs, hflat]) (by rw [hdl]; exact q8) (by omega)
      rw [hdl] at hcall
      rw [← hP] at hcall
      rw [hP] at hcall
      refine hcall.mono fun e w' ⟨he, ds', cur', hp', hs', hw', hcs, hct, hone⟩ => ?_
      have hkk := key_sort (ka := key) (kb := SRow.key) hkm hp hs hp' hs'
      have hdl' : ds'.length = l.length := by rw [hp'.length_eq, hdl]
      have hll' : l'.length = l.length := hp.length_eq
      have hdrow' : ∀ r ∈ ds'.map (·.xs), r.length = n + 1 := fun r hr => by obtain ⟨x, -, rfl⟩ := List.mem_map.1 hr; exact x.len
      have hin2 : ∀ r ∈ dRows (l'.map enc), r.length = n + 1 := fun r hr => by
        obtain ⟨q, hq, rfl⟩ := dRows_mem hr
        obtain ⟨x, hx, rfl⟩ := List.mem_map.1 hq
        exact q5 _ (List.mem_map.2 ⟨enc x, List.mem_map.2 ⟨x, hp.mem_iff.1 hx, rfl⟩, rfl⟩)
      have hin3 : ∀ r ∈ dRows (l'.map enc), ∀ d ∈ r, d.one = true := fun r hr d hd => by
        obtain ⟨q, hq, rfl⟩ := dRows_mem hr
        obtain ⟨x, hx, rfl⟩ := List.mem_map.1 hq
        exact q6 _ (List.mem_map.2 ⟨enc x, List.mem_map.2 ⟨x, hp.mem_iff.1 hx, rfl⟩, rfl⟩) d hd
      have hnd : ∀ i j (hi : i < l.length) (hj : j < l.length), key l[i] = key l[j] → i = j := by
        have h1 : (l'.map key).Nodup := by
          unfold List.Nodup
          rw [List.pairwise_map]
          exact hs.imp fun h => by omega
        have h2 : (l.map key).Nodup := (hp.map key).nodup_iff.1 h1
        intro i j hi hj h
        rw [List.nodup_iff_pairwise_ne, List.pairwise_iff_getElem] at h2
        rcases Nat.lt_trichotomy i j with hlt | he | hlt
        · exact absurd (by rw [List.getElem_map, List.getElem_map]; exact h) (h2 i j (by simpa using hi) (by simpa using hj) hlt)
        · exact he
        · exact absurd (by rw [List.getElem_map, List.getElem_map]; exact h.symm) (h2 j i (by simpa using hj) (by simpa using hi) hlt)
      have hrep' : RepPs c w (dRows (l'.map enc)).flatten (ds'.map (·.xs)).flatten := by
        refine ⟨by rw [flatten_len hin2, flatten_len hdrow', dRows_len, List.length_map, List.length_map, hdl', hll'], fun t d u ht hu => ?_⟩
        have htl : t < l.length * (n + 1) := by
          have := (List.getElem?_eq_some_iff.1 hu).1
          rw [flatten_len hdrow', List.length_map, hdl'] at this
          exact this
        have h1 : t / (n + 1) < l.length := Nat.div_lt_of_lt_mul (by rw [Nat.mul_comm]; exact htl)
        have h2 : t % (n + 1) < n + 1 := Nat.mod_lt _ (by omega)
        have h3 : t / (n + 1) * (n + 1) + t % (n + 1) = t := by rw [Nat.mul_comm]; exact Nat.div_add_mod t (n + 1)
        generalize t / (n + 1) = i at h1 h3
        generalize t % (n + 1) = j at h2 h3
        have e1 := flatten_atG hin2 (i) (j) h2
        have e2 := flatten_atG hdrow' (i) (j) h2
        rw [h3, dRows_get, List.getElem?_map, List.getElem?_eq_getElem (l := l') (show i < l'.length by omega)] at e1
        rw [h3, List.getElem?_map, List.getElem?_eq_getElem (l := ds') (show i < ds'.length by omega)] at e2
        simp only [Option.map_some, Option.bind_some] at e1 e2
        obtain ⟨p, hpl, hpe⟩ := List.mem_iff_getElem.1 (hp'.mem_iff.1 (List.getElem_mem (show i < ds'.length by omega)))
        obtain ⟨p2, hpl2, hpe2⟩ := List.mem_iff_getElem.1 (hp.mem_iff.1 (List.getElem_mem (show i < l'.length by omega)))
        obtain ⟨g1, x, g2, g3⟩ := hds p hpl
        have hx : l[p]'(by omega) = x := by rw [List.getElem?_eq_getElem (by omega)] at g2; exact Option.some.inj g2
        have hkey2 : (ds'[i]'(by omega)).key = key (l'[i]'(by omega)) := by
          have := congrArg (fun z : List Int => z[i]?) hkk
          simp only [List.getElem?_map] at this
          rw [List.getElem?_eq_getElem (by omega), List.getElem?_eq_getElem (by omega)] at this
          exact Option.some.inj this
        have hpp : p = p2 := hnd p p2 (by omega) hpl2 (by rw [hpe2, ← hkey2, ← hpe, g3, hx])
        subst hpp
        rw [← hpe2, hx] at e1
        rw [← hpe, g1, List.getElem?_take_of_lt h2, List.getElem?_drop] at e2
        have e3 := flatten_atG q5 p (j) h2
        rw [dRows_get, List.getElem?_map, g2] at e3
        simp only [Option.map_some, Option.bind_some] at e3
        rw [← e3] at e1
        rw [e1] at ht
        rw [e2] at hu
        exact q2.2 _ d u ht hu
      have hcap : 0 < cap := by have := List.length_pos_iff.2 hl0; omega
      have hput := hr.put_row (w' := w') (k := 0) (rows' := dRows (l'.map enc)) (xs' := (ds'.map (·.xs)).flatten) rfl hov (by rw [ownB_pos hcap]; exact hone) (by
        rw [dRows_len, List.length_map, hll']
        exact .row gb l.length cap cur' _ hcap hw' q10 q9 (by rw [hcs]; exact q11) (by rw [flatten_len hdrow', List.length_map, hdl']) hct) hrep' hin2 hin3
      have hfun : effH [(0, Chunk.row E (n + 1) g (dRows (l'.map enc)))] (mkF [] [.row E (n + 1) g (dRows (l.map enc))]).heap = hatL [.row E (n + 1) g (dRows (l'.map enc))] := by
        funext k
        rw [effH1]
        cases k with
        | zero => rfl
        | succ k => rfl
      rw [hfun] at hput
      refine ⟨_, c, he, .d _ _ (.tup [] [] rfl fun j d x h => by simp at h), hput⟩
end Go.Proofs.YtdcjeacphbfmjaaGreat
namespace Go.Proofs.YtdcjeacphbfmjaaGreat
open Go Go.RowKit Go.Proofs Go.Shelf
set_option maxRecDepth 100000
theorem isNaN_any (a : Int) (W : World) : Calls Tryz.prog 77 #[.int .i64 a] W fun e w' => e = .returned (.bool false) ∧ w' = W := by
  go_enter Tryz.func77, Tryz.ntmps77
  go_wp2_with fail
  go_ret
  exact ⟨ret_bool (by simp), rfl⟩
theorem compare_any (a b : Int) (W : World) : Calls Tryz.prog 34 #[.int .i64 a, .int .i64 b] W fun e w' => e = .returned (.int .i64 (cmpI a b)) ∧ w' = W := by
  by_cases h : a < b
  · have e : cmpI a b = -1 := by simp [cmpI, h]
    rw [e]
    go_enter Tryz.func34, Tryz.ntmps34
    go_wp2_with fail
    refine (isNaN_any a _).mono ?_
    rintro e w1 ⟨rfl, rfl⟩
    go_wp2_with fail
    refine (isNaN_any b _).mono ?_
    rintro e w1 ⟨rfl, rfl⟩
    go_wp2_with fail
    go_ret
    exact ⟨ret_int rfl, rfl⟩
  · by_cases h2 : b < a
    · have e : cmpI a b = 1 := by simp [cmpI, h, h2]
      rw [e]
      go_enter Tryz.func34, Tryz.ntmps34
      go_wp2_with fail
      refine (isNaN_any a _).mono ?_
      rintro e w1 ⟨rfl, rfl⟩
      go_wp2_with fail
      refine (isNaN_any b _).mono ?_
      rintro e w1 ⟨rfl, rfl⟩
      go_wp2_with fail
      go_ret
      exact ⟨ret_int rfl, rfl⟩
    · have e : cmpI a b = 0 := by simp [cmpI, h, h2]
      rw [e]
      go_enter Tryz.func34, Tryz.ntmps34
      go_wp2_with fail
      refine (isNaN_any a _).mono ?_
      rintro e w1 ⟨rfl, rfl⟩
      go_wp2_with fail
      refine (isNaN_any b _).mono ?_
      rintro e w1 ⟨rfl, rfl⟩
      go_wp2_with fail
      go_ret
      exact ⟨ret_int rfl, rfl⟩
theorem cl_Range (x y : SRow 3) (W : World) : Calls Tryz.prog 33 #[.agg x.xs.toArray, .agg y.xs.toArray] W fun e w' => e = .returned (.int .i64 (cfS x y)) ∧ ∃ q os', w' = Sort.grow (W.drewN q) os' := by
  obtain ⟨xs, xl, x1, a, xh⟩ := x
  obtain ⟨ys, yl, y1, b, yh⟩ := y
  match xs, xl, ys, yl with
  | [u0, u1, u2], _, [v0, v1, v2], _ =>
    simp at xh yh
    subst xh
    subst yh
    have hc := compare_any a b
    unfold cfS
    simp only
    generalize cmpI a b = r at *
    replace hc := Lib.hid hc
    clear x1 y1
    go_enter Tryz.func33, Tryz.ntmps33
    go_wp2_with fail
    refine (hc.out _).mono ?_
    rintro e w1 ⟨rfl, rfl⟩
    go_wp2_with fail
    go_ret
    exact ⟨ret_int rfl, 0, _, by rw [Sort.alloc_eq_grow, Sort.alloc_eq_grow, Sort.grow_grow]; rfl⟩
theorem sort_Range {l l' : List Rng} (g : Nat) (hl0 : l ≠ []) (hp : l'.Perm l) (hs : l'.Pairwise fun x y => (fun r : Rng => r.at_.at_) x < (fun r : Rng => r.at_.at_) y) (hsz : l.length ≤ 1000000) :
    MSpec Tryz.prog 32 [.own 0 g, .d (.clo 33 [])] [.row 29 3 g (dRows (l.map encG))] (.d (.tup [])) [.row 29 3 g (dRows (l'.map encG))] :=
  sort_ms Tryz.sortRange rfl (fnok_of Tryz.func32 (by kernel_rfl) rfl) Tryz.isAgg29 Tryz.sizeOf29 (enters_of Tryz.func33 (by kernel_rfl) rfl) cl_Range encG (fun r : Rng => r.at_.at_) (fun _ => rfl) hl0 hp hs hsz
theorem cl_Sub (x y : SRow 4) (W : World) : Calls Tryz.prog 61 #[.agg x.xs.toArray, .agg y.xs.toArray] W fun e w' => e = .returned (.int .i64 (cfS x y)) ∧ ∃ q os', w' = Sort.grow (W.drewN q) os' := by
  obtain ⟨xs, xl, x1, a, xh⟩ := x
  obtain ⟨ys, yl, y1, b, yh⟩ := y
  match xs, xl, ys, yl with
  | [u0, u1, u2, u3], _, [v0, v1, v2, v3], _ =>
    simp at xh yh
    subst xh
    subst yh
    have hc := compare_any a b
    unfold cfS
    simp only
    generalize cmpI a b = r at *
    replace hc := Lib.hid hc
    clear x1 y1
    go_enter Tryz.func61, Tryz.ntmps61
    go_wp2_with fail
    refine (hc.out _).mono ?_
    rintro e w1 ⟨rfl, rfl⟩
    go_wp2_with fail
    go_ret
    exact ⟨ret_int rfl, 0, _, by rw [Sort.alloc_eq_grow, Sort.alloc_eq_grow, Sort.grow_grow]; rfl⟩
theorem sort_Sub {l l' : List Sbn} (g : Nat) (hl0 : l ≠ []) (hp : l'.Perm l) (hs : l'.Pairwise fun x y => (fun s : Sbn => s.id) x < (fun s : Sbn => s.id) y) (hsz : l.length ≤ 1000000) :
    MSpec Tryz.prog 60 [.own 0 g, .d (.clo 61 [])] [.row 62 4 g (dRows (l.map encN))] (.d (.tup [])) [.row 62 4 g (dRows (l'.map encN))] :=
  sort_ms Tryz.sortSub rfl (fnok_of Tryz.func60 (by kernel_rfl) rfl) Tryz.isAgg62 Tryz.sizeOf62 (enters_of Tryz.func61 (by kernel_rfl) rfl) cl_Sub encN (fun s : Sbn => s.id) (fun _ => rfl) hl0 hp hs hsz
theorem cl_Face (x y : SRow 2) (W : World) : Calls Tryz.prog 67 #[.agg x.xs.toArray, .agg y.xs.toArray] W fun e w' => e = .returned (.int .i64 (cfS x y)) ∧ ∃ q os', w' = Sort.grow (W.drewN q) os' := by
  obtain ⟨xs, xl, x1, a, xh⟩ := x
  obtain ⟨ys, yl, y1, b, yh⟩ := y
  match xs, xl, ys, yl with
  | [u0, u1], _, [v0, v1], _ =>
    simp at xh yh
    subst xh
    subst yh
    have hc := compare_any a b
    unfold cfS
    simp only
    generalize cmpI a b = r at *
    replace hc := Lib.hid hc
    clear x1 y1
    go_enter Tryz.func67, Tryz.ntmps67
    go_wp2_with fail
    refine (hc.out _).mono ?_
    rintro e w1 ⟨rfl, rfl⟩
    go_wp2_with fail
    go_ret
    exact ⟨ret_int rfl, 0, _, by rw [Sort.alloc_eq_grow, Sort.alloc_eq_grow, Sort.grow_grow]; rfl⟩
theorem sort_Face {l l' : List Fce} (g : Nat) (hl0 : l ≠ []) (hp : l'.Perm l) (hs : l'.Pairwise fun x y => (fun f : Fce => f.id) x < (fun f : Fce => f.id) y) (hsz : l.length ≤ 1000000) :
    MSpec Tryz.prog 66 [.own 0 g, .d (.clo 67 [])] [.row 79 2 g (dRows (l.map encF))] (.d (.tup [])) [.row 79 2 g (dRows (l'.map encF))] :=
  sort_ms Tryz.sortFace rfl (fnok_of Tryz.func66 (by kernel_rfl) rfl) Tryz.isAgg79 Tryz.sizeOf79 (enters_of Tryz.func67 (by kernel_rfl) rfl) cl_Face encF (fun f : Fce => f.id) (fun _ => rfl) hl0 hp hs hsz
end Go.Proofs.YtdcjeacphbfmjaaGreat
namespace Go.Proofs.YtdcjeacphbfmjaaGreat
open Go Go.RowKit
/-- One more, at its place. -/
def insK {α : Type} (key : α → Int) (x : α) (l : List α) : List α := l.take (lbN key (key x) l) ++ x :: l.drop (lbN key (key x) l)
theorem insK_perm {α : Type} (key : α → Int) (x : α) (l : List α) : (insK key x l).Perm (l ++ [x]) := by
  unfold insK
  have h : l ++ [x] = (l.take (lbN key (key x) l) ++ l.drop (lbN key (key x) l)) ++ [x] := by rw [List.take_append_drop]
  rw [h, List.append_assoc]
  refine List.Perm.append_left _ ?_
  exact (List.perm_append_singleton _ _).symm
theorem insK_mem {α : Type} {key : α → Int} {x y : α} {l : List α} : y ∈ insK key x l ↔ y = x ∨ y ∈ l := by
  rw [(insK_perm key x l).mem_iff]; simp [or_comm]
theorem insK_len {α : Type} (key : α → Int) (x : α) (l : List α) : (insK key x l).length = l.length + 1 := by
  rw [(insK_perm key x l).length_eq]; simp
theorem insK_sorted {α : Type} {key : α → Int} {x : α} {l : List α} (hs : l.Pairwise fun a b => key a < key b) (hn : ∀ y ∈ l, key y ≠ key x) : (insK key x l).Pairwise fun a b => key a < key b := by
  have hlow : ∀ y ∈ l.take (lbN key (key x) l), key y < key x := by
    intro y hy
    obtain ⟨i, hi, rfl⟩ := List.mem_iff_getElem.1 hy
    rw [List.getElem_take]
    have := List.not_of_lt_findIdx (show i < lbN key (key x) l by rw [List.length_take] at hi; omega)
    simp at this
    exact this
  have hhigh : ∀ y ∈ l.drop (lbN key (key x) l), key x < key y := by
    intro y hy
    have hym := List.mem_of_mem_drop hy
    obtain ⟨i, hi, rfl⟩ := List.mem_iff_getElem.1 hy
    rw [List.getElem_drop] at hym ⊢
    rw [List.length_drop] at hi
    have hlt : lbN key (key x) l < l.length := by omega
    have h0 := List.findIdx_getElem (xs := l) (p := fun y => decide (key x ≤ key y)) (w := hlt)
    simp only [decide_eq_true_eq] at h0
    change key x ≤ key (l[lbN key (key x) l]'hlt) at h0
    have hne := hn _ hym
    rcases Nat.eq_zero_or_pos i with h | h
    · subst h; simp only [Nat.add_zero] at hne ⊢; omega
    · have := List.pairwise_iff_getElem.1 hs _ (lbN key (key x) l + i) hlt (by omega) (by omega)
      omega
  unfold insK
  rw [List.pairwise_append, List.pairwise_cons]
  refine ⟨hs.sublist (List.take_sublist _ _), ⟨hhigh, hs.sublist (List.drop_sublist _ _)⟩, fun a ha b hb => ?_⟩
  rcases List.mem_cons.1 hb with rfl | hb
  · exact hlow a ha
  · have := hlow a ha; have := hhigh b hb; omega
def Vpc.zero : Vpc := ⟨0, [], []⟩
theorem Vpc.zero_le : DLe (.agg [.v (.int .i64 0), .v (.slice none 0 0), .v (.slice none 0 0)]) (.agg (encV Vpc.zero)) := by repeat (first | exact DLe.refl _ | exact DLe.nil _ | (refine DLe.tup ?_) | (refine DLe.agg ?_ rfl) | exact trivial | (refine And.intro ?_ ?_))
/-- A right network. -/
structure VpcOK (v : Vpc) : Prop where
  n4 : v.ranges.length ≤ 4
  n6 : v.subs.length ≤ 6
  n8 : ∀ s ∈ v.subs, s.faces.length ≤ 8 ∧ ∀ f ∈ s.faces, f.addrs.length ≤ 4
  id : idOK v.id = true
  rr : v.ranges.Pairwise fun a b => a.at_.at_ < b.at_.at_
  rs : v.subs.Pairwise fun a b => a.id < b.id
  ranges : ∀ r ∈ v.ranges, rangeB r = true
  subs : ∀ s ∈ v.subs, subB v s = true
  ar : apaF [] (v.ranges.map (·.at_)) = true
  as_ : apaF [] (v.subs.map (·.at_)) = true
theorem vpcOK {v : Vpc} : chkV v = 0 ↔ manyV v = false ∧ fineV v = true ∧ apaF [] (v.ranges.map (·.at_)) = true ∧ apaF [] (v.subs.map (·.at_)) = true := by
  unfold chkV
  generalize apaF [] (v.ranges.map (·.at_)) = A
  generalize apaF [] (v.subs.map (·.at_)) = B
  cases manyV v <;> cases fineV v <;> cases A <;> cases B <;> simp
theorem vpcOK_of {v : Vpc} (h : chkV v = 0) : VpcOK v := by
  obtain ⟨h1, h2, h3, h4⟩ := vpcOK.1 h
  obtain ⟨a, b, c⟩ := manyV_ok h1
  unfold fineV at h2
  simp only [Bool.and_eq_true, List.all_eq_true, risB_pair] at h2
  exact ⟨a, b, c, h2.1.1, h2.1.2.1, h2.1.2.2, h2.2.1, h2.2.2, h3, h4⟩
theorem rangeB_right {r : Rng} (h : rangeB r = true) : r.at_.right = true := by
  unfold rangeB at h
  simp only [Bool.and_eq_true, beq_iff_eq] at h
  simp [Pfx.right, rightB, h.2]
theorem meets_at {p q : Pfx} (hp : p.right = true) (hq : q.right = true) (h : p.meets q = false) : p.at_ ≠ q.at_ := fun e => by
  have b1 := p.hi_bd hp
  have b2 := q.hi_bd hq
  rw [meets_iff.2 ⟨hp, hq, by omega, by omega⟩] at h
  cases h
def growE (v : Vpc) (r : Rng) : Int :=
  if chk r.at_.at_ r.at_.len ≠ 0 ∨ idOK r.pool = false then 1 else
  if (v.ranges.any fun q => q.at_.meets r.at_) = true then 6 else if v.ranges.length = 4 then 2 else 0
/-- Grow's answer. -/
def growV (v : Vpc) (r : Rng) : Vpc × Int :=
  if chkV v ≠ 0 then (Vpc.zero, chkV v) else if growE v r ≠ 0 then (Vpc.zero, growE v r) else ({ v with ranges := insK (·.at_.at_) r v.ranges }, 0)
theorem grow1_p (q r : Rng) : PSpec Tryz.prog 30 [.agg (encG q), .ept (encG r)] (.v (.bool (q.at_.meets r.at_))) := by
  have hm : PSpec Tryz.prog 31 [.agg (encP q.at_), .agg (encP r.at_)] (.v (.bool (q.at_.meets r.at_))) := meets_p _ _
  refine ps_i tab_ok mixed Tryz.func30 rfl Tryz.ntmps30 Tryz.results30 (by kernel_rfl) ?_
  repeat' (first | (with_reducible refine And.intro ?_ ?_) | (with_reducible refine gK_i (fun _ => ?_) (fun _ => ?_)) | (with_reducible refine condS_i (fun _ => ?_) (fun _ => ?_)) | (with_reducible refine drw_i (by kernel_rfl)) | simp -dsimp only [go_sem, ↓reduceIte, reduceCtorEq, Nat.reduceAdd, Nat.reduceMul, Nat.reduceSub, Nat.reduceLeDiff, Nat.reduceLT, Nat.reduceEqDiff, Int.reduceLE, Int.reduceLT, Int.reduceToNat, Int.reduceBEq, Int.reduceBNe, Int.reduceEq, Int.reduceAdd, Int.reduceSub, Int.reduceMul, Int.reduceNeg, Int.cast_ofNat_Int, *, encG, encP] | ((with_reducible refine opK_c ?_); simp -dsimp only [go_sem, ↓reduceIte, reduceCtorEq, Nat.reduceAdd, Nat.reduceMul, Nat.reduceSub, Nat.reduceLeDiff, Nat.reduceLT, Nat.reduceEqDiff, Int.reduceLE, Int.reduceLT, Int.reduceToNat, Int.reduceBEq, Int.reduceBNe, Int.reduceEq, Int.reduceAdd, Int.reduceSub, Int.reduceMul, Int.reduceNeg, Int.cast_ofNat_Int, encG, encP]; first | refine callK_r (by first | assumption | exact hm) (by first | exact .inl rfl | exact .inr rfl) ?_ | (refine callK_i (by assumption) ?_ ?_ ?_; (solve | (repeat (first | exact DLe.refl _ | exact DLe.nil _ | (refine DLe.tup ?_) | (refine DLe.agg ?_ rfl) | exact trivial | (refine And.intro ?_ ?_)))); (solve | exact .inl rfl | exact .inr rfl))) | fail | omega | exact decide_eq_true (by omega) | exact DLe.refl _)
set_option maxRecDepth 100000 in
set_option maxHeartbeats 1000000 in
theorem vgrow_p (v : Vpc) (r : Rng) : PSpec Tryz.prog 7 [.agg (encV v), .agg (encG r)] (.tup [.agg (encV (growV v r).1), .v (.int .i64 (growV v r).2)]) := by
  obtain ⟨R, hR⟩ : ∃ R, R = growV v r := ⟨_, rfl⟩
  rw [← hR]
  replace hR := Lib.hid hR
  by_cases hc : chkV v = 0
  · have hk := vpcOK_of hc
    have hbg := beginD_m v hc hk.n4 hk.n6 hk.n8
    have hid := vids_p r.pool
    have hck := check_p r.at_
    have hcn := cntf_Range encG_len (fun q => q.at_.meets r.at_) v.ranges 30 [.ept (encG r)] (by have := hk.n4; omega) (fun q _ => grow1_p q r)
    have hR2 : R = if growE v r ≠ 0 then (Vpc.zero, growE v r) else ({ v with ranges := insK (·.at_.at_) r v.ranges }, 0) := by rw [hR.out]; unfold growV; rw [if_neg (by simpa using hc)]
    have hn4 := hk.n4
    by_cases hbad : growE v r ≠ 0
    · rw [if_pos hbad] at hR2
      unfold growE at hR2 hbad
      generalize chk r.at_.at_ r.at_.len = K at *
      generalize idOK r.pool = I at *
      generalize (v.ranges.any fun q => q.at_.meets r.at_) = M at *
      replace hR2 := Lib.hid hR2
      replace hbad := Lib.hid hbad
      clear hR hc hk
      have hl4 : ((v.ranges.length : Int) == 4) = decide (v.ranges.length = 4) := by rw [Bool.eq_iff_iff]; simp; omega
      refine ps_i tab_ok mixed Tryz.func7 rfl Tryz.ntmps7 Tryz.results7 (by kernel_rfl) ?_
      repeat' (first | (with_reducible refine And.intro ?_ ?_) | (with_reducible refine gK_i (fun _ => ?_) (fun _ => ?_)) | (with_reducible refine condS_i (fun _ => ?_) (fun _ => ?_)) | (with_reducible refine drw_i (by kernel_rfl)) | simp -dsimp only [go_sem, ↓reduceIte, reduceCtorEq, Nat.reduceAdd, Nat.reduceMul, Nat.reduceSub, Nat.reduceLeDiff, Nat.reduceLT, Nat.reduceEqDiff, Int.reduceLE, Int.reduceLT, Int.reduceToNat, Int.reduceBEq, Int.reduceBNe, Int.reduceEq, Int.reduceAdd, Int.reduceSub, Int.reduceMul, Int.reduceNeg, Int.cast_ofNat_Int, *, encV, encG, encP, hl4] | ((with_reducible refine opK_c ?_); simp -dsimp only [go_sem, ↓reduceIte, reduceCtorEq, Nat.reduceAdd, Nat.reduceMul, Nat.reduceSub, Nat.reduceLeDiff, Nat.reduceLT, Nat.reduceEqDiff, Int.reduceLE, Int.reduceLT, Int.reduceToNat, Int.reduceBEq, Int.reduceBNe, Int.reduceEq, Int.reduceAdd, Int.reduceSub, Int.reduceMul, Int.reduceNeg, Int.cast_ofNat_Int, encV, encG, encP, hl4]; first | refine callK_r (by first | assumption | exact hid | exact hck | exact hcn) (by first | exact .inl rfl | exact .inr rfl) ?_ | (refine callK_i (by assumption) ?_ ?_ ?_; (solve | (repeat (first | exact DLe.refl _ | exact DLe.nil _ | (refine DLe.tup ?_) | (refine DLe.agg ?_ rfl) | exact trivial | (refine And.intro ?_ ?_)))); (solve | exact .inl rfl | exact .inr rfl))) | (refine opK_M [] (hbg) ?_ ?_ ?_ ?_ ?_ ?_; (solve | rfl | simp only [go_sem, ↓reduceIte, reduceCtorEq, Nat.reduceAdd, Nat.reduceMul, Nat.reduceSub, Nat.reduceLeDiff, Nat.reduceLT, Nat.reduceEqDiff, Int.reduceLE, Int.reduceLT, Int.reduceToNat, Int.reduceBEq, Int.reduceBNe, Int.reduceEq, Int.reduceAdd, Int.reduceSub, Int.reduceMul, Int.reduceNeg, Int.cast_ofNat_Int, encV]); (solve | rfl); (solve | decide); (solve | simp); (solve | simp only [go_sem, ↓reduceIte, reduceCtorEq, Nat.reduceAdd, Nat.reduceMul, Nat.reduceSub, Nat.reduceLeDiff, Nat.reduceLT, Nat.reduceEqDiff, Int.reduceLE, Int.reduceLT, Int.reduceToNat, Int.reduceBEq, Int.reduceBNe, Int.reduceEq, Int.reduceAdd, Int.reduceSub, Int.reduceMul, Int.reduceNeg, Int.cast_ofNat_Int, lentOK, encV])) | omega | exact decide_eq_true (by omega) | exact DLe.refl _)
      all_goals
        have h1 := hR2.out
        have h2 := hbad.out
        clear hid hck hcn hbg
        first
          | (exfalso; grind)
          | (rw [show R = (Vpc.zero, 1) from (by rw [h1]; grind)]; exact (by repeat (first | exact DLe.refl _ | exact DLe.nil _ | (refine DLe.tup ?_) | (refine DLe.agg ?_ rfl) | exact trivial | (refine And.intro ?_ ?_))))
          | (rw [show R = (Vpc.zero, 6) from (by rw [h1]; grind)]; exact (by repeat (first | exact DLe.refl _ | exact DLe.nil _ | (refine DLe.tup ?_) | (refine DLe.agg ?_ rfl) | exact trivial | (refine And.intro ?_ ?_))))
          | (rw [show R = (Vpc.zero, 2) from (by rw [h1]; grind)]; exact (by repeat (first | exact DLe.refl _ | exact DLe.nil _ | (refine DLe.tup ?_) | (refine DLe.agg ?_ rfl) | exact trivial | (refine And.intro ?_ ?_))))
    · rw [if_neg hbad] at hR2
      have hg : growE v r = 0 := by simpa using hbad
      obtain ⟨g1, g2, g3, g4⟩ : chk r.at_.at_ r.at_.len = 0 ∧ idOK r.pool = true ∧ (v.ranges.any fun q => q.at_.meets r.at_) = false ∧ v.ranges.length ≠ 4 := by
        unfold growE at hg
        generalize (v.ranges.any fun q => q.at_.meets r.at_) = M at *
        grind
      have hne : ∀ q ∈ v.ranges, q.at_.at_ ≠ r.at_.at_ := fun q hq => meets_at (rangeB_right (hk.ranges q hq)) (by simp [Pfx.right, rightB, g1]) (by have := List.any_eq_false.1 g3 q hq; simpa using this)
      have hso := sort_Range (l := v.ranges ++ [r]) (l' := insK (·.at_.at_) r v.ranges) 2 (by simp) (insK_perm _ _ _) (insK_sorted hk.rr hne) (by simp; omega)
      rw [g1] at hck
      rw [g2] at hid
      rw [g3] at hcn
      have hl4 : ((v.ranges.length : Int) == 4) = false := by simp; omega
      have hb1 : v.ranges.length + 1 ≤ 100 := by omega
      simp only [List.map_append, List.map_cons, List.map_nil] at hso
      rw [hR2]
      clear hR hR2 hc hk hne hg hbad
      refine ps_i tab_ok mixed Tryz.func7 rfl Tryz.ntmps7 Tryz.results7 (by kernel_rfl) ?_
      repeat' (first | (with_reducible refine And.intro ?_ ?_) | (with_reducible refine gK_i (fun _ => ?_) (fun _ => ?_)) | (with_reducible refine condS_i (fun _ => ?_) (fun _ => ?_)) | (with_reducible refine drw_i (by kernel_rfl)) | simp -dsimp only [go_sem, ↓reduceIte, reduceCtorEq, Nat.reduceAdd, Nat.reduceMul, Nat.reduceSub, Nat.reduceLeDiff, Nat.reduceLT, Nat.reduceEqDiff, Int.reduceLE, Int.reduceLT, Int.reduceToNat, Int.reduceBEq, Int.reduceBNe, Int.reduceEq, Int.reduceAdd, Int.reduceSub, Int.reduceMul, Int.reduceNeg, Int.cast_ofNat_Int, *, encV, encG, encP, hl4, hb1] | ((with_reducible refine opK_c ?_); simp -dsimp only [go_sem, ↓reduceIte, reduceCtorEq, Nat.reduceAdd, Nat.reduceMul, Nat.reduceSub, Nat.reduceLeDiff, Nat.reduceLT, Nat.reduceEqDiff, Int.reduceLE, Int.reduceLT, Int.reduceToNat, Int.reduceBEq, Int.reduceBNe, Int.reduceEq, Int.reduceAdd, Int.reduceSub, Int.reduceMul, Int.reduceNeg, Int.cast_ofNat_Int, encV, encG, encP, hl4, hb1]; first | refine callK_r (by first | assumption | exact hid | exact hck | exact hcn) (by first | exact .inl rfl | exact .inr rfl) ?_ | (refine callK_i (by assumption) ?_ ?_ ?_; (solve | (repeat (first | exact DLe.refl _ | exact DLe.nil _ | (refine DLe.tup ?_) | (refine DLe.agg ?_ rfl) | exact trivial | (refine And.intro ?_ ?_)))); (solve | exact .inl rfl | exact .inr rfl))) | (refine opK_M [] (hbg) ?_ ?_ ?_ ?_ ?_ ?_; (solve | rfl | simp only [go_sem, ↓reduceIte, reduceCtorEq, Nat.reduceAdd, Nat.reduceMul, Nat.reduceSub, Nat.reduceLeDiff, Nat.reduceLT, Nat.reduceEqDiff, Int.reduceLE, Int.reduceLT, Int.reduceToNat, Int.reduceBEq, Int.reduceBNe, Int.reduceEq, Int.reduceAdd, Int.reduceSub, Int.reduceMul, Int.reduceNeg, Int.cast_ofNat_Int, encV]); (solve | rfl); (solve | decide); (solve | simp); (solve | simp only [go_sem, ↓reduceIte, reduceCtorEq, Nat.reduceAdd, Nat.reduceMul, Nat.reduceSub, Nat.reduceLeDiff, Nat.reduceLT, Nat.reduceEqDiff, Int.reduceLE, Int.reduceLT, Int.reduceToNat, Int.reduceBEq, Int.reduceBNe, Int.reduceEq, Int.reduceAdd, Int.reduceSub, Int.reduceMul, Int.reduceNeg, Int.cast_ofNat_Int, lentOK, encV])) | (refine opK_M [4] (hso) ?_ ?_ ?_ ?_ ?_ ?_; (solve | rfl | simp only [go_sem, ↓reduceIte, reduceCtorEq, Nat.reduceAdd, Nat.reduceMul, Nat.reduceSub, Nat.reduceLeDiff, Nat.reduceLT, Nat.reduceEqDiff, Int.reduceLE, Int.reduceLT, Int.reduceToNat, Int.reduceBEq, Int.reduceBNe, Int.reduceEq, Int.reduceAdd, Int.reduceSub, Int.reduceMul, Int.reduceNeg, Int.cast_ofNat_Int, encG]); (solve | rfl); (solve | decide); (solve | simp); (solve | simp only [go_sem, ↓reduceIte, reduceCtorEq, Nat.reduceAdd, Nat.reduceMul, Nat.reduceSub, Nat.reduceLeDiff, Nat.reduceLT, Nat.reduceEqDiff, Int.reduceLE, Int.reduceLT, Int.reduceToNat, Int.reduceBEq, Int.reduceBNe, Int.reduceEq, Int.reduceAdd, Int.reduceSub, Int.reduceMul, Int.reduceNeg, Int.cast_ofNat_Int, lentOK, encG])) | omega | exact decide_eq_true (by omega) | exact DLe.refl _)
  · have hbg := beginE_m v hc
    have h1 : (chkV v != 0) = true := by simpa using hc
    have hr : R = (Vpc.zero, chkV v) := by rw [hR.out]; unfold growV; rw [if_pos hc]
    rw [hr]
    replace hr := Lib.hid hr
    refine ps_i tab_ok mixed Tryz.func7 rfl Tryz.ntmps7 Tryz.results7 (by kernel_rfl) ?_
    repeat' (first | (with_reducible refine And.intro ?_ ?_) | (with_reducible refine gK_i (fun _ => ?_) (fun _ => ?_)) | (with_reducible refine condS_i (fun _ => ?_) (fun _ => ?_)) | (with_reducible refine drw_i (by kernel_rfl)) | simp -dsimp only [go_sem, ↓reduceIte, reduceCtorEq, Nat.reduceAdd, Nat.reduceMul, Nat.reduceSub, Nat.reduceLeDiff, Nat.reduceLT, Nat.reduceEqDiff, Int.reduceLE, Int.reduceLT, Int.reduceToNat, Int.reduceBEq, Int.reduceBNe, Int.reduceEq, Int.reduceAdd, Int.reduceSub, Int.reduceMul, Int.reduceNeg, Int.cast_ofNat_Int, *, encV, encG, h1] | ((with_reducible refine opK_c ?_); simp -dsimp only [go_sem, ↓reduceIte, reduceCtorEq, Nat.reduceAdd, Nat.reduceMul, Nat.reduceSub, Nat.reduceLeDiff, Nat.reduceLT, Nat.reduceEqDiff, Int.reduceLE, Int.reduceLT, Int.reduceToNat, Int.reduceBEq, Int.reduceBNe, Int.reduceEq, Int.reduceAdd, Int.reduceSub, Int.reduceMul, Int.reduceNeg, Int.cast_ofNat_Int, encV, encG, h1]; first | refine callK_r (by first | assumption | fail) (by first | exact .inl rfl | exact .inr rfl) ?_ | (refine callK_i (by assumption) ?_ ?_ ?_; (solve | (repeat (first | exact DLe.refl _ | exact DLe.nil _ | (refine DLe.tup ?_) | (refine DLe.agg ?_ rfl) | exact trivial | (refine And.intro ?_ ?_)))); (solve | exact .inl rfl | exact .inr rfl))) | (refine opK_M [] (hbg) ?_ ?_ ?_ ?_ ?_ ?_; (solve | rfl | simp only [go_sem, ↓reduceIte, reduceCtorEq, Nat.reduceAdd, Nat.reduceMul, Nat.reduceSub, Nat.reduceLeDiff, Nat.reduceLT, Nat.reduceEqDiff, Int.reduceLE, Int.reduceLT, Int.reduceToNat, Int.reduceBEq, Int.reduceBNe, Int.reduceEq, Int.reduceAdd, Int.reduceSub, Int.reduceMul, Int.reduceNeg, Int.cast_ofNat_Int, encV]); (solve | rfl); (solve | decide); (solve | simp); (solve | simp only [go_sem, ↓reduceIte, reduceCtorEq, Nat.reduceAdd, Nat.reduceMul, Nat.reduceSub, Nat.reduceLeDiff, Nat.reduceLT, Nat.reduceEqDiff, Int.reduceLE, Int.reduceLT, Int.reduceToNat, Int.reduceBEq, Int.reduceBNe, Int.reduceEq, Int.reduceAdd, Int.reduceSub, Int.reduceMul, Int.reduceNeg, Int.cast_ofNat_Int, lentOK, encV])) | omega | exact decide_eq_true (by omega) | exact DLe.refl _)
    exact (by repeat (first | exact DLe.refl _ | exact DLe.nil _ | (refine DLe.tup ?_) | (refine DLe.agg ?_ rfl) | exact trivial | (refine And.intro ?_ ?_)))
end Go.Proofs.YtdcjeacphbfmjaaGreat
