/- Each address of a root lies in just one hole or one used block. -/
import Derived.Test.YtflbpkgnadjokaaHoles4
namespace Go.Proofs.Ytflbpkgnadjokaa
open Go Go.RowKit Go.Proofs
def holdQ (a : Int) (q : Pfx) : Bool := holdP q.at_ q.len a
theorem holdQ_iff {q : Pfx} {a : Int} : holdQ a q = true ↔ q.right = true ∧ q.at_ ≤ a ∧ a < q.hi := by
  unfold holdQ; rw [holdP_eq]; exact holdB_iff
theorem apart_count (a : Int) : ∀ (l : List Pfx), l.Pairwise Apart → l.countP (holdQ a) ≤ 1
  | [], _ => by simp
  | x :: t, h => by
    obtain ⟨h1, h2⟩ := List.pairwise_cons.1 h
    rw [List.countP_cons]
    by_cases hx : holdQ a x = true
    · have h0 : t.countP (holdQ a) = 0 := by
        rw [List.countP_eq_zero]
        intro y hy hp
        have := h1 y hy
        unfold Apart at this
        have k1 := (holdQ_iff.1 hx).2
        have k2 := (holdQ_iff.1 hp).2
        omega
      rw [h0, if_pos hx]
      omega
    · rw [if_neg hx]
      exact apart_count a t h2
theorem whole_one {root : Pfx} {us : List Pfx} (h : SpaceOK root us) {a : Int} (h1 : root.at_ ≤ a) (h2 : a < root.hi) : (holesS root us).countP (holdQ a) + us.countP (holdQ a) = 1 := by
  have c1 := apart_count a _ (holesS_sorted h)
  have c2 := apart_count a _ h.apart
  obtain ⟨g1, g2, g3, g4, g5⟩ := root.bd h.rr
  have hrb := root.hi_bd h.rr
  have e16 : szI 16 = 1 := by decide
  have hr : Pfx.right ⟨a, 16⟩ = true := right_of (a := a) (l := 16) (by omega) (by omega) (by omega) (by omega) (by rw [e16]; exact Int.emod_one a)
  have hi : insQ ⟨a, 16⟩ root = true := insQ_iff.2 ⟨hr, h.rr, g2, h1, h2⟩
  have hhi : Pfx.hi ⟨a, 16⟩ = a + 1 := by show a + szI 16 = _; rw [e16]
  by_cases hu : ∃ u ∈ us, holdQ a u = true
  · obtain ⟨u, hu, hp⟩ := hu
    have k2 : 0 < us.countP (holdQ a) := List.countP_pos_iff.2 ⟨u, hu, hp⟩
    have k1 : (holesS root us).countP (holdQ a) = 0 := by
      rw [List.countP_eq_zero]
      intro q hq hqa
      have hf := (holesS_ins h hq).2
      unfold freeP at hf
      rw [Bool.not_eq_true', List.any_eq_false] at hf
      have m1 := holdQ_iff.1 hp
      have m2 := holdQ_iff.1 hqa
      exact hf u hu (meets_iff.2 ⟨m2.1, m1.1, by omega, by omega⟩)
    omega
  · have k2 : us.countP (holdQ a) = 0 := by
      rw [List.countP_eq_zero]
      intro u hu' hp
      exact hu ⟨u, hu', hp⟩
    have hf : freeP us ⟨a, 16⟩ = true := by
      unfold freeP
      rw [Bool.not_eq_true', List.any_eq_false]
      intro u hu' hm
      obtain ⟨_, m2, m3, m4⟩ := meets_iff.1 hm
      rw [hhi] at m4
      exact hu ⟨u, hu', holdQ_iff.2 ⟨m2, by omega, m3⟩⟩
    obtain ⟨q, hq, hqi⟩ := holesS_all h hi hf
    obtain ⟨_, n2, n3, n4⟩ := insQ_hi.1 hqi
    rw [hhi] at n4
    have k1 : 0 < (holesS root us).countP (holdQ a) := List.countP_pos_iff.2 ⟨q, hq, holdQ_iff.2 ⟨n2, n3, by omega⟩⟩
    omega
theorem count_take (a : Int) (l : List Pfx) (k : Nat) (hk : k < l.length) : (l.take (k + 1)).countP (holdQ a) = (l.take k).countP (holdQ a) + (if holdQ a l[k] = true then 1 else 0) := by
  rw [List.take_succ_eq_append_getElem hk, List.countP_append]
  congr 1
  simp [List.countP_cons]
theorem count_bd (a : Int) (l : List Pfx) (k : Nat) : (l.take k).countP (holdQ a) ≤ l.length :=
  Nat.le_trans List.countP_le_length (by rw [List.length_take]; exact Nat.min_le_right _ _)
end Go.Proofs.Ytflbpkgnadjokaa
