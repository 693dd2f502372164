/- Plain facts on spaces: the two checks are one; what a right space is. -/
import Derived.Test.YtflbpkgnadjokaaHoles
import Derived.Test.YtflbpkgnadjokaaSpaceR1
namespace Go.Proofs.Ytflbpkgnadjokaa
open Go Go.RowKit Go.Proofs
def Apart (a b : Pfx) : Prop := a.hi ≤ b.at_
theorem usedOK_iff (root : Pfx) : ∀ (us : List Pfx) (f : Int), usedOK root f us = true ↔ (∀ u ∈ us, insQ u root = true) ∧ (∀ u ∈ us, f ≤ u.at_) ∧ us.Pairwise Apart
  | [], f => by simp [usedOK]
  | p :: ps, f => by
    rw [usedOK_cons, Bool.and_eq_true, Bool.and_eq_true, decide_eq_true_eq, usedOK_iff root ps, List.pairwise_cons]
    constructor
    · intro ⟨h1, h2, h3, h4, h5⟩
      have hp := p.hi_bd (insQ_hi.1 h1).1
      refine ⟨?_, ?_, ⟨fun u hu => h4 u hu, h5⟩⟩
      · intro u hu; rcases List.mem_cons.1 hu with rfl | hu
        · exact h1
        · exact h3 u hu
      · intro u hu; rcases List.mem_cons.1 hu with rfl | hu
        · exact h2
        · have := h4 u hu; unfold Pfx.hi at hp; omega
    · intro ⟨h1, h2, h3, h4⟩
      exact ⟨h1 p (by simp), h2 p (by simp), fun u hu => h1 u (by simp [hu]), fun u hu => h3 u hu, h4⟩
theorem usedR_iff (root : Pfx) : ∀ (us : List Pfx) (q : Pfx), q.right = true → (usedR root (some q) us = true ↔ (∀ u ∈ us, insQ u root = true) ∧ (∀ u ∈ us, q.hi ≤ u.at_) ∧ us.Pairwise Apart)
  | [], q, _ => by simp [usedR]
  | p :: ps, q, hq => by
    have hqb := q.hi_bd hq
    rw [usedR_some, Bool.and_eq_true, Bool.and_eq_true, List.pairwise_cons]
    have e1 : insRQ p root = insQ p root := insR_eq p root
    rw [e1]
    constructor
    · intro ⟨h1, h2, h3⟩
      have hpr := (insQ_hi.1 h1).1
      have hp := p.hi_bd hpr
      rw [usedR_iff root ps p hpr] at h3
      obtain ⟨g1, g2, g3⟩ := h3
      have h4 : q.hi ≤ p.at_ := by
        simp only [Bool.not_eq_true', Bool.or_eq_false_iff, decide_eq_false_iff_not] at h2
        obtain ⟨k1, k2⟩ := h2
        have k3 : ¬ q.meets p = true := by rw [← meetB_eq]; unfold meetQ at k2; rw [k2]; simp
        rw [meets_iff] at k3
        rcases Int.lt_or_le p.at_ q.hi with h | h
        · exact absurd ⟨hq, hpr, by omega, h⟩ k3
        · exact h
      refine ⟨?_, ?_, ⟨fun u hu => g2 u hu, g3⟩⟩
      · intro u hu; rcases List.mem_cons.1 hu with rfl | hu
        · exact h1
        · exact g1 u hu
      · intro u hu; rcases List.mem_cons.1 hu with rfl | hu
        · exact h4
        · have := g2 u hu; omega
    · intro ⟨h1, h2, h3, h4⟩
      have hpi := h1 p (by simp)
      have hpr := (insQ_hi.1 hpi).1
      have hqp := h2 p (by simp)
      refine ⟨hpi, ?_, (usedR_iff root ps p hpr).2 ⟨fun u hu => h1 u (by simp [hu]), fun u hu => h3 u hu, h4⟩⟩
      simp only [Bool.not_eq_true', Bool.or_eq_false_iff, decide_eq_false_iff_not]
      refine ⟨by omega, ?_⟩
      unfold meetQ
      rw [meetB_eq, Bool.eq_false_iff]
      intro h
      have := (meets_iff.1 h).2.2
      omega
theorem used_eq (root : Pfx) (us : List Pfx) : usedR root none us = usedOK root root.at_ us := by
  rw [Bool.eq_iff_iff, usedOK_iff]
  cases us with
  | nil => simp [usedR]
  | cons p ps =>
    rw [usedR_none, Bool.and_eq_true, List.pairwise_cons]
    have e1 : insRQ p root = insQ p root := insR_eq p root
    rw [e1]
    constructor
    · intro ⟨h1, h2⟩
      obtain ⟨k1, k2, k3, k4⟩ := insQ_hi.1 h1
      have hp := p.hi_bd k1
      rw [usedR_iff root ps p k1] at h2
      obtain ⟨g1, g2, g3⟩ := h2
      refine ⟨?_, ?_, ⟨fun u hu => g2 u hu, g3⟩⟩
      · intro u hu; rcases List.mem_cons.1 hu with rfl | hu
        · exact h1
        · exact g1 u hu
      · intro u hu; rcases List.mem_cons.1 hu with rfl | hu
        · exact k3
        · have := g2 u hu; omega
    · intro ⟨h1, h2, h3, h4⟩
      have hpi := h1 p (by simp)
      exact ⟨hpi, (usedR_iff root ps p (insQ_hi.1 hpi).1).2 ⟨fun u hu => h1 u (by simp [hu]), fun u hu => h3 u hu, h4⟩⟩
/-- The program's check is the reference's. -/
theorem chkS_eq (root : Pfx) (us : List Pfx) : chkSR root us = chkS root us := by
  unfold chkSR chkS
  rw [used_eq]
  by_cases h : us.length > 32
  · rw [if_pos h, if_pos h]
  · rw [if_neg h, if_neg h]
    unfold rightB
    by_cases h2 : chk root.at_ root.len = 0
    · simp [h2]
    · simp [h2]
structure SpaceOK (root : Pfx) (us : List Pfx) : Prop where
  rr : root.right = true
  many : us.length ≤ 32
  ins : ∀ u ∈ us, insQ u root = true
  apart : us.Pairwise Apart
theorem chkS_ok {root : Pfx} {us : List Pfx} : chkS root us = 0 ↔ SpaceOK root us := by
  unfold chkS
  constructor
  · intro h
    split at h
    · omega
    · rename_i h1
      split at h
      · rename_i h2
        split at h
        · rename_i h3
          obtain ⟨g1, g2, g3⟩ := (usedOK_iff root us _).1 h3
          exact ⟨by simp [Pfx.right, rightB, h2], by omega, g1, g3⟩
        · omega
      · omega
  · intro ⟨h1, h2, h3, h4⟩
    have hc : chk root.at_ root.len = 0 := by unfold Pfx.right rightB at h1; simpa using h1
    rw [if_neg (by omega), if_pos hc, if_pos ((usedOK_iff root us _).2 ⟨h3, fun u hu => (insQ_hi.1 (h3 u hu)).2.2.1, h4⟩)]
/-- Two used ones that share an address are one. -/
theorem apart_eq {us : List Pfx} (h : us.Pairwise Apart) {u v : Pfx} (hu : u ∈ us) (hv : v ∈ us) (h1 : u.at_ < v.hi) (h2 : v.at_ < u.hi) : u = v := by
  induction us with
  | nil => cases hu
  | cons a t ih =>
    rw [List.pairwise_cons] at h
    rcases List.mem_cons.1 hu with rfl | hu' <;> rcases List.mem_cons.1 hv with rfl | hv'
    · rfl
    · have := h.1 v hv'; unfold Apart at this; omega
    · have := h.1 u hu'; unfold Apart at this; omega
    · exact ih h.2 hu' hv'
end Go.Proofs.Ytflbpkgnadjokaa
