/- Plain facts for the reference's search of holes. -/
import Derived.Test.YtflbpkgnadjokaaHoles3
namespace Go.Proofs.Ytflbpkgnadjokaa
open Go Go.RowKit Go.Proofs
/-- May a hole of that length begin there? -/
def okAt (root : Pfx) (us : List Pfx) (a L : Int) : Bool := Pfx.right ⟨a, L⟩ && (insQ ⟨a, L⟩ root && freeP us ⟨a, L⟩)
/-- What the search over lengths has found, all above s being tried. -/
def Fnd (root : Pfx) (us : List Pfx) (a s cur : Int) : Prop :=
  (cur = 17 ∧ ∀ L, s < L → L ≤ 16 → okAt root us a L = false) ∨ (s < cur ∧ cur ≤ 16 ∧ okAt root us a cur = true ∧ ∀ L, s < L → L < cur → okAt root us a L = false)
theorem fnd_start (root : Pfx) (us : List Pfx) (a : Int) : Fnd root us a 16 17 := .inl ⟨rfl, fun L h1 h2 => by omega⟩
theorem fnd_yes {root : Pfx} {us : List Pfx} {a s : Int} (h2 : s ≤ 16) (hk : okAt root us a s = true) : Fnd root us a (s - 1) s := .inr ⟨by omega, h2, hk, fun L h1 h2 => by omega⟩
theorem fnd_no {root : Pfx} {us : List Pfx} {a s cur : Int} (h : Fnd root us a s cur) (hk : okAt root us a s = false) : Fnd root us a (s - 1) cur := by
  rcases h with ⟨h1, h2⟩ | ⟨h1, h2, h3, h4⟩
  · exact .inl ⟨h1, fun L g1 g2 => by
      rcases Int.lt_or_eq_of_le (show s ≤ L by omega) with h | h
      · exact h2 L h g2
      · subst h; exact hk⟩
  · exact .inr ⟨by omega, h2, h3, fun L g1 g2 => by
      rcases Int.lt_or_eq_of_le (show s ≤ L by omega) with h | h
      · exact h4 L h g2
      · subst h; exact hk⟩
/-- The search's state at an address. -/
structure HSt (root : Pfx) (us : List Pfx) (a : Int) (done rest : List Pfx) : Prop where
  all : holesS root us = done ++ rest
  before : ∀ q ∈ done, q.hi ≤ a
  behind : ∀ q ∈ rest, a ≤ q.at_
  used : ∀ u ∈ us, u.hi ≤ a ∨ a ≤ u.at_
  low : root.at_ ≤ a
theorem hst_start {root : Pfx} {us : List Pfx} (h : SpaceOK root us) : HSt root us root.at_ [] (holesS root us) :=
  ⟨rfl, (fun q hq => by cases hq), fun q hq => (insQ_hi.1 (holesS_ins h hq).1).2.2.1, fun u hu => .inr (insQ_hi.1 (h.ins u hu)).2.2.1, Int.le_refl _⟩
theorem hst_end {root : Pfx} {us : List Pfx} (h : SpaceOK root us) {a : Int} {done rest : List Pfx} (hs : HSt root us a done rest) (ha : root.hi ≤ a) : done = holesS root us := by
  cases rest with
  | nil => rw [hs.all]; simp
  | cons q t =>
    have hq : q ∈ holesS root us := by rw [hs.all]; simp
    obtain ⟨k1, k2, k3, k4⟩ := insQ_hi.1 (holesS_ins h hq).1
    have := q.hi_bd k1
    have := hs.behind q (by simp)
    omega
theorem hst_hole {root : Pfx} {us : List Pfx} (h : SpaceOK root us) {a cur : Int} {done rest : List Pfx} (hs : HSt root us a done rest) (hf : Fnd root us a (root.len - 1) cur) (hc : cur ≤ 16) :
    Pfx.right ⟨a, cur⟩ = true ∧ ∃ rest', HSt root us (Pfx.hi ⟨a, cur⟩) (done ++ [⟨a, cur⟩]) rest' := by
  rcases hf with ⟨rfl, _⟩ | ⟨h1, h2, h3, h4⟩
  · omega
  · unfold okAt at h3
    simp only [Bool.and_eq_true] at h3
    obtain ⟨r1, r2, r3⟩ := h3
    refine ⟨r1, ?_⟩
    obtain ⟨q, hq, hqi⟩ := holesS_all h r2 r3
    obtain ⟨k1, k2, k3, k4⟩ := insQ_hi.1 hqi
    have hab := Pfx.hi_bd r1
    simp only at k3 hab
    obtain ⟨qi, qf⟩ := holesS_ins h hq
    have hqr : q ∈ rest := by
      rw [hs.all] at hq
      rcases List.mem_append.1 hq with hd | hr
      · have := hs.before q hd; omega
      · exact hr
    have hqa : q.at_ = a := by have := hs.behind q hqr; omega
    have hqe : q = ⟨a, cur⟩ := by
      have hl := (insQ_iff.1 hqi).2.2.1
      simp only at hl
      have hql := (insQ_iff.1 qi).2.2.1
      have : ¬ q.len < cur := fun hlt => by
        have := h4 q.len (by omega) hlt
        have hok : okAt root us a q.len = true := by
          unfold okAt
          have e : (⟨a, q.len⟩ : Pfx) = q := by rw [← hqa]
          rw [e, k2, qi, qf]; rfl
        rw [hok] at this; cases this
      obtain ⟨qa, ql⟩ := q
      simp only [Pfx.mk.injEq] at *
      exact ⟨hqa, by omega⟩
    have hsort := holesS_sorted h
    rw [hs.all] at hsort
    cases rest with
    | nil => cases hqr
    | cons x t =>
      have hx : x = q := by
        rcases List.mem_cons.1 hqr with rfl | hm
        · rfl
        · have hap := (List.pairwise_cons.1 (List.pairwise_append.1 hsort).2.1).1 q hm
          have hxa := hs.behind x (by simp)
          have hxm : x ∈ holesS root us := by rw [hs.all]; simp
          have := x.hi_bd (insQ_hi.1 (holesS_ins h hxm).1).1
          unfold Apart at hap
          omega
      subst hx
      refine ⟨t, ⟨by rw [hs.all, hqe]; simp, ?_, ?_, ?_, by have := hs.low; omega⟩⟩
      · intro y hy
        rcases List.mem_append.1 hy with hd | hd
        · have := hs.before y hd; omega
        · simp only [List.mem_singleton] at hd; subst hd; exact Int.le_refl _
      · intro y hy
        have hap := (List.pairwise_cons.1 (List.pairwise_append.1 hsort).2.1).1 y hy
        unfold Apart at hap
        rw [hqe] at hap
        exact hap
      · intro u hu
        rcases hs.used u hu with hl | hl
        · left; omega
        · right
          unfold freeP at r3
          rw [Bool.not_eq_true', List.any_eq_false] at r3
          have hm := r3 u hu
          rw [meets_iff] at hm
          have hur := (insQ_hi.1 (h.ins u hu)).1
          have hub := u.hi_bd hur
          rcases Int.lt_or_le u.at_ (Pfx.hi ⟨a, cur⟩) with hlt | hle
          · exact absurd ⟨r1, hur, (by show a < u.hi; omega), hlt⟩ hm
          · exact hle
theorem hst_used {root : Pfx} {us : List Pfx} (h : SpaceOK root us) {a : Int} {done rest : List Pfx} (hs : HSt root us a done rest) (hf : Fnd root us a (root.len - 1) 17) (ha : a < root.hi) :
    ∃ u ∈ us, holdB u.at_ u.len a = true := by
  rcases hf with ⟨_, h2⟩ | ⟨h1, h2, _⟩
  · obtain ⟨g1, g2, g3, g4, g5⟩ := root.bd h.rr
    have hrb := root.hi_bd h.rr
    have hlow := hs.low
    have h16 := h2 16 (by omega) (by omega)
    have hm1 : a % szI 16 = 0 := by rw [show szI 16 = 1 from by decide]; exact Int.emod_one a
    have hr : Pfx.right ⟨a, 16⟩ = true := right_of (a := a) (l := 16) (by omega) (by omega) (by omega) (by omega) hm1
    have hi : insQ ⟨a, 16⟩ root = true := insQ_iff.2 ⟨hr, h.rr, g2, hlow, ha⟩
    unfold okAt at h16
    rw [hr, hi] at h16
    simp only [Bool.true_and] at h16
    unfold freeP at h16
    rw [Bool.not_eq_false'] at h16
    obtain ⟨u, hu, hm⟩ := List.any_eq_true.1 h16
    obtain ⟨_, m2, m3, m4⟩ := meets_iff.1 hm
    have : szI 16 = 1 := by decide
    simp only [Pfx.hi, this] at m4
    exact ⟨u, hu, holdB_iff.2 ⟨m2, by omega, m3⟩⟩
  · omega
theorem hst_skip {root : Pfx} {us : List Pfx} (h : SpaceOK root us) {a : Int} {done rest : List Pfx} (hs : HSt root us a done rest) {u : Pfx} (hu : u ∈ us) (hh : holdB u.at_ u.len a = true) : HSt root us u.hi done rest := by
  obtain ⟨k1, k2, k3⟩ := holdB_iff.1 hh
  have hua : u.at_ = a := by rcases hs.used u hu with h1 | h1 <;> omega
  have hub := u.hi_bd k1
  refine ⟨hs.all, fun q hq => by have := hs.before q hq; omega, fun q hq => ?_, fun v hv => ?_, by have := hs.low; omega⟩
  · have hqa := hs.behind q hq
    have hqm : q ∈ holesS root us := by rw [hs.all]; simp [hq]
    obtain ⟨qi, qf⟩ := holesS_ins h hqm
    have hqr := (insQ_hi.1 qi).1
    have hqb := q.hi_bd hqr
    unfold freeP at qf
    rw [Bool.not_eq_true', List.any_eq_false] at qf
    have hm := qf u hu
    rw [meets_iff] at hm
    rcases Int.lt_or_le q.at_ u.hi with hlt | hle
    · exact absurd ⟨hqr, k1, hlt, by omega⟩ hm
    · exact hle
  · have hvr := (insQ_hi.1 (h.ins v hv)).1
    have hvb := v.hi_bd hvr
    rcases hs.used v hv with h1 | h1
    · left; omega
    · rcases Int.lt_or_le v.at_ u.hi with hlt | hle
      · have := apart_eq h.apart hu hv (by omega) hlt
        subst this
        left; omega
      · right; exact hle
end Go.Proofs.Ytflbpkgnadjokaa
