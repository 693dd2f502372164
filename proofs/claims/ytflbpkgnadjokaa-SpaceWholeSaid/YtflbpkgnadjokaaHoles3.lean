/- Plain facts on the holes of a right space: they are free, apart, and hold all that is free. -/
import Derived.Test.YtflbpkgnadjokaaHoles2
namespace Go.Proofs.Ytflbpkgnadjokaa
open Go Go.RowKit Go.Proofs
/-- Free: it meets no used one. -/
def freeP (us : List Pfx) (p : Pfx) : Bool := !us.any p.meets
theorem low_ins {p : Pfx} (h : p.right = true) (hl : p.len < 16) : p.low.at_ = p.at_ ∧ p.low.hi = p.high.at_ ∧ p.high.hi = p.hi ∧ p.at_ < p.high.at_ ∧ p.high.at_ < p.hi := by
  obtain ⟨g1, -⟩ := p.bd h
  have e := szI_half g1 hl
  have s1 := szI_bd (n := p.len + 1) (by omega)
  unfold Pfx.low Pfx.high Pfx.hi
  refine ⟨rfl, rfl, ?_, ?_, ?_⟩ <;> simp <;> omega
theorem insQ_trans {a b c : Pfx} (h : insQ a b = true) (k : insQ b c = true) : insQ a c = true := by
  rw [insQ_hi] at *
  exact ⟨h.1, k.2.1, by omega, by omega⟩
/-- What lies in p, and is shorter than all of p, lies in one half. -/
theorem ins_half {b p : Pfx} (h : insQ b p = true) (hl : p.len < b.len) : insQ b p.low = true ∨ insQ b p.high = true := by
  obtain ⟨k1, k2, k3, k4⟩ := insQ_hi.1 h
  obtain ⟨b1, b2, -⟩ := b.bd k1
  have hp16 : p.len < 16 := by omega
  obtain ⟨e1, e2, e3, e4, e5⟩ := low_ins k2 hp16
  have hb := b.hi_bd k1
  rcases Int.lt_or_le b.at_ p.high.at_ with hlt | hle
  · left
    rw [insQ_iff]
    exact ⟨k1, low_right k2 hp16, by simp [Pfx.low]; omega, by rw [e1]; exact k3, by rw [e2]; exact hlt⟩
  · right
    rw [insQ_iff]
    exact ⟨k1, high_right k2 hp16, by simp [Pfx.high]; omega, hle, by rw [e3]; omega⟩
theorem low_insQ {p : Pfx} (h : p.right = true) (hl : p.len < 16) : insQ p.low p = true := by
  obtain ⟨e1, e2, e3, e4, e5⟩ := low_ins h hl
  exact insQ_hi.2 ⟨low_right h hl, h, by omega, by omega⟩
theorem high_insQ {p : Pfx} (h : p.right = true) (hl : p.len < 16) : insQ p.high p = true := by
  obtain ⟨e1, e2, e3, e4, e5⟩ := low_ins h hl
  exact insQ_hi.2 ⟨high_right h hl, h, by omega, by omega⟩
theorem insQ_refl {p : Pfx} (h : p.right = true) : insQ p p = true := insQ_hi.2 ⟨h, h, by omega, by omega⟩
theorem hole_ins (us : List Pfx) : ∀ (n : Nat) (p : Pfx), 16 - p.len = (n : Int) → p.right = true → ∀ q ∈ holesF us n p, insQ q p = true ∧ freeP us q = true
  | 0, p, hn, hr, q, hq => by
    unfold holesF at hq
    split at hq
    · cases hq
    · rename_i h
      obtain rfl : q = p := by simpa using hq
      exact ⟨insQ_refl hr, by unfold freeP; simpa using h⟩
  | n + 1, p, hn, hr, q, hq => by
    unfold holesF at hq
    split at hq
    · split at hq
      · cases hq
      · have hl : p.len < 16 := by omega
        rcases List.mem_append.1 hq with h | h
        · have := hole_ins us n p.low (by simp [Pfx.low]; omega) (low_right hr hl) q h
          exact ⟨insQ_trans this.1 (low_insQ hr hl), this.2⟩
        · have := hole_ins us n p.high (by simp [Pfx.high]; omega) (high_right hr hl) q h
          exact ⟨insQ_trans this.1 (high_insQ hr hl), this.2⟩
    · rename_i h
      obtain rfl : q = p := by simpa using hq
      exact ⟨insQ_refl hr, by unfold freeP; simpa using h⟩
theorem hole_sorted (us : List Pfx) : ∀ (n : Nat) (p : Pfx), 16 - p.len = (n : Int) → p.right = true → (holesF us n p).Pairwise Apart
  | 0, p, hn, hr => by unfold holesF; split <;> simp
  | n + 1, p, hn, hr => by
    unfold holesF
    split
    · split
      · simp
      · have hl : p.len < 16 := by omega
        have h1 := hole_sorted us n p.low (by simp [Pfx.low]; omega) (low_right hr hl)
        have h2 := hole_sorted us n p.high (by simp [Pfx.high]; omega) (high_right hr hl)
        refine List.pairwise_append.2 ⟨h1, h2, fun a ha b hb => ?_⟩
        have ka := (insQ_hi.1 (hole_ins us n p.low (by simp [Pfx.low]; omega) (low_right hr hl) a ha).1)
        have kb := (insQ_hi.1 (hole_ins us n p.high (by simp [Pfx.high]; omega) (high_right hr hl) b hb).1)
        obtain ⟨e1, e2, e3, e4, e5⟩ := low_ins hr hl
        unfold Apart
        omega
    · simp
/-- Whatever is free lies in a hole. -/
theorem hole_all (us : List Pfx) (hu : ∀ u ∈ us, u.right = true) : ∀ (n : Nat) (p : Pfx), 16 - p.len = (n : Int) → p.right = true → ∀ b, insQ b p = true → freeP us b = true → ∃ h ∈ holesF us n p, insQ b h = true
  | n, p, hn, hr, b, hb, hf => by
    have hbr := (insQ_hi.1 hb).1
    have hbh := b.hi_bd hbr
    by_cases hm : us.any p.meets = true
    · have hnc : us.contains p = false := by
        rw [Bool.eq_false_iff]
        intro hc
        have hp : p ∈ us := by simpa using hc
        have : us.any b.meets = true := List.any_eq_true.2 ⟨p, hp, meets_iff.2 ⟨hbr, hr, by have := insQ_iff.1 hb; omega, by have := insQ_iff.1 hb; omega⟩⟩
        unfold freeP at hf; rw [this] at hf; cases hf
      have hlen : p.len < b.len := by
        have h3 := (insQ_iff.1 hb).2.2.1
        rcases Int.lt_or_eq_of_le h3 with h | h
        · exact h
        · exfalso
          have hi := (insQ_hi.1 hb)
          have : b = p := by
            obtain ⟨ba, bl⟩ := b
            obtain ⟨pa, pl⟩ := p
            simp only [Pfx.mk.injEq]
            simp only [Pfx.hi] at hi
            simp only at h
            subst h
            exact ⟨by omega, rfl⟩
          subst this
          unfold freeP at hf; rw [hm] at hf; cases hf
      obtain ⟨b1, b2, -⟩ := b.bd hbr
      have hl : p.len < 16 := by omega
      match n, hn with
      | 0, hn => omega
      | n + 1, hn =>
        unfold holesF
        rw [if_pos hm, if_neg (by rw [hnc]; simp)]
        rcases ins_half hb hlen with h | h
        · obtain ⟨q, hq, hi⟩ := hole_all us hu n p.low (by simp [Pfx.low]; omega) (low_right hr hl) b h hf
          exact ⟨q, List.mem_append.2 (.inl hq), hi⟩
        · obtain ⟨q, hq, hi⟩ := hole_all us hu n p.high (by simp [Pfx.high]; omega) (high_right hr hl) b h hf
          exact ⟨q, List.mem_append.2 (.inr hq), hi⟩
    · refine ⟨p, ?_, hb⟩
      match n with
      | 0 => unfold holesF; rw [if_neg hm]; simp
      | n + 1 => unfold holesF; rw [if_neg hm]; simp
theorem holesS_ins {root : Pfx} {us : List Pfx} (h : SpaceOK root us) {q : Pfx} (hq : q ∈ holesS root us) : insQ q root = true ∧ freeP us q = true := by
  obtain ⟨g1, g2, -⟩ := root.bd h.rr
  exact hole_ins us _ root (by omega) h.rr q hq
theorem holesS_sorted {root : Pfx} {us : List Pfx} (h : SpaceOK root us) : (holesS root us).Pairwise Apart := by
  obtain ⟨g1, g2, -⟩ := root.bd h.rr
  exact hole_sorted us _ root (by omega) h.rr
theorem holesS_all {root : Pfx} {us : List Pfx} (h : SpaceOK root us) {b : Pfx} (hb : insQ b root = true) (hf : freeP us b = true) : ∃ q ∈ holesS root us, insQ b q = true := by
  obtain ⟨g1, g2, -⟩ := root.bd h.rr
  exact hole_all us (fun u hu => (insQ_hi.1 (h.ins u hu)).1) _ root (by omega) h.rr b hb hf
theorem free_sub {us : List Pfx} {a b : Pfx} (h : insQ a b = true) (hf : freeP us b = true) : freeP us a = true := by
  unfold freeP at *
  rw [Bool.not_eq_true'] at *
  rw [List.any_eq_false] at *
  intro u hu hm
  obtain ⟨k1, k2, k3, k4⟩ := insQ_hi.1 h
  obtain ⟨m1, m2, m3, m4⟩ := meets_iff.1 hm
  exact hf u hu (meets_iff.2 ⟨k2, m2, by omega, by omega⟩)
/-- The first hole that is long enough, by the blocks of a size: the least free one. -/
theorem fit_some {root : Pfx} {us : List Pfx} (h : SpaceOK root us) {size at_ : Int} (hs1 : root.len ≤ size) (hs2 : size ≤ 16) (hi : insQ ⟨at_, size⟩ root = true) (hf : freeP us ⟨at_, size⟩ = true)
    (hmin : ∀ b, b < at_ → insQ ⟨b, size⟩ root = true → freeP us ⟨b, size⟩ = false) : ∃ q, (holesS root us).find? (fun q => decide (q.len ≤ size)) = some q ∧ q.at_ = at_ := by
  obtain ⟨q, hq, hqi⟩ := holesS_all h hi hf
  have hql := (insQ_iff.1 hqi).2.2.1
  cases hfd : (holesS root us).find? (fun q => decide (q.len ≤ size)) with
  | none =>
    rw [List.find?_eq_none] at hfd
    exact absurd hql (by simpa using hfd q hq)
  | some x =>
    refine ⟨x, rfl, ?_⟩
    obtain ⟨hx1, ⟨la, lb, hab, hno⟩⟩ := List.find?_eq_some_iff_append.1 hfd
    have hxl : x.len ≤ size := by simpa using hx1
    have hxm : x ∈ holesS root us := by rw [hab]; simp
    obtain ⟨xi, xf⟩ := holesS_ins h hxm
    obtain ⟨k1, k2, k3, k4⟩ := insQ_hi.1 xi
    obtain ⟨x1, x2, x3, x4, x5⟩ := x.bd k1
    obtain ⟨g1, g2, -⟩ := root.bd h.rr
    have hxb := x.hi_bd k1
    -- the block at x's head is free
    have hblk : insQ ⟨x.at_, size⟩ x = true := by
      rw [insQ_iff]
      obtain ⟨k, hk, hk1⟩ := szI_dvd x1 hxl hs2
      exact ⟨right_of (a := x.at_) (l := size) (by omega) hs2 x3 x4 (Int.emod_eq_zero_of_dvd (Int.dvd_trans ⟨k, hk⟩ (Int.dvd_of_emod_eq_zero x5))), k1, hxl, Int.le_refl _, hxb.1⟩
    have hge : at_ ≤ x.at_ := by
      rcases Int.lt_or_le x.at_ at_ with hlt | hle
      · have := hmin x.at_ hlt (insQ_trans hblk xi)
        rw [free_sub hblk xf] at this
        cases this
      · exact hle
    -- x is not behind q
    have hle : x.at_ ≤ q.at_ := by
      rw [hab] at hq
      rcases List.mem_append.1 hq with h1 | h1
      · exact absurd (hno q h1) (by simp [hql])
      · rcases List.mem_cons.1 h1 with rfl | h2
        · exact Int.le_refl _
        · have hs := holesS_sorted h
          rw [hab] at hs
          have := (List.pairwise_cons.1 (List.pairwise_append.1 hs).2.1).1 q h2
          unfold Apart at this
          omega
    have hqa := (insQ_hi.1 hqi).2.2.1
    simp only at hqa
    omega
theorem fit_none {root : Pfx} {us : List Pfx} (h : SpaceOK root us) {size : Int} (hs1 : root.len ≤ size) (hs2 : size ≤ 16)
    (hno : ∀ b, insQ ⟨b, size⟩ root = true → freeP us ⟨b, size⟩ = false) : (holesS root us).find? (fun q => decide (q.len ≤ size)) = none := by
  rw [List.find?_eq_none]
  intro x hx hxl
  simp only [decide_eq_true_eq] at hxl
  obtain ⟨xi, xf⟩ := holesS_ins h hx
  obtain ⟨k1, k2, k3, k4⟩ := insQ_hi.1 xi
  obtain ⟨x1, x2, x3, x4, x5⟩ := x.bd k1
  obtain ⟨g1, g2, -⟩ := root.bd h.rr
  have hxb := x.hi_bd k1
  have hblk : insQ ⟨x.at_, size⟩ x = true := by
    rw [insQ_iff]
    obtain ⟨k, hk, hk1⟩ := szI_dvd x1 hxl hs2
    exact ⟨right_of (a := x.at_) (l := size) (by omega) hs2 x3 x4 (Int.emod_eq_zero_of_dvd (Int.dvd_trans ⟨k, hk⟩ (Int.dvd_of_emod_eq_zero x5))), k1, hxl, Int.le_refl _, hxb.1⟩
  have := hno x.at_ (insQ_trans hblk xi)
  rw [free_sub hblk xf] at this
  cases this
end Go.Proofs.Ytflbpkgnadjokaa
