/- Plain facts on prefixes: right ones are nested or apart; the holes of a space. -/
import Derived.Test.YtflbpkgnadjokaaSpace5
import Derived.Test.YtflbpkgnadjokaaCidrR
namespace Go.Proofs.Ytflbpkgnadjokaa
open Go Go.RowKit Go.Proofs
/-- Behind a prefix's last address. -/
def Pfx.hi (p : Pfx) : Int := p.at_ + szI p.len
theorem Pfx.bd {p : Pfx} (h : p.right = true) : 0 ≤ p.len ∧ p.len ≤ 16 ∧ 0 ≤ p.at_ ∧ p.at_ ≤ 65535 ∧ p.at_ % szI p.len = 0 := right_bd h
theorem Pfx.hi_bd {p : Pfx} (h : p.right = true) : p.at_ < p.hi ∧ p.hi ≤ 65536 := by
  have h1 := right_fit h
  obtain ⟨g1, -⟩ := p.bd h
  have h2 := szI_bd g1
  unfold Pfx.hi; omega
/-- An address lies in an aligned block just if its block begins there. -/
theorem blk_iff {s a b : Int} (hs : 0 < s) (hb : b % s = 0) : a - a % s = b ↔ b ≤ a ∧ a < b + s := by
  have h1 := Int.emod_nonneg a (b := s) (by omega)
  have h2 := Int.emod_lt_of_pos a hs
  constructor
  · intro h; omega
  · intro ⟨h3, h4⟩
    have h5 : (a - b) % s = a % s := by rw [Int.sub_emod, hb, Int.sub_zero, Int.emod_emod]
    rw [Int.emod_eq_of_lt (by omega) (by omega)] at h5
    omega
theorem dvd_step {s x : Int} (hs : 0 < s) (hx : 0 < x) (hd : s ∣ x) : s ≤ x := Int.le_of_dvd hx hd
/-- Two right prefixes, the second no longer: they meet just if the first lies in the second. -/
theorem nest {p q : Pfx} (hp : p.right = true) (hq : q.right = true) (hl : q.len ≤ p.len) (h1 : p.at_ < q.hi) (h2 : q.at_ < p.hi) : q.at_ ≤ p.at_ ∧ p.hi ≤ q.hi := by
  obtain ⟨a1, a2, a3, a4, a5⟩ := p.bd hp
  obtain ⟨b1, b2, b3, b4, b5⟩ := q.bd hq
  obtain ⟨k, hk, hk1⟩ := szI_dvd b1 hl a2
  have s1 := szI_bd a1
  have s2 := szI_bd b1
  unfold Pfx.hi at *
  have dq : szI p.len ∣ q.at_ := Int.dvd_trans ⟨k, hk⟩ (Int.dvd_of_emod_eq_zero b5)
  have dp : szI p.len ∣ p.at_ := Int.dvd_of_emod_eq_zero a5
  have dm : szI p.len ∣ szI q.len := ⟨k, hk⟩
  refine ⟨?_, ?_⟩
  · rcases Int.lt_or_le p.at_ q.at_ with h | h
    · have := dvd_step (by omega) (show 0 < q.at_ - p.at_ by omega) (Int.dvd_sub dq dp)
      omega
    · exact h
  · have := dvd_step (by omega) (show 0 < q.at_ + szI q.len - p.at_ by omega) (Int.dvd_sub (Int.dvd_add dq dm) dp)
    omega
theorem insQ_iff {p q : Pfx} : insQ p q = true ↔ p.right = true ∧ q.right = true ∧ q.len ≤ p.len ∧ q.at_ ≤ p.at_ ∧ p.at_ < q.hi := by
  unfold insQ insP Pfx.right
  constructor
  · intro h
    simp only [Bool.and_eq_true, decide_eq_true_eq, beq_iff_eq] at h
    obtain ⟨⟨⟨h1, h2⟩, h3⟩, h4⟩ := h
    obtain ⟨b1, b2, b3, b4, b5⟩ := right_bd h2
    have := (blk_iff (by have := szI_bd b1; omega) b5).1 h4
    exact ⟨h1, h2, h3, this.1, this.2⟩
  · intro ⟨h1, h2, h3, h4, h5⟩
    obtain ⟨b1, b2, b3, b4, b5⟩ := right_bd h2
    simp only [Bool.and_eq_true, decide_eq_true_eq, beq_iff_eq]
    exact ⟨⟨⟨h1, h2⟩, h3⟩, (blk_iff (by have := szI_bd b1; omega) b5).2 ⟨h4, h5⟩⟩
theorem le_mul1 {s k : Int} (hs : 0 ≤ s) (hk : 1 ≤ k) : s ≤ s * k := by
  have := Int.mul_le_mul_of_nonneg_left hk hs
  rwa [Int.mul_one] at this
theorem szI_le {l m : Int} (h0 : 0 ≤ m) (h2 : l ≤ 16) (h3 : 0 ≤ l) (hm : m ≤ 16) : szI l ≤ szI m ↔ m ≤ l := by
  constructor
  · intro h
    rcases Int.lt_or_le l m with hlt | hle
    · obtain ⟨k, hk, hk1⟩ := szI_dvd (l := m) (m := l + 1) (by omega) (by omega) hm
      have e := szI_half h3 (by omega)
      have s1 := szI_bd h0
      have : szI m ≤ szI (l + 1) := by rw [hk]; exact le_mul1 (by have := szI_bd (n := l + 1) (by omega); omega) hk1
      omega
    · exact hle
  · intro h
    obtain ⟨k, hk, hk1⟩ := szI_dvd h0 h h2
    rw [hk]
    exact le_mul1 (by have := szI_bd h3; omega) hk1
theorem insQ_hi {p q : Pfx} : insQ p q = true ↔ p.right = true ∧ q.right = true ∧ q.at_ ≤ p.at_ ∧ p.hi ≤ q.hi := by
  rw [insQ_iff]
  constructor
  · intro ⟨h1, h2, h3, h4, h5⟩
    exact ⟨h1, h2, nest h1 h2 h3 h5 (by have := p.hi_bd h1; omega)⟩
  · intro ⟨h1, h2, h3, h4⟩
    have hp := p.hi_bd h1
    obtain ⟨a1, a2, -⟩ := p.bd h1
    obtain ⟨b1, b2, -⟩ := q.bd h2
    exact ⟨h1, h2, (szI_le b1 a2 a1 b2).1 (by unfold Pfx.hi at *; omega), h3, by omega⟩
/-- The reference's inside is the program's. -/
theorem insR_eq (p q : Pfx) : insR p.at_ p.len q.at_ q.len = insQ p q := by
  rw [Bool.eq_iff_iff, insQ_hi]
  unfold insR holdB within lastI Pfx.right Pfx.hi
  simp only [Bool.and_eq_true, decide_eq_true_eq]
  constructor
  · intro ⟨⟨⟨h1, h2⟩, h3⟩, h4⟩
    exact ⟨h1, h2, h3.2.1, by omega⟩
  · intro ⟨h1, h2, h3, h4⟩
    obtain ⟨a1, -⟩ := right_bd h1
    have s1 := szI_bd a1
    exact ⟨⟨⟨h1, h2⟩, ⟨h2, h3, by omega⟩⟩, ⟨h2, by omega, by omega⟩⟩
theorem meets_iff {p q : Pfx} : p.meets q = true ↔ p.right = true ∧ q.right = true ∧ p.at_ < q.hi ∧ q.at_ < p.hi := by
  have e : p.meets q = (insQ p q || insQ q p) := rfl
  rw [e, Bool.or_eq_true, insQ_iff, insQ_iff]
  constructor
  · rintro (⟨h1, h2, h3, h4, h5⟩ | ⟨h1, h2, h3, h4, h5⟩)
    · exact ⟨h1, h2, h5, by have := p.hi_bd h1; omega⟩
    · exact ⟨h2, h1, by have := q.hi_bd h1; omega, h5⟩
  · intro ⟨h1, h2, h3, h4⟩
    rcases Int.le_total q.len p.len with hl | hl
    · exact .inl ⟨h1, h2, hl, (nest h1 h2 hl h3 h4).1, h3⟩
    · exact .inr ⟨h2, h1, hl, (nest h2 h1 hl h4 h3).1, h4⟩
theorem meetB_eq (p q : Pfx) : meetB p.at_ p.len q.at_ q.len = p.meets q := by
  rw [Bool.eq_iff_iff, meets_iff]
  unfold meetB lastI Pfx.right Pfx.hi
  simp only [Bool.and_eq_true, decide_eq_true_eq]
  constructor
  · intro ⟨⟨⟨h1, h2⟩, h3⟩, h4⟩; exact ⟨h1, h2, by omega, by omega⟩
  · intro ⟨h1, h2, h3, h4⟩; exact ⟨⟨⟨h1, h2⟩, by omega⟩, by omega⟩
theorem meets_comm (p q : Pfx) : p.meets q = q.meets p := by
  rw [Bool.eq_iff_iff, meets_iff, meets_iff]
  constructor <;> (intro ⟨h1, h2, h3, h4⟩; exact ⟨h2, h1, h4, h3⟩)
theorem holdB_iff {p : Pfx} {x : Int} : holdB p.at_ p.len x = true ↔ p.right = true ∧ p.at_ ≤ x ∧ x < p.hi := by
  unfold holdB within lastI Pfx.right Pfx.hi
  simp only [Bool.and_eq_true, decide_eq_true_eq]
  constructor
  · intro ⟨h1, h2, h3⟩; exact ⟨h1, h2, by omega⟩
  · intro ⟨h1, h2, h3⟩; exact ⟨h1, h2, by omega⟩
theorem holdP_eq (p : Pfx) (x : Int) : holdP p.at_ p.len x = holdB p.at_ p.len x := by
  rw [Bool.eq_iff_iff, holdB_iff]
  unfold holdP Pfx.right
  simp only [Bool.and_eq_true, decide_eq_true_eq, beq_iff_eq]
  constructor
  · intro ⟨h1, h2, h3, h4⟩
    obtain ⟨b1, b2, b3, b4, b5⟩ := right_bd h1
    have := (blk_iff (by have := szI_bd b1; omega) b5).1 h4
    exact ⟨h1, this.1, this.2⟩
  · intro ⟨h1, h2, h3⟩
    obtain ⟨b1, b2, b3, b4, b5⟩ := right_bd h1
    have hf := p.hi_bd h1
    exact ⟨h1, by omega, by omega, (blk_iff (by have := szI_bd b1; omega) b5).2 ⟨h2, h3⟩⟩
end Go.Proofs.Ytflbpkgnadjokaa
