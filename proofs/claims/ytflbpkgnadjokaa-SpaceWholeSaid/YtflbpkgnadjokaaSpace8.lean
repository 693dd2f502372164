/- space.Claim. -/
import Derived.Test.YtflbpkgnadjokaaSpD
import Derived.Test.YtflbpkgnadjokaaMiz
import Derived.Test.YtflbpkgnadjokaaSpaceR3
namespace Go.Proofs.Ytflbpkgnadjokaa
open Go Go.RowKit Go.Proofs
/-- Put in by its address. -/
def insU (p : Pfx) : List Pfx → List Pfx
  | [] => [p]
  | x :: t => if p.at_ < x.at_ then p :: x :: t else x :: insU p t
def claimE (root : Pfx) (us : List Pfx) (p : Pfx) : Int :=
  if chkS root us = 0 then (if insQ p root = true then (if us.any p.meets = true then 6 else if us.length = 32 then 2 else 0) else 3) else chkS root us
/-- A space, or an error. -/
def SpOut (w : World) (c : Int) (root : Pfx) (l : List Pfx) (e : Ending) (w' : World) : Prop :=
  (c = 0 ∧ ∃ ao cap, e = .returned (.tuple #[.agg #[.int .i64 root.at_, .int .i64 root.len, .slice ao l.length cap], .int .i64 0]) ∧ Sl (fun b => w.heap.size ≤ b) w' 2 Pfx.R ao cap l ∧ Ext w w') ∨
  (c ≠ 0 ∧ e = .returned (.tuple #[.agg #[.int .i64 0, .int .i64 0, .slice none 0 0], .int .i64 c]) ∧ Ext w w')
theorem insU_perm (p : Pfx) : ∀ (us : List Pfx), (insU p us).Perm (us ++ [p])
  | [] => by simp [insU]
  | x :: t => by
    unfold insU
    split
    · exact (List.perm_append_comm (l₁ := [p]) (l₂ := x :: t))
    · exact (insU_perm p t).cons x
theorem insU_sorted (p : Pfx) : ∀ (us : List Pfx), us.Pairwise (fun x y => x.at_ ≤ y.at_) → (insU p us).Pairwise (fun x y => x.at_ ≤ y.at_)
  | [], _ => by simp [insU]
  | x :: t, h => by
    obtain ⟨h1, h2⟩ := List.pairwise_cons.1 h
    unfold insU
    split
    · rename_i hlt
      refine List.pairwise_cons.2 ⟨fun y hy => ?_, h⟩
      rcases List.mem_cons.1 hy with rfl | hy
      · omega
      · have := h1 y hy; omega
    · rename_i hlt
      refine List.pairwise_cons.2 ⟨fun y hy => ?_, insU_sorted p t h2⟩
      rcases List.mem_append.1 ((insU_perm p t).mem_iff.1 hy) with hy | hy
      · exact h1 y hy
      · simp at hy; subst hy; omega
/-- Of used ones that lie apart, and one that meets none, no two begin at one address. -/
theorem at_inj {root : Pfx} {us : List Pfx} (h : SpaceOK root us) {p : Pfx} (hp : p.right = true) (hm : us.any p.meets = false) {a b : Pfx} (ha : a ∈ us ++ [p]) (hb : b ∈ us ++ [p]) (hab : a.at_ = b.at_) : a = b := by
  have hpu : ∀ u ∈ us, u.at_ = p.at_ → False := by
    intro u hu e
    rw [List.any_eq_false] at hm
    have hn := hm u hu
    rw [meets_iff] at hn
    have hur := (insQ_hi.1 (h.ins u hu)).1
    have := u.hi_bd hur
    have := p.hi_bd hp
    exact hn ⟨hp, hur, by omega, by omega⟩
  have huu : ∀ u ∈ us, ∀ v ∈ us, u.at_ = v.at_ → u = v := by
    intro u hu v hv e
    have hur := u.hi_bd (insQ_hi.1 (h.ins u hu)).1
    have hvr := v.hi_bd (insQ_hi.1 (h.ins v hv)).1
    obtain ⟨i, hi, rfl⟩ := List.mem_iff_getElem.1 hu
    obtain ⟨j, hj, rfl⟩ := List.mem_iff_getElem.1 hv
    have hpw := List.pairwise_iff_getElem.1 h.apart
    rcases Nat.lt_trichotomy i j with hij | hij | hij
    · have := hpw i j hi hj hij; unfold Apart at this; omega
    · subst hij; rfl
    · have := hpw j i hj hi hij; unfold Apart at this; omega
  rcases List.mem_append.1 ha with ha | ha <;> rcases List.mem_append.1 hb with hb | hb
  · exact huu a ha b hb hab
  · rw [List.mem_singleton] at hb; exact (hpu a ha (by rw [hab, hb])).elim
  · rw [List.mem_singleton] at ha; exact (hpu b hb (by rw [← hab, ha])).elim
  · simp at ha hb; rw [ha, hb]
theorem us_sorted {root : Pfx} {us : List Pfx} (h : SpaceOK root us) : us.Pairwise (fun x y => x.at_ ≤ y.at_) := by
  refine h.apart.imp_of_mem ?_
  intro a b ha _ hab
  have := a.hi_bd (insQ_hi.1 (h.ins a ha)).1
  unfold Apart at hab
  omega
theorem sorted_is {root : Pfx} {us : List Pfx} (h : SpaceOK root us) {p : Pfx} (hp : p.right = true) (hm : us.any p.meets = false) {l : List Pfx} (h1 : l.Perm (us ++ [p])) (h2 : l.Pairwise (fun x y => x.at_ ≤ y.at_)) : l = insU p us :=
  List.Perm.eq_of_pairwise (le := fun x y => x.at_ ≤ y.at_) (fun a b ha hb hab hba => at_inj h hp hm (h1.mem_iff.1 ha) ((insU_perm p us).mem_iff.1 hb) (by omega)) h2 (insU_sorted p us (us_sorted h)) (h1.trans (insU_perm p us).symm)
set_option maxHeartbeats 1500000 in
set_option maxRecDepth 100000 in
theorem claim_err {A : Area} (root : Pfx) (us : List Pfx) (uo : Option Addr) (ucap : Nat) (p : Pfx) (w : World) (h : Sl A w 2 Pfx.R uo ucap us) (c : Int) (hc : c = claimE root us p) (hc0 : c ≠ 0) :
    Calls Try.prog 15 #[.agg #[.int .i64 root.at_, .int .i64 root.len, .slice uo us.length ucap], .agg #[.int .i64 p.at_, .int .i64 p.len]] w fun e w' => e = .returned (.tuple #[.agg #[.int .i64 0, .int .i64 0, .slice none 0 0], .int .i64 c]) ∧ Ext w w' := by
  have hck := fun W (h : Sl A W 2 Pfx.R uo ucap us) => spaceCheck_any root us uo ucap W h
  have hx3 : Ext w (((w.alloc (.cells #[.int .i64 root.at_, .int .i64 root.len, .slice uo us.length ucap] 26)).alloc (.cells #[.int .i64 p.at_, .int .i64 p.len] 23)).alloc (.cells #[.int .i64 0, .int .i64 0, .slice none 0 0] 26)) := ext_trans (ext_alloc _ _) (ext_trans (ext_alloc _ _) (ext_alloc _ _))
  by_cases h0 : chkS root us = 0
  · have hin := inside_any p.at_ p.len root.at_ root.len
    have hq : insP p.at_ p.len root.at_ root.len = insQ p root := rfl
    rw [hq] at hin
    rw [h0] at hck
    unfold claimE at hc
    rw [if_pos h0] at hc
    replace hck := Lib.hid hck
    clear h0 hq
    cases hi : insQ p root
    case false =>
      rw [hi] at hc hin
      rw [if_neg (by simp)] at hc
      subst hc
      replace hin := Lib.hid hin
      clear hc0 hi
      go_enter Try.func15, Try.ntmps15
      go_wp2_with fail
      refine (hck.out _ (h.ext hx3)).mono ?_
      rintro e w1 ⟨rfl, hw1⟩
      obtain ⟨hcw1, hfw1⟩ := bcell hw1
      have hzw1 := bsize hw1
      (try simp only [World.size_alloc, World.size_setCell, World.size_drew, World.heap_drewN] at hcw1 hfw1 hzw1)
      have l0w1 : w.heap.size < w1.heap.size := by omega
      have l1w1 : w.heap.size + 1 < w1.heap.size := by omega
      have l2w1 : w.heap.size + 1 + 1 < w1.heap.size := by omega
      go_wp2_with fail
      refine (hin.out _).mono ?_
      rintro e w2 ⟨rfl, hw2⟩
      obtain ⟨hcw2, hfw2⟩ := bcell hw2
      have hzw2 := bsize hw2
      (try simp only [World.size_alloc, World.size_setCell, World.size_drew, World.heap_drewN] at hcw2 hfw2 hzw2)
      have l0w2 : w.heap.size < w2.heap.size := by omega
      have l1w2 : w.heap.size + 1 < w2.heap.size := by omega
      have l2w2 : w.heap.size + 1 + 1 < w2.heap.size := by omega
      go_wp2_with fail
      refine bodyPost_ret ?_ rfl ⟨rfl, Bel.bel (B := _) ?_⟩
      · simp [results, Try.results15, go_sem, hcw1, hcw2, l2w1]
      · (repeat (first | with_reducible assumption | with_reducible exact Bel.refl _ | with_reducible refine Bel.alloc ?_ _ | with_reducible refine Bel.drewN ?_ _ | with_reducible refine Bel.drew ?_ | (with_reducible refine Bel.setCell0 ?_ ?_ _; rotate_left; (first | omega | (simp; done) | (simp; omega))) | (with_reducible refine Bel.setCell ?_ (p := _) ?_ _; rotate_left; (first | (simp; done) | omega | (simp; omega))) | refine Bel.call ?_ (by assumption) | (refine EX.bel ?_ (by assumption) ?_; rotate_left; (first | omega | (simp; omega)))))
    case true =>
      rw [hi] at hc hin
      rw [if_pos rfl] at hc
      replace hin := Lib.hid hin
      have hme := fun W (h : Sl A W 2 Pfx.R uo ucap us) => spaceMeets_any us uo ucap p W h
      have hq : (us.any fun q => p.meets q) = us.any p.meets := rfl
      rw [hq] at hme
      clear hq
      cases hm : us.any p.meets
      case true =>
        rw [hm] at hc hme
        rw [if_pos rfl] at hc
        subst hc
        replace hme := Lib.hid hme
        clear hc0 hi hm
        go_enter Try.func15, Try.ntmps15
        go_wp2_with fail
        refine (hck.out _ (h.ext hx3)).mono ?_
        rintro e w1 ⟨rfl, hw1⟩
        obtain ⟨hcw1, hfw1⟩ := bcell hw1
        have hzw1 := bsize hw1
        (try simp only [World.size_alloc, World.size_setCell, World.size_drew, World.heap_drewN] at hcw1 hfw1 hzw1)
        have l0w1 : w.heap.size < w1.heap.size := by omega
        have l1w1 : w.heap.size + 1 < w1.heap.size := by omega
        have l2w1 : w.heap.size + 1 + 1 < w1.heap.size := by omega
        have hx1 := ext_trans hx3 hw1
        go_wp2_with fail
        refine (hin.out _).mono ?_
        rintro e w2 ⟨rfl, hw2⟩
        obtain ⟨hcw2, hfw2⟩ := bcell hw2
        have hzw2 := bsize hw2
        (try simp only [World.size_alloc, World.size_setCell, World.size_drew, World.heap_drewN] at hcw2 hfw2 hzw2)
        have l0w2 : w.heap.size < w2.heap.size := by omega
        have l1w2 : w.heap.size + 1 < w2.heap.size := by omega
        have l2w2 : w.heap.size + 1 + 1 < w2.heap.size := by omega
        have hx2 := ext_trans hx1 hw2
        go_wp2_with fail
        refine (hme.out _ (h.ext hx2)).mono ?_
        rintro e w4 ⟨rfl, hw4⟩
        obtain ⟨hcw4, hfw4⟩ := bcell hw4
        have hzw4 := bsize hw4
        (try simp only [World.size_alloc, World.size_setCell, World.size_drew, World.heap_drewN] at hcw4 hfw4 hzw4)
        have l0w4 : w.heap.size < w4.heap.size := by omega
        have l1w4 : w.heap.size + 1 < w4.heap.size := by omega
        have l2w4 : w.heap.size + 1 + 1 < w4.heap.size := by omega
        go_wp2_with fail
        refine bodyPost_ret ?_ rfl ⟨rfl, Bel.bel (B := _) ?_⟩
        · simp [results, Try.results15, go_sem, hcw1, hcw2, hcw4, l2w1, l2w2]
        · (repeat (first | with_reducible assumption | with_reducible exact Bel.refl _ | with_reducible refine Bel.alloc ?_ _ | with_reducible refine Bel.drewN ?_ _ | with_reducible refine Bel.drew ?_ | (with_reducible refine Bel.setCell0 ?_ ?_ _; rotate_left; (first | omega | (simp; done) | (simp; omega))) | (with_reducible refine Bel.setCell ?_ (p := _) ?_ _; rotate_left; (first | (simp; done) | omega | (simp; omega))) | refine Bel.call ?_ (by assumption) | (refine EX.bel ?_ (by assumption) ?_; rotate_left; (first | omega | (simp; omega)))))
      case false =>
        rw [hm] at hc hme
        rw [if_neg (by simp)] at hc
        replace hme := Lib.hid hme
        by_cases h32 : us.length = 32
        · rw [if_pos h32] at hc
          subst hc
          have h32I : ((us.length : Int) == 32) = true := by simp; omega
          clear hc0 hi hm h32
          go_enter Try.func15, Try.ntmps15
          go_wp2_with fail
          refine (hck.out _ (h.ext hx3)).mono ?_
          rintro e w1 ⟨rfl, hw1⟩
          obtain ⟨hcw1, hfw1⟩ := bcell hw1
          have hzw1 := bsize hw1
          (try simp only [World.size_alloc, World.size_setCell, World.size_drew, World.heap_drewN] at hcw1 hfw1 hzw1)
          have l0w1 : w.heap.size < w1.heap.size := by omega
          have l1w1 : w.heap.size + 1 < w1.heap.size := by omega
          have l2w1 : w.heap.size + 1 + 1 < w1.heap.size := by omega
          have hx1 := ext_trans hx3 hw1
          go_wp2_with fail
          refine (hin.out _).mono ?_
          rintro e w2 ⟨rfl, hw2⟩
          obtain ⟨hcw2, hfw2⟩ := bcell hw2
          have hzw2 := bsize hw2
          (try simp only [World.size_alloc, World.size_setCell, World.size_drew, World.heap_drewN] at hcw2 hfw2 hzw2)
          have l0w2 : w.heap.size < w2.heap.size := by omega
          have l1w2 : w.heap.size + 1 < w2.heap.size := by omega
          have l2w2 : w.heap.size + 1 + 1 < w2.heap.size := by omega
          have hx2 := ext_trans hx1 hw2
          go_wp2_with fail
          refine (hme.out _ (h.ext hx2)).mono ?_
          rintro e w4 ⟨rfl, hw4⟩
          obtain ⟨hcw4, hfw4⟩ := bcell hw4
          have hzw4 := bsize hw4
          (try simp only [World.size_alloc, World.size_setCell, World.size_drew, World.heap_drewN] at hcw4 hfw4 hzw4)
          have l0w4 : w.heap.size < w4.heap.size := by omega
          have l1w4 : w.heap.size + 1 < w4.heap.size := by omega
          have l2w4 : w.heap.size + 1 + 1 < w4.heap.size := by omega
          go_wp2_with fail
          refine bodyPost_ret ?_ rfl ⟨rfl, Bel.bel (B := _) ?_⟩
          · simp [results, Try.results15, go_sem, hcw1, hcw2, hcw4, l2w1, l2w2]
          · (repeat (first | with_reducible assumption | with_reducible exact Bel.refl _ | with_reducible refine Bel.alloc ?_ _ | with_reducible refine Bel.drewN ?_ _ | with_reducible refine Bel.drew ?_ | (with_reducible refine Bel.setCell0 ?_ ?_ _; rotate_left; (first | omega | (simp; done) | (simp; omega))) | (with_reducible refine Bel.setCell ?_ (p := _) ?_ _; rotate_left; (first | (simp; done) | omega | (simp; omega))) | refine Bel.call ?_ (by assumption) | (refine EX.bel ?_ (by assumption) ?_; rotate_left; (first | omega | (simp; omega)))))
        · rw [if_neg h32] at hc
          exact absurd hc hc0
  · unfold claimE at hc
    rw [if_neg h0] at hc
    rw [← hc] at hck
    have hne : (c != 0) = true := by simpa using hc0
    replace hck := Lib.hid hck
    clear hc h0 hc0
    go_enter Try.func15, Try.ntmps15
    go_wp2_with fail
    refine (hck.out _ (h.ext hx3)).mono ?_
    rintro e w1 ⟨rfl, hw1⟩
    obtain ⟨hcw1, hfw1⟩ := bcell hw1
    have hzw1 := bsize hw1
    (try simp only [World.size_alloc, World.size_setCell, World.size_drew, World.heap_drewN] at hcw1 hfw1 hzw1)
    have l0w1 : w.heap.size < w1.heap.size := by omega
    have l1w1 : w.heap.size + 1 < w1.heap.size := by omega
    have l2w1 : w.heap.size + 1 + 1 < w1.heap.size := by omega
    go_wp2_with fail
    refine bodyPost_ret ?_ rfl ⟨rfl, Bel.bel (B := _) ?_⟩
    · simp [results, Try.results15, go_sem, hcw1, l2w1]
    · (repeat (first | with_reducible assumption | with_reducible exact Bel.refl _ | with_reducible refine Bel.alloc ?_ _ | with_reducible refine Bel.drewN ?_ _ | with_reducible refine Bel.drew ?_ | (with_reducible refine Bel.setCell0 ?_ ?_ _; rotate_left; (first | omega | (simp; done) | (simp; omega))) | (with_reducible refine Bel.setCell ?_ (p := _) ?_ _; rotate_left; (first | (simp; done) | omega | (simp; omega))) | refine Bel.call ?_ (by assumption) | (refine EX.bel ?_ (by assumption) ?_; rotate_left; (first | omega | (simp; omega)))))
end Go.Proofs.Ytflbpkgnadjokaa
