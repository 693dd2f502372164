/- space.Claim as a whole; space.Free. -/
import Derived.Test.YtflbpkgnadjokaaSpace9
import Derived.Test.YtflbpkgnadjokaaSlP2
namespace Go.Proofs.Ytflbpkgnadjokaa
open Go Go.RowKit Go.Proofs
theorem claim_any {A : Area} (root : Pfx) (us : List Pfx) (uo : Option Addr) (ucap : Nat) (p : Pfx) (w : World) (h : Sl A w 2 Pfx.R uo ucap us) :
    Calls Try.prog 15 #[.agg #[.int .i64 root.at_, .int .i64 root.len, .slice uo us.length ucap], .agg #[.int .i64 p.at_, .int .i64 p.len]] w (SpOut w (claimE root us p) root (insU p us)) := by
  by_cases hc : claimE root us p = 0
  · rw [hc]; exact claim_ok root us uo ucap p w h hc
  · exact (claim_err root us uo ucap p w h _ rfl hc).mono fun e w' ⟨h1, h2⟩ => .inr ⟨hc, h1, h2⟩
def delU (p : Pfx) (us : List Pfx) : List Pfx := us.filter fun q => !decide (q = p)
def freeE (root : Pfx) (us : List Pfx) (p : Pfx) : Int := if chkS root us = 0 then (if p ∈ us then 0 else 5) else chkS root us
theorem del_none : ∀ (l : List Pfx) (p : Pfx), p ∉ l → delU p l = l := by
  intro l p h
  unfold delU
  rw [List.filter_eq_self]
  intro q hq
  simp
  rintro rfl
  exact h hq
theorem del_idx : ∀ (l : List Pfx) (p : Pfx), l.Nodup → ∀ i (hi : i < l.length), l[i] = p → l.eraseIdx i = delU p l
  | [], _, _, i, hi, _ => absurd hi (by simp)
  | x :: t, p, h, 0, _, e => by
    have : x = p := e
    subst this
    have hx := (List.nodup_cons.1 h).1
    have := del_none t x hx
    unfold delU at *
    simp [this]
  | x :: t, p, h, i + 1, hi, e => by
    obtain ⟨h1, h2⟩ := List.nodup_cons.1 h
    have hi' : i < t.length := by simpa using hi
    have e' : t[i] = p := by simpa using e
    have ih := del_idx t p h2 i hi' e'
    have hne : x ≠ p := by rintro rfl; exact h1 (by rw [← e']; exact List.getElem_mem hi')
    unfold delU at *
    simp [hne, ih]
theorem us_nodup {root : Pfx} {us : List Pfx} (h : SpaceOK root us) : us.Nodup := by
  refine h.apart.imp_of_mem ?_
  rintro a b ha _ hab rfl
  have := a.hi_bd (insQ_hi.1 (h.ins a ha)).1
  unfold Apart at hab
  omega
theorem idx_mem {l : List Pfx} {p : Pfx} (h : p ∈ l) : ∃ i, ∃ (hi : i < l.length), idxOf (fun x => decide (p = x)) l = (i : Int) ∧ l[i] = p := by
  unfold idxOf
  cases hf : l.findIdx? (fun x => decide (p = x)) with
  | none =>
    rw [List.findIdx?_eq_none_iff] at hf
    have := hf p h
    simp at this
  | some i =>
    rw [List.findIdx?_eq_some_iff_getElem] at hf
    obtain ⟨hi, h1, _⟩ := hf
    exact ⟨i, hi, rfl, (of_decide_eq_true h1).symm⟩
theorem idx_no {l : List Pfx} {p : Pfx} (h : p ∉ l) : idxOf (fun x => decide (p = x)) l = -1 :=
  idx_none fun j hj => by simp; rintro rfl; exact h (List.getElem_mem hj)
set_option maxHeartbeats 1500000 in
set_option maxRecDepth 100000 in
theorem free_err {A : Area} (root : Pfx) (us : List Pfx) (uo : Option Addr) (ucap : Nat) (p : Pfx) (w : World) (h : Sl A w 2 Pfx.R uo ucap us) (c : Int) (hc : c = freeE root us p) (hc0 : c ≠ 0) :
    Calls Try.prog 16 #[.agg #[.int .i64 root.at_, .int .i64 root.len, .slice uo us.length ucap], .agg #[.int .i64 p.at_, .int .i64 p.len]] w fun e w' => e = .returned (.tuple #[.agg #[.int .i64 0, .int .i64 0, .slice none 0 0], .int .i64 c]) ∧ Ext w w' := by
  have hck := fun W (h : Sl A W 2 Pfx.R uo ucap us) => spaceCheck_any root us uo ucap W h
  have hx3 : Ext w (((w.alloc (.cells #[.int .i64 root.at_, .int .i64 root.len, .slice uo us.length ucap] 26)).alloc (.cells #[.int .i64 p.at_, .int .i64 p.len] 23)).alloc (.cells #[.int .i64 0, .int .i64 0, .slice none 0 0] 26)) := ext_trans (ext_alloc _ _) (ext_trans (ext_alloc _ _) (ext_alloc _ _))
  unfold freeE at hc
  by_cases h0 : chkS root us = 0
  · rw [if_pos h0] at hc
    rw [h0] at hck
    by_cases hm : p ∈ us
    · rw [if_pos hm] at hc; exact absurd hc hc0
    · rw [if_neg hm] at hc
      subst hc
      have hix := fun W (h : Sl A W 2 Pfx.R uo ucap us) => index_P p us uo ucap W h
      rw [idx_no hm] at hix
      replace hck := Lib.hid hck
      replace hix := Lib.hid hix
      clear h0 hm hc0
      go_enter Try.func16, Try.ntmps16
      go_wp2_with fail
      refine (hck.out _ (h.ext hx3)).mono ?_
      rintro e w1 ⟨rfl, hw1⟩
      obtain ⟨hcw1, hfw1⟩ := bcell hw1
      have hzw1 := bsize hw1
      (try simp only [World.size_alloc, World.size_setCell, World.size_drew, World.heap_drewN] at hcw1 hfw1 hzw1)
      have l0w1 : w.heap.size < w1.heap.size := by omega
      have l1w1 : w.heap.size + 1 < w1.heap.size := by omega
      have l2w1 : w.heap.size + 1 + 1 < w1.heap.size := by omega
      have hx1 := ext_trans hx3 hw1
      go_wp2_with fail
      refine (hix.out _ (h.ext hx1)).mono ?_
      rintro e w2 ⟨rfl, hw2⟩
      obtain ⟨hcw2, hfw2⟩ := bcell hw2
      have hzw2 := bsize hw2
      (try simp only [World.size_alloc, World.size_setCell, World.size_drew, World.heap_drewN] at hcw2 hfw2 hzw2)
      have l0w2 : w.heap.size < w2.heap.size := by omega
      have l1w2 : w.heap.size + 1 < w2.heap.size := by omega
      have l2w2 : w.heap.size + 1 + 1 < w2.heap.size := by omega
      go_wp2_with fail
      refine bodyPost_ret ?_ rfl ⟨rfl, Bel.bel (B := _) ?_⟩
      · simp [results, Try.results16, go_sem, hcw1, hcw2, l2w1, l2w2]
      · (repeat (first | with_reducible assumption | with_reducible exact Bel.refl _ | with_reducible refine Bel.alloc ?_ _ | with_reducible refine Bel.drewN ?_ _ | with_reducible refine Bel.drew ?_ | (with_reducible refine Bel.setCell0 ?_ ?_ _; rotate_left; (first | omega | (simp; done) | (simp; omega))) | (with_reducible refine Bel.setCell ?_ (p := _) ?_ _; rotate_left; (first | (simp; done) | omega | (simp; omega))) | refine Bel.call ?_ (by assumption) | (refine EX.bel ?_ (by assumption) ?_; rotate_left; (first | omega | (simp; omega)))))
  · rw [if_neg h0] at hc
    rw [← hc] at hck
    have hne : (c != 0) = true := by simpa using hc0
    replace hck := Lib.hid hck
    clear hc h0 hc0
    go_enter Try.func16, Try.ntmps16
    go_wp2_with fail
    refine (hck.out _ (h.ext hx3)).mono ?_
    rintro e w1 ⟨rfl, hw1⟩
    obtain ⟨hcw1, hfw1⟩ := bcell hw1
    have hzw1 := bsize hw1
    (try simp only [World.size_alloc, World.size_setCell, World.size_drew, World.heap_drewN] at hcw1 hfw1 hzw1)
    have l0w1 : w.heap.size < w1.heap.size := by omega
    have l1w1 : w.heap.size + 1 < w1.heap.size := by omega
    have l2w1 : w.heap.size + 1 + 1 < w1.heap.size := by omega
    go_wp2_with fail
    refine bodyPost_ret ?_ rfl ⟨rfl, Bel.bel (B := _) ?_⟩
    · simp [results, Try.results16, go_sem, hcw1, l2w1]
    · (repeat (first | with_reducible assumption | with_reducible exact Bel.refl _ | with_reducible refine Bel.alloc ?_ _ | with_reducible refine Bel.drewN ?_ _ | with_reducible refine Bel.drew ?_ | (with_reducible refine Bel.setCell0 ?_ ?_ _; rotate_left; (first | omega | (simp; done) | (simp; omega))) | (with_reducible refine Bel.setCell ?_ (p := _) ?_ _; rotate_left; (first | (simp; done) | omega | (simp; omega))) | refine Bel.call ?_ (by assumption) | (refine EX.bel ?_ (by assumption) ?_; rotate_left; (first | omega | (simp; omega)))))
set_option maxHeartbeats 1500000 in
set_option maxRecDepth 100000 in
theorem free_ok {A : Area} (root : Pfx) (us : List Pfx) (uo : Option Addr) (ucap : Nat) (p : Pfx) (w : World) (h : Sl A w 2 Pfx.R uo ucap us) (hc : freeE root us p = 0) :
    Calls Try.prog 16 #[.agg #[.int .i64 root.at_, .int .i64 root.len, .slice uo us.length ucap], .agg #[.int .i64 p.at_, .int .i64 p.len]] w (SpOut w 0 root (delU p us)) := by
  have hck := fun W (h : Sl A W 2 Pfx.R uo ucap us) => spaceCheck_any root us uo ucap W h
  have hx3 : Ext w (((w.alloc (.cells #[.int .i64 root.at_, .int .i64 root.len, .slice uo us.length ucap] 26)).alloc (.cells #[.int .i64 p.at_, .int .i64 p.len] 23)).alloc (.cells #[.int .i64 0, .int .i64 0, .slice none 0 0] 26)) := ext_trans (ext_alloc _ _) (ext_trans (ext_alloc _ _) (ext_alloc _ _))
  unfold freeE at hc
  have h0 : chkS root us = 0 := by
    by_cases h0 : chkS root us = 0
    · exact h0
    · rw [if_neg h0] at hc; exact hc
  rw [if_pos h0] at hc
  have hm : p ∈ us := by
    by_cases hm : p ∈ us
    · exact hm
    · rw [if_neg hm] at hc; cases hc
  have hok := chkS_ok.1 h0
  have hmany := hok.many
  obtain ⟨i, hi, hix0, hip⟩ := idx_mem hm
  have hfin := del_idx us p (us_nodup hok) i hi hip
  have hix := fun W (h : Sl A W 2 Pfx.R uo ucap us) => index_P p us uo ucap W h
  rw [hix0] at hix
  rw [h0] at hck
  have hcl := fun W (h : Sl A W 2 Pfx.R uo ucap us) => clone_any us uo ucap W h (by omega)
  have hiw : IntKind.i64.wrap ((i : Int) + 1) = (i : Int) + 1 := IntWalk.i64_in _ (by omega)
  have hi0 : decide ((i : Int) < 0) = false := by simp
  replace hck := Lib.hid hck
  replace hix := Lib.hid hix
  replace hcl := Lib.hid hcl
  replace hfin := Lib.hid hfin
  clear hc h0 hm hok hix0 hip
  go_enter Try.func16, Try.ntmps16
  go_wp2_with fail
  refine (hck.out _ (h.ext hx3)).mono ?_
  rintro e w1 ⟨rfl, hw1⟩
  obtain ⟨hcw1, hfw1⟩ := bcell hw1
  have hzw1 := bsize hw1
  (try simp only [World.size_alloc, World.size_setCell, World.size_drew, World.heap_drewN] at hcw1 hfw1 hzw1)
  have l0w1 : w.heap.size < w1.heap.size := by omega
  have l1w1 : w.heap.size + 1 < w1.heap.size := by omega
  have l2w1 : w.heap.size + 1 + 1 < w1.heap.size := by omega
  have hx1 := ext_trans hx3 hw1
  go_wp2_with fail
  refine (hix.out _ (h.ext hx1)).mono ?_
  rintro e w4 ⟨rfl, hw4⟩
  obtain ⟨hcw4, hfw4⟩ := bcell hw4
  have hzw4 := bsize hw4
  (try simp only [World.size_alloc, World.size_setCell, World.size_drew, World.heap_drewN] at hcw4 hfw4 hzw4)
  have l0w4 : w.heap.size < w4.heap.size := by omega
  have l1w4 : w.heap.size + 1 < w4.heap.size := by omega
  have l2w4 : w.heap.size + 1 + 1 < w4.heap.size := by omega
  have hx4 := ext_trans hx1 hw4
  go_wp2_with fail
  refine region_miz (w.heap.size + 1 + 1) (12) (by kernel_rfl) (by rfl) ?_
  apply miz_take (i := 0)
  · (simp only [List.getElem?_toArray, List.getElem?_cons_succ, List.getElem?_cons_zero] <;> rfl)
  · kernel_rfl
  · exact fun _ _ d _ _ h => by cases d <;> exact h
  · kernel_rfl
  · first | exact want_0 rfl | exact want_b rfl rfl rfl (by with_reducible rfl)
  · intro wq hwq R hR; ((have hcc := SX.lo hwq (by first | omega | (simp; omega) | (simp; done)); (try simp only [World.size_alloc, World.size_setCell, World.size_drew, World.heap_drewN] at hcc)); go_simp; first | exact hR | (fail))
  simp only [Act.put, List.setIfInBounds_toArray, List.set_cons_zero, List.set_cons_succ]
  apply miz_take (i := 1)
  · (simp only [List.getElem?_toArray, List.getElem?_cons_succ, List.getElem?_cons_zero] <;> rfl)
  · kernel_rfl
  · exact fun _ _ d _ _ h => by cases d <;> exact h
  · kernel_rfl
  · first | exact want_0 rfl | exact want_b rfl rfl rfl (by with_reducible rfl)
  · intro wq hwq R hR; ((have hcc := SX.lo hwq (by first | omega | (simp; omega) | (simp; done)); (try simp only [World.size_alloc, World.size_setCell, World.size_drew, World.heap_drewN] at hcc)); go_simp; first | exact hR | (fail))
  simp only [Act.put, List.setIfInBounds_toArray, List.set_cons_zero, List.set_cons_succ]
  apply miz_take (i := 2)
  · (simp only [List.getElem?_toArray, List.getElem?_cons_succ, List.getElem?_cons_zero] <;> rfl)
  · kernel_rfl
  · exact fun _ _ d _ _ h => by cases d <;> exact h
  · kernel_rfl
  · first | exact want_0 rfl | exact want_b rfl rfl rfl (by with_reducible rfl)
  · intro wq hwq R hR; ((have hcc := SX.lo hwq (by first | omega | (simp; omega) | (simp; done)); (try simp only [World.size_alloc, World.size_setCell, World.size_drew, World.heap_drewN] at hcc)); go_simp; first | exact hR | (fail))
  simp only [Act.put, List.setIfInBounds_toArray, List.set_cons_zero, List.set_cons_succ]
  apply miz_take (i := 3)
  · (simp only [List.getElem?_toArray, List.getElem?_cons_succ, List.getElem?_cons_zero] <;> rfl)
  · kernel_rfl
  · exact fun _ _ d _ _ h => by cases d <;> exact h
  · kernel_rfl
  · first | exact want_0 rfl | exact want_b rfl rfl rfl (by with_reducible rfl)
  · intro wq hwq R hR; ((have hcc := SX.lo hwq (by first | omega | (simp; omega) | (simp; done)); (try simp only [World.size_alloc, World.size_setCell, World.size_drew, World.heap_drewN] at hcc)); go_simp; first | exact hR | (fail))
  simp only [Act.put, List.setIfInBounds_toArray, List.set_cons_zero, List.set_cons_succ]
  apply miz_take (i := 5)
  · (simp only [List.getElem?_toArray, List.getElem?_cons_succ, List.getElem?_cons_zero] <;> rfl)
  · kernel_rfl
  · exact fun _ _ d _ _ h => by cases d <;> exact h
  · kernel_rfl
  · first | exact want_0 rfl | exact want_b rfl rfl rfl (by with_reducible rfl)
  · intro wq hwq R hR; ((have hcc := SX.lo hwq (by first | omega | (simp; omega) | (simp; done)); (try simp only [World.size_alloc, World.size_setCell, World.size_drew, World.heap_drewN] at hcc)); go_simp; first | exact hR | (fail))
  simp only [Act.put, List.setIfInBounds_toArray, List.set_cons_zero, List.set_cons_succ]
  apply miz_take (i := 6)
  · (simp only [List.getElem?_toArray, List.getElem?_cons_succ, List.getElem?_cons_zero] <;> rfl)
  · kernel_rfl
  · exact fun _ _ d _ _ h => by cases d <;> exact h
  · kernel_rfl
  · first | exact want_0 rfl | exact want_b rfl rfl rfl (by with_reducible rfl)
  · intro wq hwq R hR; ((have hcc := SX.lo hwq (by first | omega | (simp; omega) | (simp; done)); (try simp only [World.size_alloc, World.size_setCell, World.size_drew, World.heap_drewN] at hcc)); go_simp; first | exact hR | (fail))
  simp only [Act.put, List.setIfInBounds_toArray, List.set_cons_zero, List.set_cons_succ]
  apply miz_take (i := 7)
  · (simp only [List.getElem?_toArray, List.getElem?_cons_succ, List.getElem?_cons_zero] <;> rfl)
  · kernel_rfl
  · exact fun _ _ d _ _ h => by cases d <;> exact h
  · kernel_rfl
  · first | exact want_0 rfl | exact want_b rfl rfl rfl (by with_reducible rfl)
  · intro wq hwq R hR; ((have hcc := SX.lo hwq (by first | omega | (simp; omega) | (simp; done)); (try simp only [World.size_alloc, World.size_setCell, World.size_drew, World.heap_drewN] at hcc)); go_simp; first | exact hR | (fail))
  simp only [Act.put, List.setIfInBounds_toArray, List.set_cons_zero, List.set_cons_succ]
  refine miz_one (i := 4) (by kernel_rfl) (by (simp only [List.getElem?_toArray, List.getElem?_cons_succ, List.getElem?_cons_zero] <;> rfl)) (by first | exact want_0 rfl | exact want_b rfl rfl rfl (by with_reducible rfl)) (fun w5 hw5 K hK => ?_)
  obtain ⟨hcw5, hfw5⟩ := bcell hw5
  have hzw5 := bsize hw5
  (try simp only [World.size_alloc, World.size_setCell, World.size_drew, World.heap_drewN] at hcw5 hfw5 hzw5)
  go_simp
  have hx5 := ext_trans hx4 hw5
  refine (hcl.out w5 (h.ext hx5)).mono ?_
  rintro e w6 ⟨v, rfl, hown6, hw6⟩
  have hz6 := bsize hw6
  refine hK _ _ (SX.of hw6) ?_
  clear hK K
  (try simp only [Act.put, List.setIfInBounds_toArray, List.set_cons_zero, List.set_cons_succ])
  obtain ⟨g, cap, rfl⟩ := ownsRow_succ (k := us.length - 1) (by rw [show us.length - 1 + 1 = us.length from by omega]; exact hown6)
  rw [show us.length - 1 + 1 = us.length from by omega] at hown6 ⊢
  have hg := hown6.lt g rfl
  have hfl6 := fl_own hown6 rfl
  clear hown6
  refine miz_one (i := 8) (by kernel_rfl) (by (simp only [List.getElem?_toArray, List.getElem?_cons_succ, List.getElem?_cons_zero] <;> rfl)) (by first | exact want_0 rfl | exact want_b rfl rfl rfl (by with_reducible rfl)) (fun w7 hw7 K hK => ?_)
  obtain ⟨hcw7, hfw7⟩ := bcell hw7
  have hzw7 := bsize hw7
  (try simp only [World.size_alloc, World.size_setCell, World.size_drew, World.heap_drewN] at hcw7 hfw7 hzw7)
  go_simp
  have hg7 : g < w7.heap.size := by omega
  refine (delete_any us g cap i w7 (hfl6.of_block (hw7.block g hg.2)) hi).mono ?_
  rintro e w8 ⟨rfl, hfl8, hg8⟩
  have hz8 := hg8.size
  refine hK _ _ (SX.grown hg8 (fun r e => by cases e; omega)) ?_
  clear hK K
  (try simp only [Act.put, List.setIfInBounds_toArray, List.set_cons_zero, List.set_cons_succ])
  have hS8 : SX w4.heap.size w4 w8 := ((SX.of hw5).trans (SX.of hw6)).trans ((SX.of hw7).trans (SX.grown hg8 (fun r e => by cases e; omega)))
  have hcc8 := hS8.lo (Nat.le_refl _)
  have hff8 := hS8.fr (Nat.le_refl _)
  have hsz8 := hS8.size
  have hln : Hid (us.length - 1 = (delU p us).length) := Lib.hid (by rw [← hfin.out, List.length_eraseIdx_of_lt hi])
  have hlo8 : w.heap.size + 1 + 1 ≤ w8.heap.size := by omega
  have l0w8 : w.heap.size < w8.heap.size := by omega
  have l1w8 : w.heap.size + 1 < w8.heap.size := by omega
  have l2w8 : w.heap.size + 1 + 1 < w8.heap.size := by omega
  clear hcw5 hfw5 hcw7 hfw7 hiw hi0
  apply miz_take (i := 9)
  · (simp only [List.getElem?_toArray, List.getElem?_cons_succ, List.getElem?_cons_zero] <;> rfl)
  · kernel_rfl
  · exact fun _ _ d _ _ h => by cases d <;> exact h
  · kernel_rfl
  · first | exact want_0 rfl | exact want_b rfl rfl rfl (by with_reducible rfl)
  · intro wq hwq R hR; ((have hcc := SX.lo hwq (by first | omega | (simp; omega) | (simp; done)); (try simp only [World.size_alloc, World.size_setCell, World.size_drew, World.heap_drewN] at hcc)); go_simp; first | exact hR | (fail))
  simp only [Act.put, List.setIfInBounds_toArray, List.set_cons_zero, List.set_cons_succ]
  refine miz_one (i := 10) (by kernel_rfl) (by (simp only [List.getElem?_toArray, List.getElem?_cons_succ, List.getElem?_cons_zero] <;> rfl)) (by first | exact want_0 rfl | exact want_b rfl rfl rfl (by with_reducible rfl)) (fun w9 hw9 K hK => ?_)
  obtain ⟨hcw9, hfw9⟩ := bcell hw9
  have hzw9 := bsize hw9
  (try simp only [World.size_alloc, World.size_setCell, World.size_drew, World.heap_drewN] at hcw9 hfw9 hzw9)
  go_simp
  refine hK _ _ (((SX.setCell (by omega) _).trans (SX.setCell (by omega) _)).trans (SX.setCell (by omega) _)) ?_
  clear hK K
  (try simp only [Act.put, List.setIfInBounds_toArray, List.set_cons_zero, List.set_cons_succ])
  apply miz_take (i := 11)
  · (simp only [List.getElem?_toArray, List.getElem?_cons_succ, List.getElem?_cons_zero] <;> rfl)
  · kernel_rfl
  · exact fun _ _ d _ _ h => by cases d <;> exact h
  · kernel_rfl
  · first | exact want_0 rfl | exact want_b rfl rfl rfl (by with_reducible rfl)
  · intro wq hwq R hR; ((have hcc := SX.lo hwq (by first | omega | (simp; omega) | (simp; done)); (try simp only [World.size_alloc, World.size_setCell, World.size_drew, World.heap_drewN] at hcc)); go_simp; first | exact hR | (fail))
  simp only [Act.put, List.setIfInBounds_toArray, List.set_cons_zero, List.set_cons_succ]
  refine miz_nil (by kernel_rfl) ?_
  intro w10 hw10
  have hcw10 := (bcell hw10).1
  simp only [World.size_setCell] at hcw10
  have l2w9 : w.heap.size + 1 + 1 < w9.heap.size := by omega
  have hz10 := bsize hw10
  simp only [World.size_setCell] at hz10
  have hb9 : w9.heap[g]? = w8.heap[g]? := hw9.block g (by omega)
  have hb10 : w10.heap[g]? = w9.heap[g]? := by
    rw [hw10.block g (by simp only [World.size_setCell]; omega), block_setCell_ne _ (by show w.heap.size + 1 + 1 ≠ g; omega), block_setCell_ne _ (by show w.heap.size + 1 + 1 ≠ g; omega), block_setCell_ne _ (by show w.heap.size + 1 + 1 ≠ g; omega)]
  have hB4 : Bel w.heap.size w w4 := ⟨hx4, by omega⟩
  have hB8 : Bel w.heap.size w w8 := SX.bel hB4 hS8 (by omega)
  have hB10 : Bel w.heap.size w w10 := ((((hB8.call hw9).setCell0 (by omega) _).setCell0 (by omega) _).setCell0 (by omega) _).call hw10
  go_wp2_with fail
  refine bodyPost_ret (v := .tuple #[.agg #[.int .i64 root.at_, .int .i64 root.len, .slice (some ⟨g, 0, none⟩) (us.length - 1) cap], .int .i64 0]) ?_ rfl (.inl ⟨rfl, some ⟨g, 0, none⟩, cap, by rw [hln.out], ?_, hB10.bel⟩)
  · simp [results, Try.results16, go_sem, hcw1, hcw4, hcc8, hcw9, hcw10, l2w1, l2w4, l2w8, l2w9]
  · rw [← hfin.out]
    exact Fl.sl ((hfl8.of_block hb9).of_block hb10) (by show w.heap.size ≤ g; omega)
theorem free_any {A : Area} (root : Pfx) (us : List Pfx) (uo : Option Addr) (ucap : Nat) (p : Pfx) (w : World) (h : Sl A w 2 Pfx.R uo ucap us) :
    Calls Try.prog 16 #[.agg #[.int .i64 root.at_, .int .i64 root.len, .slice uo us.length ucap], .agg #[.int .i64 p.at_, .int .i64 p.len]] w (SpOut w (freeE root us p) root (delU p us)) := by
  by_cases hc : freeE root us p = 0
  · rw [hc]; exact free_ok root us uo ucap p w h hc
  · exact (free_err root us uo ucap p w h _ rfl hc).mono fun e w' ⟨h1, h2⟩ => .inr ⟨hc, h1, h2⟩
end Go.Proofs.Ytflbpkgnadjokaa
