/- The law SpaceFits. -/
import Derived.Test.YtflbpkgnadjokaaSpaceB
import Derived.Test.YtflbpkgnadjokaaSpaceR4
namespace Go.Proofs.Ytflbpkgnadjokaa
open Go Go.RowKit Go.Proofs
theorem Sl.below {α : Type} {w W : World} {n k : Nat} {R : List Value → α → Prop} {ao : Option Addr} {cap : Nat} {l : List α} (h : Sl (fun b => b < n) w k R ao cap l) (hb : ∀ b, b < n → W.heap[b]? = w.heap[b]?) : Sl (fun b => b < n) W k R ao cap l := by
  refine ⟨h.cap_le, h.cap_max, fun i hi => ?_⟩
  obtain ⟨b, off, cs, h1, h2, h3, h4, h5⟩ := h.elem i hi
  exact ⟨b, off, cs, h1, h2, h3, h4, fun j hj => (World.cell?_of_block (w := w) (hb b h2)).trans (h5 j hj)⟩
theorem fit_ref {root : Pfx} {us : List Pfx} {size : Int} (h0 : chkS root us = 0) (h1 : root.len ≤ size ∧ size ≤ 16) : fitS root us size = ((fitR root us size).1, (fitR root us size).2, 0) := by
  unfold fitS fitR
  rw [if_pos h0, if_neg (by omega)]
  cases (holesS root us).find? (fun q => decide (q.len ≤ size)) <;> rfl
set_option maxHeartbeats 2000000 in
set_option maxRecDepth 100000 in
theorem fits_in {A : Area} (root : Pfx) (us : List Pfx) (uo : Option Addr) (ucap : Nat) (size : Int) (w : World) (h : Sl A w 2 Pfx.R uo ucap us) (h0 : chkS root us = 0) (h1 : root.len ≤ size ∧ size ≤ 16) :
    Calls Try.prog 3 #[.agg #[.int .i64 root.at_, .int .i64 root.len, .slice uo us.length ucap], .int .i64 size] w fun e w' => e = .returned (.bool true) ∧ Ext w w' := by
  have hck := fun W (h : Sl A W 2 Pfx.R uo ucap us) => spaceCheck_any root us uo ucap W h
  have hcr := fun W (h : Sl A W 2 Pfx.R uo ucap us) => checkSpace_any root us uo ucap W h
  have hft := fun W (h : Sl A W 2 Pfx.R uo ucap us) => fit_any root us uo ucap size W h
  have hho := fun W (h : Sl A W 2 Pfx.R uo ucap us) => holes_any root us uo ucap W h
  have hok := chkS_ok.1 h0
  have hhr := fun W (h : Sl A W 2 Pfx.R uo ucap us) => holesOf_any root us uo ucap W h hok
  have hfr := fun W (h : Sl A W 2 Pfx.R uo ucap us) => fitOf_any root us uo ucap size W h hok h1.1 h1.2
  rw [chkS_eq, h0] at hcr
  rw [h0] at hck
  rw [fit_ref h0 h1] at hft
  simp only at hft
  obtain ⟨q, hq⟩ : ∃ q, q = (fitR root us size).1 := ⟨_, rfl⟩
  obtain ⟨b, hb⟩ : ∃ b, b = (fitR root us size).2 := ⟨_, rfl⟩
  rw [← hq, ← hb] at hft hfr
  clear hq hb
  unfold Pfx.v at hft hfr
  have hlo : decide (size < root.len) = false := by simp; omega
  have hhi : decide (16 < size) = false := by simp; omega
  replace hck := Lib.hid hck
  replace hcr := Lib.hid hcr
  replace hft := Lib.hid hft
  replace hfr := Lib.hid hfr
  replace hho := Lib.hid hho
  replace hhr := Lib.hid hhr
  replace h0 := Lib.hid h0
  clear hok h1
  go_enter Try.func3, Try.ntmps3
  go_wp2_with fail
  refine (hft.out _ (h.ext (ext_alloc _ _))).mono ?_
  rintro e w1 ⟨rfl, hw1⟩
  obtain ⟨hcw1, hfw1⟩ := bcell hw1
  have hzw1 := bsize hw1
  (try simp only [World.size_alloc, World.size_setCell, World.size_drew, World.heap_drewN] at hcw1 hfw1 hzw1)
  have l1 : w.heap.size < w1.heap.size := by omega
  have hx1 := ext_trans (ext_alloc _ _) hw1
  go_wp2_with fail
  have p0 := cell_of_block (o := 0) (block_new w1 (.cells #[.int .i64 q.at_, .int .i64 q.len] 23)) rfl
  have p1 := cell_of_block (o := 1) (block_new w1 (.cells #[.int .i64 q.at_, .int .i64 q.len] 23)) rfl
  refine (hho.out _ (h.ext (ext_trans hx1 (ext_alloc _ _)))).mono ?_
  rintro e w2 (⟨-, ao, cap, rfl, hs2, hx2⟩ | ⟨hn, -⟩)
  case inr => exact absurd h0.out hn
  replace p0 := keepCell hx2 p0
  replace p1 := keepCell hx2 p1
  have hx12 := ext_trans (ext_trans hx1 (ext_alloc _ _)) hx2
  obtain ⟨PB, hPB⟩ : ∃ PB, PB = w1.heap.size := ⟨_, rfl⟩
  rw [← hPB] at p0 p1 ⊢
  have hPB' := hPB
  replace hPB' := Lib.hid hPB'
  have lPB := lt_of_cell p0
  have hbx : blk w2 w.heap.size #[.int .i64 root.at_, .int .i64 root.len, .slice uo us.length ucap] 26 := blk_ext (blk_ext (blk_ext (block_new _ _) hw1) (ext_alloc _ _)) hx2
  have s0 := blk_cell (o := 0) hbx rfl
  have s1 := blk_cell (o := 1) hbx rfl
  have s2 := blk_cell (o := 2) hbx rfl
  have l2 : w.heap.size < w2.heap.size := lt_of_block hbx
  clear hcw1 hfw1 hzw1 hPB
  go_wp2_with fail
  refine (hcr.out _ (h.ext hx12)).mono ?_
  rintro e w3 ⟨rfl, hw3⟩
  obtain ⟨hcw3, hfw3⟩ := bcell hw3
  have hzw3 := bsize hw3
  (try simp only [World.size_alloc, World.size_setCell, World.size_drew, World.heap_drewN] at hcw3 hfw3 hzw3)
  replace p0 := keepCell hw3 p0
  replace p1 := keepCell hw3 p1
  replace hbx := blk_ext hbx hw3
  replace s0 := blk_cell (o := 0) hbx rfl
  replace s1 := blk_cell (o := 1) hbx rfl
  replace s2 := blk_cell (o := 2) hbx rfl
  have l3 : w.heap.size < w3.heap.size := lt_of_block hbx
  have lPB3 := lt_of_cell p0
  replace hs2 := hs2.ext hw3
  have hbp : blk w3 PB #[.int .i64 q.at_, .int .i64 q.len] 23 := by rw [hPB'.out]; exact blk_ext (blk_ext (block_new _ _) hx2) hw3
  have hbx3 := hbx
  have hs3 := hs2.inW
  have hx13 := ext_trans hx12 hw3
  clear hcw3 hfw3
  go_wp2_with fail
  refine (hfr.out _ (h.ext (ext_trans hx13 (ext_alloc _ _)))).mono ?_
  rintro e w4 ⟨rfl, hw4⟩
  obtain ⟨hcw4, hfw4⟩ := bcell hw4
  have hzw4 := bsize hw4
  (try simp only [World.size_alloc, World.size_setCell, World.size_drew, World.heap_drewN] at hcw4 hfw4 hzw4)
  replace p0 := keepCell hw4 (keepCell (ext_alloc _ _) p0)
  replace p1 := keepCell hw4 (keepCell (ext_alloc _ _) p1)
  replace hbx := blk_ext (blk_ext hbx (ext_alloc _ _)) hw4
  replace s0 := blk_cell (o := 0) hbx rfl
  replace s1 := blk_cell (o := 1) hbx rfl
  replace s2 := blk_cell (o := 2) hbx rfl
  have l4 : w.heap.size < w4.heap.size := lt_of_block hbx
  have lPB4 := lt_of_cell p0
  replace hs2 := hs2.ext (ext_trans (ext_alloc _ _) hw4)
  have hx14 := ext_trans (ext_trans hx13 (ext_alloc _ _)) hw4
  have hbz : blk w4 w3.heap.size #[.int .i64 0, .int .i64 0] 23 := blk_ext (block_new _ _) hw4
  have lZ := lt_of_block hbz
  obtain ⟨ZB, hZB⟩ : ∃ ZB, ZB = w3.heap.size := ⟨_, rfl⟩
  rw [← hZB] at hbz lZ ⊢
  have hZ1 : PB < ZB := by omega
  have hZ2 : w.heap.size < ZB := by omega
  have z0 := blk_cell (o := 0) hbz rfl
  have z1 := blk_cell (o := 1) hbz rfl
  have zf : ∀ o, w4.frozen? ⟨ZB, o, none⟩ = false := fun o => blk_free hbz
  replace hZB := Lib.hid hZB
  clear hcw4 hfw4 hzw4
  go_wp2_with fail
  obtain ⟨wy, hwy⟩ : ∃ wy, wy = (w4.setCell ⟨ZB, 0, none⟩ (.int .i64 q.at_)).setCell ⟨ZB, 1, none⟩ (.int .i64 q.len) := ⟨_, rfl⟩
  rw [← hwy]
  have hB3 : Bel w3.heap.size w3 wy := by
    rw [hwy]
    exact ((((Bel.refl w3).alloc _).call hw4).setCell0 (by rw [hZB.out]; exact Nat.le_refl _) _).setCell0 (by rw [hZB.out]; exact Nat.le_refl _) _
  have hBw : Bel w.heap.size w wy := by
    rw [hwy]
    exact (((((⟨hx13, by omega⟩ : Bel w.heap.size w w3)).alloc _).call hw4).setCell0 (by omega) _).setCell0 (by omega) _
  have hbzy : blk wy ZB #[.int .i64 q.at_, .int .i64 q.len] 23 := by
    rw [hwy]
    exact blk_set (o := 1) (blk_set (o := 0) hbz _) _
  have hbxy : blk wy w.heap.size #[.int .i64 root.at_, .int .i64 root.len, .slice uo us.length ucap] 26 := (hB3.bel.block _ l3).trans hbx3
  have hbpy : blk wy PB #[.int .i64 q.at_, .int .i64 q.len] 23 := (hB3.bel.block _ lPB3).trans hbp
  have hsy := hs3.below hB3.bel.block
  clear hwy hB3 hbz hbx hbx3 hbp hs3 hs2 z0 z1 zf s0 s1 s2 p0 p1 hw4 hw3 hw1 hx2
  refine (hhr.out wy (h.ext hBw.bel)).mono ?_
  rintro e w5 ⟨ao', cap', rfl, hs5, hx5⟩
  replace hsy := hsy.ext hx5
  replace hbzy := blk_ext hbzy hx5
  replace hbxy := blk_ext hbxy hx5
  replace hbpy := blk_ext hbpy hx5
  have hx15 := ext_trans hBw.bel hx5
  go_wp2_with fail
  refine (spaceBegun_any _).mono ?_
  rintro e w6 ⟨rfl, hw6⟩
  obtain ⟨hcw6, hfw6⟩ := bcell hw6
  have hzw6 := bsize hw6
  (try simp only [World.size_alloc, World.size_setCell, World.size_drew, World.heap_drewN] at hcw6 hfw6 hzw6)
  replace hsy := hsy.ext hw6
  replace hs5 := hs5.ext hw6
  replace hbzy := blk_ext hbzy hw6
  replace hbxy := blk_ext hbxy hw6
  replace hbpy := blk_ext hbpy hw6
  have hx16 := ext_trans hx15 hw6
  have s0 := blk_cell (o := 0) hbxy rfl
  have s1 := blk_cell (o := 1) hbxy rfl
  have s2 := blk_cell (o := 2) hbxy rfl
  clear hcw6 hfw6
  go_wp2_with fail
  refine (hck.out _ (h.ext hx16)).mono ?_
  rintro e w7 ⟨rfl, hw7⟩
  obtain ⟨hcw7, hfw7⟩ := bcell hw7
  have hzw7 := bsize hw7
  (try simp only [World.size_alloc, World.size_setCell, World.size_drew, World.heap_drewN] at hcw7 hfw7 hzw7)
  replace hsy := hsy.ext hw7
  replace hs5 := hs5.ext hw7
  replace hbzy := blk_ext hbzy hw7
  replace hbpy := blk_ext hbpy hw7
  have hx17 := ext_trans hx16 hw7
  have p0 := blk_cell (o := 0) hbpy rfl
  have p1 := blk_cell (o := 1) hbpy rfl
  have z0 := blk_cell (o := 0) hbzy rfl
  have z1 := blk_cell (o := 1) hbzy rfl
  clear hcw7 hfw7 s0 s1 s2
  have hsp := samePrefixes_any (holesS root us) (holesS root us) ao ao' cap cap' w7 hsy hs5
  rw [decide_eq_true rfl] at hsp
  replace hsp := Lib.hid hsp
  cases b <;> (
    go_wp2_with fail
    refine (hsp.out).mono ?_
    rintro e w8 ⟨rfl, hw8⟩
    obtain ⟨hcw8, hfw8⟩ := bcell hw8
    have hzw8 := bsize hw8
    (try simp only [World.size_alloc, World.size_setCell, World.size_drew, World.heap_drewN] at hcw8 hfw8 hzw8)
    go_wp2_with fail
    go_ret
    exact ⟨rfl, ext_trans hx17 hw8⟩)
set_option maxHeartbeats 2000000 in
set_option maxRecDepth 100000 in
theorem fits_out {A : Area} (root : Pfx) (us : List Pfx) (uo : Option Addr) (ucap : Nat) (size : Int) (w : World) (h : Sl A w 2 Pfx.R uo ucap us) (h0 : chkS root us = 0) (lo hi : Bool) (hlo : decide (size < root.len) = lo) (hhi : decide (16 < size) = hi) (hor : (lo || hi) = true) :
    Calls Try.prog 3 #[.agg #[.int .i64 root.at_, .int .i64 root.len, .slice uo us.length ucap], .int .i64 size] w fun e w' => e = .returned (.bool true) ∧ Ext w w' := by
  have hck := fun W (h : Sl A W 2 Pfx.R uo ucap us) => spaceCheck_any root us uo ucap W h
  have hcr := fun W (h : Sl A W 2 Pfx.R uo ucap us) => checkSpace_any root us uo ucap W h
  have hft := fun W (h : Sl A W 2 Pfx.R uo ucap us) => fit_any root us uo ucap size W h
  have hho := fun W (h : Sl A W 2 Pfx.R uo ucap us) => holes_any root us uo ucap W h
  have hok := chkS_ok.1 h0
  have hhr := fun W (h : Sl A W 2 Pfx.R uo ucap us) => holesOf_any root us uo ucap W h hok
  have hfe : fitS root us size = (Pfx.zero, false, 3) := by
    unfold fitS
    rw [if_pos h0, if_pos]
    subst hlo
    subst hhi
    simp at hor
    omega
  rw [chkS_eq, h0] at hcr
  rw [h0] at hck
  rw [hfe] at hft
  unfold Pfx.zero Pfx.v at hft
  simp only at hft
  clear hfe
  replace hck := Lib.hid hck
  replace hcr := Lib.hid hcr
  replace hft := Lib.hid hft
  replace hho := Lib.hid hho
  replace hhr := Lib.hid hhr
  replace h0 := Lib.hid h0
  clear hok
  go_enter Try.func3, Try.ntmps3
  go_wp2_with fail
  refine (hft.out _ (h.ext (ext_alloc _ _))).mono ?_
  rintro e w1 ⟨rfl, hw1⟩
  obtain ⟨hcw1, hfw1⟩ := bcell hw1
  have hzw1 := bsize hw1
  (try simp only [World.size_alloc, World.size_setCell, World.size_drew, World.heap_drewN] at hcw1 hfw1 hzw1)
  have l1 : w.heap.size < w1.heap.size := by omega
  have hx1 := ext_trans (ext_alloc _ _) hw1
  go_wp2_with fail
  have p0 := cell_of_block (o := 0) (block_new w1 (.cells #[.int .i64 0, .int .i64 0] 23)) rfl
  have p1 := cell_of_block (o := 1) (block_new w1 (.cells #[.int .i64 0, .int .i64 0] 23)) rfl
  refine (hho.out _ (h.ext (ext_trans hx1 (ext_alloc _ _)))).mono ?_
  rintro e w2 (⟨-, ao, cap, rfl, hs2, hx2⟩ | ⟨hn, -⟩)
  case inr => exact absurd h0.out hn
  replace p0 := keepCell hx2 p0
  replace p1 := keepCell hx2 p1
  have hx12 := ext_trans (ext_trans hx1 (ext_alloc _ _)) hx2
  obtain ⟨PB, hPB⟩ : ∃ PB, PB = w1.heap.size := ⟨_, rfl⟩
  rw [← hPB] at p0 p1 ⊢
  have hPB' := hPB
  replace hPB' := Lib.hid hPB'
  have lPB := lt_of_cell p0
  have hbx : blk w2 w.heap.size #[.int .i64 root.at_, .int .i64 root.len, .slice uo us.length ucap] 26 := blk_ext (blk_ext (blk_ext (block_new _ _) hw1) (ext_alloc _ _)) hx2
  have s0 := blk_cell (o := 0) hbx rfl
  have s1 := blk_cell (o := 1) hbx rfl
  have s2 := blk_cell (o := 2) hbx rfl
  have l2 : w.heap.size < w2.heap.size := lt_of_block hbx
  clear hcw1 hfw1 hzw1 hPB
  go_wp2_with fail
  refine (hcr.out _ (h.ext hx12)).mono ?_
  rintro e w3 ⟨rfl, hw3⟩
  obtain ⟨hcw3, hfw3⟩ := bcell hw3
  have hzw3 := bsize hw3
  (try simp only [World.size_alloc, World.size_setCell, World.size_drew, World.heap_drewN] at hcw3 hfw3 hzw3)
  replace p0 := keepCell hw3 p0
  replace p1 := keepCell hw3 p1
  replace hbx := blk_ext hbx hw3
  replace s0 := blk_cell (o := 0) hbx rfl
  replace s1 := blk_cell (o := 1) hbx rfl
  replace s2 := blk_cell (o := 2) hbx rfl
  have l3 : w.heap.size < w3.heap.size := lt_of_block hbx
  have lPB3 := lt_of_cell p0
  replace hs2 := hs2.ext hw3
  have hbp : blk w3 PB #[.int .i64 0, .int .i64 0] 23 := by rw [hPB'.out]; exact blk_ext (blk_ext (block_new _ _) hx2) hw3
  have hbx3 := hbx
  have hs3 := hs2.inW
  have hx13 := ext_trans hx12 hw3
  clear hcw3 hfw3 hbx3 hbp
  cases lo <;> cases hi <;> first | (cases hor; done) | skip
  all_goals
    go_wp2_with fail
    refine (hhr.out _ (h.ext (ext_trans hx13 (ext_alloc _ _)))).mono ?_
    rintro e w5 ⟨ao', cap', rfl, hs5, hx5⟩
    have hbz : blk w5 w3.heap.size #[.int .i64 0, .int .i64 0] 23 := blk_ext (block_new _ _) hx5
    have hbp : blk w5 PB #[.int .i64 0, .int .i64 0] 23 := by rw [hPB'.out]; exact blk_ext (blk_ext (blk_ext (blk_ext (block_new _ _) hx2) hw3) (ext_alloc _ _)) hx5
    have hbx5 := blk_ext (blk_ext hbx (ext_alloc _ _)) hx5
    have hsy := (hs2.ext (ext_alloc _ _)).ext hx5
    obtain ⟨ZB, hZB⟩ : ∃ ZB, ZB = w3.heap.size := ⟨_, rfl⟩
    rw [← hZB] at hbz ⊢
    replace hZB := Lib.hid hZB
    have hx15 := ext_trans (ext_trans hx13 (ext_alloc _ _)) hx5
    clear s0 s1 s2 p0 p1
    go_wp2_with fail
    refine (spaceBegun_any _).mono ?_
    rintro e w6 ⟨rfl, hw6⟩
    obtain ⟨hcw6, hfw6⟩ := bcell hw6
    have hzw6 := bsize hw6
    (try simp only [World.size_alloc, World.size_setCell, World.size_drew, World.heap_drewN] at hcw6 hfw6 hzw6)
    replace hsy := hsy.ext hw6
    replace hs5 := hs5.ext hw6
    replace hbz := blk_ext hbz hw6
    replace hbx5 := blk_ext hbx5 hw6
    replace hbp := blk_ext hbp hw6
    have hx16 := ext_trans hx15 hw6
    have s0 := blk_cell (o := 0) hbx5 rfl
    have s1 := blk_cell (o := 1) hbx5 rfl
    have s2 := blk_cell (o := 2) hbx5 rfl
    clear hcw6 hfw6
    go_wp2_with fail
    refine (hck.out _ (h.ext hx16)).mono ?_
    rintro e w7 ⟨rfl, hw7⟩
    obtain ⟨hcw7, hfw7⟩ := bcell hw7
    have hzw7 := bsize hw7
    (try simp only [World.size_alloc, World.size_setCell, World.size_drew, World.heap_drewN] at hcw7 hfw7 hzw7)
    replace hsy := hsy.ext hw7
    replace hs5 := hs5.ext hw7
    replace hbz := blk_ext hbz hw7
    replace hbp := blk_ext hbp hw7
    have hx17 := ext_trans hx16 hw7
    have p0 := blk_cell (o := 0) hbp rfl
    have p1 := blk_cell (o := 1) hbp rfl
    have z0 := blk_cell (o := 0) hbz rfl
    have z1 := blk_cell (o := 1) hbz rfl
    clear hcw7 hfw7 s0 s1 s2
    have hsp := samePrefixes_any (holesS root us) (holesS root us) ao ao' cap cap' w7 hsy hs5
    rw [decide_eq_true rfl] at hsp
    replace hsp := Lib.hid hsp
    go_wp2_with fail
    refine (hsp.out).mono ?_
    rintro e w8 ⟨rfl, hw8⟩
    obtain ⟨hcw8, hfw8⟩ := bcell hw8
    have hzw8 := bsize hw8
    (try simp only [World.size_alloc, World.size_setCell, World.size_drew, World.heap_drewN] at hcw8 hfw8 hzw8)
    go_wp2_with fail
    go_ret
    exact ⟨rfl, ext_trans hx17 hw8⟩
set_option maxHeartbeats 2000000 in
set_option maxRecDepth 100000 in
theorem fits_bad {A : Area} (root : Pfx) (us : List Pfx) (uo : Option Addr) (ucap : Nat) (size : Int) (w : World) (h : Sl A w 2 Pfx.R uo ucap us) (h0 : chkS root us ≠ 0) :
    Calls Try.prog 3 #[.agg #[.int .i64 root.at_, .int .i64 root.len, .slice uo us.length ucap], .int .i64 size] w fun e w' => e = .returned (.bool true) ∧ Ext w w' := by
  have hck := fun W (h : Sl A W 2 Pfx.R uo ucap us) => spaceCheck_any root us uo ucap W h
  have hcr := fun W (h : Sl A W 2 Pfx.R uo ucap us) => checkSpace_any root us uo ucap W h
  have hft := fun W (h : Sl A W 2 Pfx.R uo ucap us) => fit_any root us uo ucap size W h
  have hho := fun W (h : Sl A W 2 Pfx.R uo ucap us) => holes_any root us uo ucap W h
  have hfe : fitS root us size = (Pfx.zero, false, chkS root us) := by unfold fitS; rw [if_neg h0]
  rw [chkS_eq] at hcr
  rw [hfe] at hft
  unfold Pfx.zero Pfx.v at hft
  simp only at hft
  obtain ⟨c, hc⟩ : ∃ c, c = chkS root us := ⟨_, rfl⟩
  rw [← hc] at hft hcr hck h0
  have hce : (c == 0) = false := by simpa using h0
  replace hc := Lib.hid hc
  clear hfe
  replace hck := Lib.hid hck
  replace hcr := Lib.hid hcr
  replace hft := Lib.hid hft
  replace hho := Lib.hid hho
  replace h0 := Lib.hid h0
  go_enter Try.func3, Try.ntmps3
  go_wp2_with fail
  refine (hft.out _ (h.ext (ext_alloc _ _))).mono ?_
  rintro e w1 ⟨rfl, hw1⟩
  obtain ⟨hcw1, hfw1⟩ := bcell hw1
  have hzw1 := bsize hw1
  (try simp only [World.size_alloc, World.size_setCell, World.size_drew, World.heap_drewN] at hcw1 hfw1 hzw1)
  have l1 : w.heap.size < w1.heap.size := by omega
  have hx1 := ext_trans (ext_alloc _ _) hw1
  go_wp2_with fail
  have p0 := cell_of_block (o := 0) (block_new w1 (.cells #[.int .i64 0, .int .i64 0] 23)) rfl
  have p1 := cell_of_block (o := 1) (block_new w1 (.cells #[.int .i64 0, .int .i64 0] 23)) rfl
  refine (hho.out _ (h.ext (ext_trans hx1 (ext_alloc _ _)))).mono ?_
  rintro e w2 (⟨hn, -⟩ | ⟨-, rfl, hx2⟩)
  case inl => exact absurd (by rw [hc.out]; exact hn) h0.out
  rw [← hc.out]
  replace p0 := keepCell hx2 p0
  replace p1 := keepCell hx2 p1
  have hx12 := ext_trans (ext_trans hx1 (ext_alloc _ _)) hx2
  obtain ⟨PB, hPB⟩ : ∃ PB, PB = w1.heap.size := ⟨_, rfl⟩
  rw [← hPB] at p0 p1 ⊢
  have hPB' := hPB
  replace hPB' := Lib.hid hPB'
  have lPB := lt_of_cell p0
  have hbx : blk w2 w.heap.size #[.int .i64 root.at_, .int .i64 root.len, .slice uo us.length ucap] 26 := blk_ext (blk_ext (blk_ext (block_new _ _) hw1) (ext_alloc _ _)) hx2
  have s0 := blk_cell (o := 0) hbx rfl
  have s1 := blk_cell (o := 1) hbx rfl
  have s2 := blk_cell (o := 2) hbx rfl
  have l2 : w.heap.size < w2.heap.size := lt_of_block hbx
  clear hcw1 hfw1 hzw1 hPB
  go_wp2_with fail
  refine (hcr.out _ (h.ext hx12)).mono ?_
  rintro e w3 ⟨rfl, hw3⟩
  obtain ⟨hcw3, hfw3⟩ := bcell hw3
  have hzw3 := bsize hw3
  (try simp only [World.size_alloc, World.size_setCell, World.size_drew, World.heap_drewN] at hcw3 hfw3 hzw3)
  replace p0 := keepCell hw3 p0
  replace p1 := keepCell hw3 p1
  replace hbx := blk_ext hbx hw3
  replace s0 := blk_cell (o := 0) hbx rfl
  replace s1 := blk_cell (o := 1) hbx rfl
  replace s2 := blk_cell (o := 2) hbx rfl
  have l3 : w.heap.size < w3.heap.size := lt_of_block hbx
  have lPB3 := lt_of_cell p0
  have hx13 := ext_trans hx12 hw3
  clear hcw3 hfw3
  go_wp2_with fail
  refine (spaceBegun_any _).mono ?_
  rintro e w6 ⟨rfl, hw6⟩
  have hbz : blk w6 w3.heap.size #[.int .i64 0, .int .i64 0] 23 := blk_ext (block_new _ _) hw6
  have hbp : blk w6 PB #[.int .i64 0, .int .i64 0] 23 := by rw [hPB'.out]; exact blk_ext (blk_ext (blk_ext (blk_ext (block_new _ _) hx2) hw3) (ext_alloc _ _)) hw6
  have hbx6 := blk_ext (blk_ext hbx (ext_alloc _ _)) hw6
  obtain ⟨ZB, hZB⟩ : ∃ ZB, ZB = w3.heap.size := ⟨_, rfl⟩
  rw [← hZB] at hbz ⊢
  replace hZB := Lib.hid hZB
  have hx16 := ext_trans (ext_trans hx13 (ext_alloc _ _)) hw6
  replace s0 := blk_cell (o := 0) hbx6 rfl
  replace s1 := blk_cell (o := 1) hbx6 rfl
  replace s2 := blk_cell (o := 2) hbx6 rfl
  clear p0 p1
  go_wp2_with fail
  refine (hck.out _ (h.ext hx16)).mono ?_
  rintro e w7 ⟨rfl, hw7⟩
  obtain ⟨hcw7, hfw7⟩ := bcell hw7
  have hzw7 := bsize hw7
  (try simp only [World.size_alloc, World.size_setCell, World.size_drew, World.heap_drewN] at hcw7 hfw7 hzw7)
  replace hbz := blk_ext hbz hw7
  replace hbp := blk_ext hbp hw7
  have hx17 := ext_trans hx16 hw7
  have p0 := blk_cell (o := 0) hbp rfl
  have p1 := blk_cell (o := 1) hbp rfl
  have z0 := blk_cell (o := 0) hbz rfl
  have z1 := blk_cell (o := 1) hbz rfl
  clear hcw7 hfw7 s0 s1 s2
  have hsp := samePrefixes_any (A := fun _ => True) (B := fun _ => True) [] [] none none 0 0 w7 ⟨by decide, by decide, fun i hi => absurd hi (by simp)⟩ ⟨by decide, by decide, fun i hi => absurd hi (by simp)⟩
  rw [decide_eq_true rfl] at hsp
  replace hsp := Lib.hid hsp
  go_wp2_with fail
  refine (hsp.out).mono ?_
  rintro e w8 ⟨rfl, hw8⟩
  obtain ⟨hcw8, hfw8⟩ := bcell hw8
  have hzw8 := bsize hw8
  (try simp only [World.size_alloc, World.size_setCell, World.size_drew, World.heap_drewN] at hcw8 hfw8 hzw8)
  go_wp2_with fail
  go_ret
  exact ⟨rfl, ext_trans hx17 hw8⟩
theorem spaceFits_any {A : Area} (root : Pfx) (us : List Pfx) (uo : Option Addr) (ucap : Nat) (size : Int) (w : World) (h : Sl A w 2 Pfx.R uo ucap us) :
    Calls Try.prog 3 #[.agg #[.int .i64 root.at_, .int .i64 root.len, .slice uo us.length ucap], .int .i64 size] w fun e w' => e = .returned (.bool true) ∧ Ext w w' := by
  by_cases h0 : chkS root us = 0
  · by_cases h1 : root.len ≤ size ∧ size ≤ 16
    · exact fits_in root us uo ucap size w h h0 h1
    · exact fits_out root us uo ucap size w h h0 _ _ rfl rfl (by simp; omega)
  · exact fits_bad root us uo ucap size w h h0
end Go.Proofs.Ytflbpkgnadjokaa
