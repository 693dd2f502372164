/- spaceBegun. -/
import Derived.Test.YtflbpkgnadjokaaSpaceA
import Derived.Test.YtflbpkgnadjokaaSpaceR2
namespace Go.Proofs.Ytflbpkgnadjokaa
open Go Go.RowKit Go.Proofs
def hRoot : Pfx := ⟨256, 8⟩
def hUs : List Pfx := [⟨320, 10⟩]
theorem hF_free {us : List Pfx} {n : Nat} {p : Pfx} (h : us.any p.meets = false) : holesF us n p = [p] := by
  cases n <;> simp [holesF, h]
theorem hF_used {us : List Pfx} {n : Nat} {p : Pfx} (h : us.any p.meets = true) (hc : us.contains p = true) : holesF us (n + 1) p = [] := by
  rw [holesF, if_pos h, if_pos hc]
theorem hF_split {us : List Pfx} {n : Nat} {p a b : Pfx} (h : us.any p.meets = true) (hc : us.contains p = false) (ha : p.low = a) (hb : p.high = b) : holesF us (n + 1) p = holesF us n a ++ holesF us n b := by
  rw [holesF, if_pos h, if_neg (by rw [hc]; exact Bool.false_ne_true), ha, hb]
theorem h_holes : holesS ⟨256, 8⟩ [⟨320, 10⟩] = [⟨256, 10⟩, ⟨384, 9⟩] := by
  unfold holesS
  rw [show ((16 : Int) - 8).toNat = 8 from rfl]
  rw [hF_split (n := 7) (a := ⟨256, 9⟩) (b := ⟨384, 9⟩) (by kernel_rfl) (by simp) (by kernel_rfl) (by kernel_rfl), hF_free (n := 7) (p := ⟨384, 9⟩) (by kernel_rfl)]
  rw [hF_split (n := 6) (a := ⟨256, 10⟩) (b := ⟨320, 10⟩) (by kernel_rfl) (by simp) (by kernel_rfl) (by kernel_rfl), hF_free (n := 6) (p := ⟨256, 10⟩) (by kernel_rfl), hF_used (n := 5) (p := ⟨320, 10⟩) (by kernel_rfl) (by simp)]
  rfl
theorem h_chk : chkS ⟨256, 8⟩ [⟨320, 10⟩] = 0 := by kernel_rfl
theorem h_fit : fitS ⟨256, 8⟩ [⟨320, 10⟩] 9 = (⟨384, 9⟩, true, 0) := by
  unfold fitS
  rw [if_pos h_chk, if_neg (by decide), h_holes]
  rfl
theorem h_claim : claimE ⟨256, 8⟩ [⟨320, 10⟩] ⟨256, 16⟩ = 0 := by kernel_rfl
theorem h_ins : insU ⟨256, 16⟩ [⟨320, 10⟩] = [⟨256, 16⟩, ⟨320, 10⟩] := by kernel_rfl
theorem h_free : freeE ⟨256, 8⟩ [⟨256, 16⟩, ⟨320, 10⟩] ⟨320, 10⟩ = 0 := by unfold freeE; rw [if_pos (by kernel_rfl), if_pos (by simp)]
theorem h_del : delU ⟨320, 10⟩ [⟨256, 16⟩, ⟨320, 10⟩] = [⟨256, 16⟩] := by simp [delU]
def HalfOut (w : World) (e : Ending) (w' : World) : Prop :=
  ∃ ao, e = .returned (.agg #[.int .i64 256, .int .i64 8, .slice ao 1 1]) ∧ Sl (fun b => w.heap.size ≤ b) w' 2 Pfx.R ao 1 [⟨320, 10⟩] ∧ Ext w w'
set_option maxHeartbeats 1000000 in
set_option maxRecDepth 100000 in
theorem half_any (w : World) : Calls Try.prog 33 #[] w (HalfOut w) := by
  go_enter Try.func33, Try.ntmps33
  go_wp2_with fail
  refine bodyPost_ret (v := .agg #[.int .i64 256, .int .i64 8, .slice (some ⟨w.heap.size + 1, 0, none⟩) 1 1]) ?_ rfl ⟨_, rfl, ⟨by decide, by decide, fun i hi => ?_⟩, ext_trans (ext_alloc _ _) (ext_alloc _ _)⟩
  · simp [results, Try.results33, go_sem]
  · obtain rfl : i = 0 := by simp at hi; omega
    refine ⟨w.heap.size + 1, 0, [.int .i64 320, .int .i64 10], rfl, Nat.le_succ _, rfl, rfl, fun j hj => ?_⟩
    have hb := block_new (w.alloc (.cells #[.int .i64 256, .int .i64 8, .slice (some ⟨w.heap.size + 1, 0, none⟩) 1 1] 26)) (.cells #[.int .i64 320, .int .i64 10] 23)
    rw [World.size_alloc] at hb
    match j, hj with
    | 0, _ => exact cell_of_block hb rfl
    | 1, _ => exact cell_of_block hb rfl
set_option maxHeartbeats 2000000 in
set_option maxRecDepth 100000 in
theorem spaceBegun_any (w : World) :
    Calls Try.prog 12 #[] w fun e w' => e = .returned (.bool true) ∧ Ext w w' := by
  have hft := fun (A : Area) uo W (h : Sl A W 2 Pfx.R uo 1 [⟨320, 10⟩]) => fit_any ⟨256, 8⟩ [⟨320, 10⟩] uo 1 9 W h
  have hho := fun (A : Area) uo W (h : Sl A W 2 Pfx.R uo 1 [⟨320, 10⟩]) => holes_any ⟨256, 8⟩ [⟨320, 10⟩] uo 1 W h
  have hcm := fun (A : Area) uo W (h : Sl A W 2 Pfx.R uo 1 [⟨320, 10⟩]) => claim_any ⟨256, 8⟩ [⟨320, 10⟩] uo 1 ⟨256, 16⟩ W h
  have hfr := fun (A : Area) uo ucap W (h : Sl A W 2 Pfx.R uo ucap [⟨256, 16⟩, ⟨320, 10⟩]) => free_any ⟨256, 8⟩ [⟨256, 16⟩, ⟨320, 10⟩] uo ucap ⟨320, 10⟩ W h
  rw [h_fit] at hft
  rw [h_claim, h_ins] at hcm
  rw [h_free, h_del] at hfr
  unfold Pfx.v at hft
  simp only [List.length_cons, List.length_nil, Nat.zero_add, Nat.reduceAdd] at hft hho hcm hfr
  replace hft := Lib.hid hft
  replace hho := Lib.hid hho
  replace hcm := Lib.hid hcm
  replace hfr := Lib.hid hfr
  go_enter Try.func12, Try.ntmps12
  go_wp2_with fail
  refine (half_any _).mono ?_
  rintro e w1 ⟨a1, rfl, hs1, hx1⟩
  go_wp2_with fail
  refine (hft.out _ a1 w1 hs1).mono ?_
  rintro e w2 ⟨rfl, hw2⟩
  obtain ⟨hcw2, hfw2⟩ := bcell hw2
  have hzw2 := bsize hw2
  (try simp only [World.size_alloc, World.size_setCell, World.size_drew, World.heap_drewN] at hcw2 hfw2 hzw2)
  have hx2 := ext_trans hx1 hw2
  have l2 := lt_of_block (block_new w2 (.cells #[.int .i64 384, .int .i64 9] 23))
  clear hs1 hcw2 hfw2
  go_wp2_with fail
  refine (half_any _).mono ?_
  rintro e w3 ⟨a3, rfl, hs3, hx3⟩
  have p0 : w3.cell? ⟨w2.heap.size, 0, none⟩ = some (.int .i64 384) := keepCell hx3 (cell_of_block (block_new w2 (.cells #[.int .i64 384, .int .i64 9] 23)) rfl)
  have p1 : w3.cell? ⟨w2.heap.size, 1, none⟩ = some (.int .i64 9) := keepCell hx3 (cell_of_block (block_new w2 (.cells #[.int .i64 384, .int .i64 9] 23)) rfl)
  have hx23 : Ext w w3 := ext_trans (ext_trans hx2 (ext_alloc _ _)) hx3
  go_wp2_with fail
  refine (hho.out _ a3 w3 hs3).mono ?_
  rintro e w4 (⟨-, a4, cap4, rfl, hs4, hx4⟩ | ⟨hn, -⟩)
  · rw [h_holes] at hs4 ⊢
    have hx34 := ext_trans hx23 hx4
    replace p0 := keepCell hx4 p0
    replace p1 := keepCell hx4 p1
    obtain ⟨PB, hPB⟩ : ∃ PB, PB = w2.heap.size := ⟨_, rfl⟩
    rw [← hPB] at p0 p1 ⊢
    clear hPB
    simp only [List.length_cons, List.length_nil, Nat.zero_add, Nat.reduceAdd]
    go_wp2_with fail
    refine (half_any _).mono ?_
    rintro e w5 ⟨a5, rfl, hs5, hx5⟩
    replace p0 := keepCell hx5 p0
    replace p1 := keepCell hx5 p1
    replace hs4 := hs4.ext hx5
    go_wp2_with fail
    refine (hcm.out _ a5 w5 hs5).mono ?_
    rintro e w6 (⟨-, a6, cap6, rfl, hs6, hx6⟩ | ⟨hn, -⟩)
    · replace p0 := keepCell hx6 p0
      replace p1 := keepCell hx6 p1
      replace hs4 := hs4.ext hx6
      have hx6' := ext_trans (ext_trans hx34 hx5) hx6
      simp only [List.length_cons, List.length_nil, Nat.zero_add, Nat.reduceAdd]
      go_wp2_with fail
      have hr := hfr.out _ a6 cap6 _ (hs6.ext (ext_alloc _ (.cells #[.int .i64 256, .int .i64 8, .slice a6 2 cap6] 26)))
      have q0 := cell_of_block (o := 2) (block_new w6 (.cells #[.int .i64 256, .int .i64 8, .slice a6 2 cap6] 26)) rfl
      obtain ⟨SB, hSB⟩ : ∃ SB, SB = w6.heap.size := ⟨_, rfl⟩
      rw [← hSB] at q0 ⊢
      clear hSB
      refine hr.mono ?_
      rintro e w7 (⟨-, a7, cap7, rfl, hs7, hx7⟩ | ⟨hn, -⟩)
      · replace p0 := keepCell hx7 (keepCell (ext_alloc _ _) p0)
        replace p1 := keepCell hx7 (keepCell (ext_alloc _ _) p1)
        replace q0 := keepCell hx7 q0
        replace hs4 := hs4.ext (ext_trans (ext_alloc _ _) hx7)
        have hx7' := ext_trans hx6' (ext_trans (ext_alloc _ _) hx7)
        have lPB := lt_of_cell p0
        have lSB := lt_of_cell q0
        clear hx7 hr hs7 hs6 hs5
        simp only [List.length_cons, List.length_nil, Nat.zero_add, Nat.reduceAdd]
        go_wp2_with fail
        have hlen8 : (w7.alloc (.cells #[.int .i64 256, .int .i64 8, .slice a7 1 cap7] 26)).heap.size = w7.heap.size + 1 := World.size_alloc _ _
        have hs8 : Sl (fun _ => True) ((w7.alloc (.cells #[.int .i64 256, .int .i64 8, .slice a7 1 cap7] 26)).alloc (.cells #[.int .i64 256, .int .i64 10, .int .i64 384, .int .i64 9] 23)) 2 Pfx.R (some ⟨w7.heap.size + 1, 0, none⟩) 2 [⟨256, 10⟩, ⟨384, 9⟩] := by
          have hb := block_new (w7.alloc (.cells #[.int .i64 256, .int .i64 8, .slice a7 1 cap7] 26)) (.cells #[.int .i64 256, .int .i64 10, .int .i64 384, .int .i64 9] 23)
          rw [hlen8] at hb
          refine ⟨by decide, by decide, fun i hi => ?_⟩
          match i, hi with
          | 0, _ =>
            refine ⟨w7.heap.size + 1, 0, [.int .i64 256, .int .i64 10], rfl, trivial, rfl, rfl, fun j hj => ?_⟩
            match j, hj with
            | 0, _ => exact cell_of_block hb rfl
            | 1, _ => exact cell_of_block hb rfl
          | 1, _ =>
            refine ⟨w7.heap.size + 1, 0, [.int .i64 384, .int .i64 9], rfl, trivial, rfl, rfl, fun j hj => ?_⟩
            match j, hj with
            | 0, _ => exact cell_of_block (o := 2) hb rfl
            | 1, _ => exact cell_of_block (o := 3) hb rfl
        have hsp := samePrefixes_any [⟨256, 10⟩, ⟨384, 9⟩] [⟨256, 10⟩, ⟨384, 9⟩] a4 _ cap4 2 _ (hs4.ext (ext_trans (ext_alloc _ _) (ext_alloc _ _))) hs8
        rw [decide_eq_true rfl] at hsp
        refine hsp.mono ?_
        rintro e w9 ⟨rfl, hx9⟩
        have q9 := keepCell hx9 (keepCell (ext_alloc _ _) (keepCell (ext_alloc _ _) q0))
        have r9 := keepCell hx9 (keepCell (ext_alloc _ _) (cell_of_block (o := 2) (block_new w7 (.cells #[.int .i64 256, .int .i64 8, .slice a7 1 cap7] 26)) rfl))
        have hx9' := ext_trans hx7' (ext_trans (ext_trans (ext_alloc _ _) (ext_alloc _ _)) hx9)
        clear hsp hs8 hs4
        go_wp2_with fail
        go_ret
        exact ⟨rfl, hx9'⟩
      · exact absurd rfl hn
    · exact absurd rfl hn
  · exact absurd h_chk hn
end Go.Proofs.Ytflbpkgnadjokaa
