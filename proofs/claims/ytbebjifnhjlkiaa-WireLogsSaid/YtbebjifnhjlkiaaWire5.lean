/- wire: commands out of bytes: the reference's CmdFrom. -/
import Derived.Test.YtbebjifnhjlkiaaWire4
import Derived.Deep.RegionHeld3
namespace Go.Proofs.Ytbebjifnhjlkiaa
open Go Go.RowKit Go.Proofs
def bAt (l : List Int) (i : Nat) : Int := l.getD i 0
def be (l : List Int) (j : Nat) : Int := 256 * (256 * (256 * (256 * 0 + bAt l (4 * j + 1)) + bAt l (4 * j + 2)) + bAt l (4 * j + 3)) + bAt l (4 * j + 4)
def s32 (n : Int) : Int := if 2147483648 ≤ n then n - 4294967296 else n
def numAt (l : List Int) (j : Nat) : Int := s32 (be l j)
def cmdOf (l : List Int) : Cmd := ⟨bAt l 0, numAt l 0, numAt l 1, numAt l 2, numAt l 3, numAt l 4, numAt l 5, numAt l 6, numAt l 7, numAt l 8⟩
theorem bAt_bd {l : List Int} (h : ∀ n ∈ l, isByte n) (i : Nat) : 0 ≤ bAt l i ∧ bAt l i ≤ 255 := by
  unfold bAt
  rcases Nat.lt_or_ge i l.length with hi | hi
  · simp only [List.getD_eq_getElem?_getD, List.getElem?_eq_getElem hi, Option.getD_some]
    exact h _ (List.getElem_mem hi)
  · simp [List.getElem?_eq_none hi]
theorem bAt_str (s : ByteArray) (i : Nat) (h : i < s.size) : bAt (numsOf s) i = (s[i].toNat : Int) := by
  unfold bAt
  rw [List.getD_eq_getElem?_getD, List.getElem?_eq_getElem (by rw [numsOf_length]; exact h), Option.getD_some, numsOf_get s i h]
def arr9 (f : Nat → Int) (j : Nat) : Array Value := #[.int .i64 (if 0 < j then f 0 else 0), .int .i64 (if 1 < j then f 1 else 0), .int .i64 (if 2 < j then f 2 else 0), .int .i64 (if 3 < j then f 3 else 0), .int .i64 (if 4 < j then f 4 else 0), .int .i64 (if 5 < j then f 5 else 0), .int .i64 (if 6 < j then f 6 else 0), .int .i64 (if 7 < j then f 7 else 0), .int .i64 (if 8 < j then f 8 else 0)]
theorem arr9_set (f : Nat → Int) (j : Nat) (h : j < 9) : (arr9 f j).setIfInBounds j (.int .i64 (f j)) = arr9 f (j + 1) := by
  match j, h with
  | 0, _ | 1, _ | 2, _ | 3, _ | 4, _ | 5, _ | 6, _ | 7, _ | 8, _ => simp [arr9]
theorem arr9_at (f : Nat → Int) (j i : Nat) (h : i < 9) : ∃ v, (arr9 f j)[i]? = some v := ⟨(arr9 f j)[i]'(by simp [arr9]; omega), by simp [arr9]⟩
def zeroCmd : Array Value := #[.int .i64 0, .int .i64 0, .int .i64 0, .int .i64 0, .int .i64 0, .int .i64 0, .int .i64 0, .int .i64 0, .int .i64 0, .int .i64 0]
def FRel (l : List Int) (w : World) (j : Nat) (wr : World) : Prop :=
  wr.heap[w.heap.size]? = some (.cells zeroCmd 27 (0, 0)) ∧ wr.heap[w.heap.size + 1]? = some (.cells (arr9 (numAt l) j) 55 (0, 0)) ∧ Bel w.heap.size w wr
set_option maxHeartbeats 1000000 in
set_option maxRecDepth 100000 in
theorem cmdFrom_any (s : ByteArray) (w : World) (hs : s.size = 37) :
    Calls Try.prog 10 #[.string s] w fun e w' => e = .returned (.tuple #[.agg (cmdOf (numsOf s)).cs, .bool true]) ∧ Ext w w' := by
  have hsz : ((s.size : Int) != 37) = false := by rw [hs]; rfl
  have hge : 37 ≤ s.size := by omega
  clear hs
  have hstart : FRel (numsOf s) w 0 ((w.alloc (.cells zeroCmd 27)).alloc (.cells #[.int .i64 0, .int .i64 0, .int .i64 0, .int .i64 0, .int .i64 0, .int .i64 0, .int .i64 0, .int .i64 0, .int .i64 0] 55)) := by
    refine ⟨block_alloc (block_new _ _), ?_, ((Bel.refl w).alloc _).alloc _⟩
    have := block_new (w.alloc (.cells zeroCmd 27)) (.cells #[.int .i64 0, .int .i64 0, .int .i64 0, .int .i64 0, .int .i64 0, .int .i64 0, .int .i64 0, .int .i64 0, .int .i64 0] 55)
    simpa [arr9] using this
  unfold zeroCmd at hstart
  replace hstart := Lib.hid hstart
  have hbb := bAt_bd (numsOf_byte s)
  replace hbb := Lib.hid hbb
  go_enter Try.func10, Try.ntmps10
  go_wp2_with fail
  go_loopw [5] (fun i wr => ∃ j : Nat, j ≤ 9 ∧ i = .int .i64 j ∧ FRel (numsOf s) w j wr) (fun i _ => 9 - (intOf i).toNat)
  case atStart => exact ⟨0, by omega, rfl, hstart.out⟩
  case round =>
    obtain ⟨j, hj, rfl, hB0, hB1, hbel⟩ := hrel
    clear hstart
    have hle := hbel.le
    by_cases hlt : j < 9
    · have hltI : (j : Int) < 9 := by omega
      obtain ⟨old, hold⟩ := arr9_at (numAt (numsOf s)) j j hlt
      have hc := cell_of_block hB1 hold
      have hf := free_of_block (o := j) hB1
      have e1 := bAt_str s (4 * j + 1) (by omega)
      have e2 := bAt_str s (4 * j + 2) (by omega)
      have e3 := bAt_str s (4 * j + 3) (by omega)
      have e4 := bAt_str s (4 * j + 4) (by omega)
      obtain ⟨a1, a2⟩ := hbb.out (4 * j + 1)
      obtain ⟨b1, b2⟩ := hbb.out (4 * j + 2)
      obtain ⟨c1, c2⟩ := hbb.out (4 * j + 3)
      obtain ⟨d1, d2⟩ := hbb.out (4 * j + 4)
      obtain ⟨x1, hx1⟩ : ∃ x, x = bAt (numsOf s) (4 * j + 1) := ⟨_, rfl⟩
      obtain ⟨x2, hx2⟩ : ∃ x, x = bAt (numsOf s) (4 * j + 2) := ⟨_, rfl⟩
      obtain ⟨x3, hx3⟩ : ∃ x, x = bAt (numsOf s) (4 * j + 3) := ⟨_, rfl⟩
      obtain ⟨x4, hx4⟩ : ∃ x, x = bAt (numsOf s) (4 * j + 4) := ⟨_, rfl⟩
      have hnum : numAt (numsOf s) j = s32 (256 * (256 * (256 * (256 * 0 + x1) + x2) + x3) + x4) := by rw [hx1, hx2, hx3, hx4]; rfl
      rw [← hx1] at e1 a1 a2
      rw [← hx2] at e2 b1 b2
      rw [← hx3] at e3 c1 c2
      rw [← hx4] at e4 d1 d2
      clear hx1 hx2 hx3 hx4
      replace hold := Lib.hid hold
      replace hnum := Lib.hid hnum
      replace hB0 := Lib.hid hB0
      replace hB1 := Lib.hid hB1
      replace e1 := e1.symm
      replace e2 := e2.symm
      replace e3 := e3.symm
      replace e4 := e4.symm
      go_wp2_with fail
      obtain ⟨wo, rfl⟩ : ∃ wo : World, wo = wr := ⟨_, rfl⟩
      go_loop [6, 7] (fun n k => (n = .int .i64 0 ∧ k = .int .i64 1) ∨ (n = .int .i64 x1 ∧ k = .int .i64 2) ∨ (n = .int .i64 (256 * x1 + x2) ∧ k = .int .i64 3) ∨ (n = .int .i64 (256 * (256 * x1 + x2) + x3) ∧ k = .int .i64 4) ∨ (n = .int .i64 (256 * (256 * (256 * x1 + x2) + x3) + x4) ∧ k = .int .i64 5)) (fun _ k => 5 - (intOf k).toNat)
      case atStart => exact .inl ⟨rfl, rfl⟩
      case round =>
        rcases hrel with ⟨rfl, rfl⟩ | ⟨rfl, rfl⟩ | ⟨rfl, rfl⟩ | ⟨rfl, rfl⟩ | ⟨rfl, rfl⟩
        · go_wp2_with fail
          exact ⟨.inr (.inl ⟨rfl, rfl⟩), by simp [intOf]⟩
        · go_wp2_with fail
          exact ⟨.inr (.inr (.inl ⟨rfl, rfl⟩)), by simp [intOf]⟩
        · go_wp2_with fail
          exact ⟨.inr (.inr (.inr (.inl ⟨rfl, rfl⟩))), by simp [intOf]⟩
        · go_wp2_with fail
          exact ⟨.inr (.inr (.inr (.inr ⟨rfl, rfl⟩))), by simp [intOf]⟩
        · by_cases hbig : 2147483648 ≤ 256 * (256 * (256 * x1 + x2) + x3) + x4
          · have hv : numAt (numsOf s) j = 256 * (256 * (256 * x1 + x2) + x3) + x4 - 4294967296 := by
              rw [hnum.out]; unfold s32; rw [if_pos (by omega)]; omega
            replace hv := Lib.hid hv
            go_wp2_with fail
            have R : FRel (numsOf s) w (j + 1) (wo.setCell ⟨w.heap.size + 1, j, none⟩ (.int .i64 (256 * (256 * (256 * x1 + x2) + x3) + x4 - 4294967296))) := by
              rw [← hv.out]
              refine ⟨(block_setCell_ne _ (by simp)).trans hB0.out, ?_, hbel.setCell (by simp) _⟩
              rw [block_setCell hB1.out, arr9_set _ _ hlt]
            clear hbel hc
            go_roundw
            case rel => exact ⟨j + 1, by omega, by go_num, R⟩
            case measure => simp [intOf]; omega
          · have hv : numAt (numsOf s) j = 256 * (256 * (256 * x1 + x2) + x3) + x4 := by
              rw [hnum.out]; unfold s32; rw [if_neg (by omega)]; omega
            replace hv := Lib.hid hv
            go_wp2_with fail
            have R : FRel (numsOf s) w (j + 1) (wo.setCell ⟨w.heap.size + 1, j, none⟩ (.int .i64 (256 * (256 * (256 * x1 + x2) + x3) + x4))) := by
              rw [← hv.out]
              refine ⟨(block_setCell_ne _ (by simp)).trans hB0.out, ?_, hbel.setCell (by simp) _⟩
              rw [block_setCell hB1.out, arr9_set _ _ hlt]
            clear hbel hc
            go_roundw
            case rel => exact ⟨j + 1, by omega, by go_num, R⟩
            case measure => simp [intOf]; omega
    · obtain rfl : j = 9 := by omega
      have e0 := bAt_str s 0 (by omega)
      obtain ⟨x0, hx0⟩ : ∃ x, x = bAt (numsOf s) 0 := ⟨_, rfl⟩
      obtain ⟨a1, a2⟩ := hbb.out 0
      rw [← hx0] at e0 a1 a2
      replace e0 := e0.symm
      have hcells : ∀ k, k < 9 → wr.cell? ⟨w.heap.size + 1, k, none⟩ = some (.int .i64 (numAt (numsOf s) k)) := fun k hk => cell_of_block hB1 (by
        match k, hk with
        | 0, _ | 1, _ | 2, _ | 3, _ | 4, _ | 5, _ | 6, _ | 7, _ | 8, _ => simp [arr9])
      have k0 := hcells 0 (by omega)
      have k1 := hcells 1 (by omega)
      have k2 := hcells 2 (by omega)
      have k3 := hcells 3 (by omega)
      have k4 := hcells 4 (by omega)
      have k5 := hcells 5 (by omega)
      have k6 := hcells 6 (by omega)
      have k7 := hcells 7 (by omega)
      have k8 := hcells 8 (by omega)
      have hz : ∀ k, k < 10 → wr.cell? ⟨w.heap.size, k, none⟩ = some (.int .i64 0) := fun k hk => cell_of_block hB0 (by
        match k, hk with
        | 0, _ | 1, _ | 2, _ | 3, _ | 4, _ | 5, _ | 6, _ | 7, _ | 8, _ | 9, _ => rfl)
      have hf : ∀ k, wr.frozen? ⟨w.heap.size, k, none⟩ = false := fun k => free_of_block hB0
      have hlt' : w.heap.size < wr.heap.size := lt_of_cell (hz 0 (by omega))
      replace hx0 := Lib.hid hx0
      replace hB0 := Lib.hid hB0
      replace hB1 := Lib.hid hB1
      clear hcells hlt
      go_wp2_with fail
      have z0 := hz 0 (by omega)
      have z1 := hz 1 (by omega)
      have z2 := hz 2 (by omega)
      have z3 := hz 3 (by omega)
      have z4 := hz 4 (by omega)
      have z5 := hz 5 (by omega)
      have z6 := hz 6 (by omega)
      have z7 := hz 7 (by omega)
      have z8 := hz 8 (by omega)
      have z9 := hz 9 (by omega)
      replace hz := Lib.hid hz
      have hw0 : IntKind.i64.wrap x0 = x0 := IntWalk.i64_in _ (by omega)
      go_region_held3 (fun w' => w'.cell? ⟨w.heap.size + 1, 0, none⟩ = some (.int .i64 (numAt (numsOf s) 0)) ∧ w'.cell? ⟨w.heap.size + 1, 1, none⟩ = some (.int .i64 (numAt (numsOf s) 1)) ∧ w'.cell? ⟨w.heap.size + 1, 2, none⟩ = some (.int .i64 (numAt (numsOf s) 2)) ∧ w'.cell? ⟨w.heap.size + 1, 3, none⟩ = some (.int .i64 (numAt (numsOf s) 3)) ∧ w'.cell? ⟨w.heap.size + 1, 4, none⟩ = some (.int .i64 (numAt (numsOf s) 4)) ∧ w'.cell? ⟨w.heap.size + 1, 5, none⟩ = some (.int .i64 (numAt (numsOf s) 5)) ∧ w'.cell? ⟨w.heap.size + 1, 6, none⟩ = some (.int .i64 (numAt (numsOf s) 6)) ∧ w'.cell? ⟨w.heap.size + 1, 7, none⟩ = some (.int .i64 (numAt (numsOf s) 7)) ∧ w'.cell? ⟨w.heap.size + 1, 8, none⟩ = some (.int .i64 (numAt (numsOf s) 8))) (first | simp [*, World.cell?_setCell_far]) (first | fail)
      go_wp2_with fail
      refine bodyPost_ret (v := .tuple #[.agg (cmdOf (numsOf s)).cs, .bool true]) ?_ rfl ⟨rfl, Bel.bel (B := _) ?_⟩
      · have hcs : (cmdOf (numsOf s)).cs = #[.int .i64 x0, .int .i64 (numAt (numsOf s) 0), .int .i64 (numAt (numsOf s) 1), .int .i64 (numAt (numsOf s) 2), .int .i64 (numAt (numsOf s) 3), .int .i64 (numAt (numsOf s) 4), .int .i64 (numAt (numsOf s) 5), .int .i64 (numAt (numsOf s) 6), .int .i64 (numAt (numsOf s) 7), .int .i64 (numAt (numsOf s) 8)] := by
          rw [hx0.out]; rfl
        rw [hcs]
        simp [results, Try.results10, go_sem, z0, z1, z2, z3, z4, z5, z6, z7, z8, z9]
      · (repeat (first | with_reducible assumption | with_reducible exact Bel.refl _ | with_reducible refine Bel.alloc ?_ _ | with_reducible refine Bel.drewN ?_ _ | with_reducible refine Bel.drew ?_ | (with_reducible refine Bel.setCell ?_ (p := _) ?_ _; rotate_left; (first | exact Nat.le_refl _ | (simp; done) | omega | (simp; omega))) | refine Bel.call ?_ (by assumption)))
end Go.Proofs.Ytbebjifnhjlkiaa
