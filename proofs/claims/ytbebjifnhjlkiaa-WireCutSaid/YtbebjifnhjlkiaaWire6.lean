/- wire: Read. -/
import Derived.Test.YtbebjifnhjlkiaaWire5
import Derived.Laws.IdiomStrings
namespace Go.Proofs.Ytbebjifnhjlkiaa
open Go Go.RowKit Go.Proofs
theorem conv_bytes {P : Program} (w : World) (src dst e : TypeId) (s : ByteArray) (hs : P.underlying src = some .string) (hd : P.underlying dst = some (.slice e)) (he : P.underlying e = some (.int .u8)) :
    ∃ W2 cap, (convert src dst (.string s)).run P w = .ok (.slice (some ⟨w.heap.size, 0, none⟩) s.size cap) W2 ∧ s.size ≤ cap ∧ (∀ t, t < s.size → W2.cell? ⟨w.heap.size, t, none⟩ = some (.int .u8 (bAt (numsOf s) t))) ∧ Ext w W2 := by
  refine ⟨_, _, run_bytes_of_string w src dst e s hs hd he, grownCap_ge _ _ _ _, fun t ht => ?_, ?_⟩
  · have hb := bytesRow_at s (grownCap w s.size 0 e) t ht
    rw [bAt_str s t ht]
    exact cell_of_block (block_new w.drew _) hb
  · exact ((Bel.refl w).drew.alloc _).bel
theorem nums_extract (s : ByteArray) (a n t : Nat) (h : a + n ≤ s.size) (ht : t < n) : bAt (numsOf (s.extract a (a + n))) t = bAt (numsOf s) (a + t) := by
  have hsz : (s.extract a (a + n)).size = n := by rw [ByteArray.size_extract]; omega
  rw [bAt_str _ t (by omega), bAt_str _ (a + t) (by omega)]
  congr 2
  exact ByteArray.getElem_extract ..
theorem u32_or (n b : Int) (h0 : 0 ≤ n) (h1 : n < 16777216) (h2 : 0 ≤ b) (h3 : b ≤ 255) : bits .or .u32 (n * 256) b = 256 * n + b := by
  obtain ⟨n, rfl⟩ := Int.eq_ofNat_of_zero_le h0
  obtain ⟨b, rfl⟩ := Int.eq_ofNat_of_zero_le h2
  have e : ((n : Int) * 256) = ((n * 256 : Nat) : Int) := by simp
  rw [e]
  have hw : ∀ x : Nat, x < 4294967296 → (BitVec.ofInt 32 (x : Int)).toNat = x := fun x hx => by
    rw [BitVec.ofInt_natCast, BitVec.toNat_ofNat]; exact Nat.mod_eq_of_lt (by omega)
  have ho : n * 256 ||| b = n * 256 + b := by
    have := Nat.shiftLeft_add_eq_or_of_lt (b := b) (i := 8) (by omega) n
    rw [Nat.shiftLeft_eq, show (2 : Nat) ^ 8 = 256 from rfl] at this
    omega
  show IntKind.u32.wrap ((BitVec.ofInt 32 _ ||| BitVec.ofInt 32 _).toNat : Int) = _
  rw [BitVec.toNat_or, hw _ (by omega), hw _ (by omega), ho]
  have hsg : IntKind.u32.signed = false := rfl
  simp [IntKind.wrap, IntKind.bits, hsg]
  omega
def arr10 (x : Int) (f : Nat → Int) (j : Nat) : Array Value := #[.int .i64 x, .int .i64 (if 0 < j then f 0 else 0), .int .i64 (if 1 < j then f 1 else 0), .int .i64 (if 2 < j then f 2 else 0), .int .i64 (if 3 < j then f 3 else 0), .int .i64 (if 4 < j then f 4 else 0), .int .i64 (if 5 < j then f 5 else 0), .int .i64 (if 6 < j then f 6 else 0), .int .i64 (if 7 < j then f 7 else 0), .int .i64 (if 8 < j then f 8 else 0)]
theorem arr10_set (x : Int) (f : Nat → Int) (j : Nat) (h : j < 9) : (arr10 x f j).setIfInBounds (j + 1) (.int .i64 (f j)) = arr10 x f (j + 1) := by
  match j, h with
  | 0, _ | 1, _ | 2, _ | 3, _ | 4, _ | 5, _ | 6, _ | 7, _ | 8, _ => simp [arr10]
theorem arr10_at (x : Int) (f : Nat → Int) (j i : Nat) (h : i < 10) : ∃ v, (arr10 x f j)[i]? = some v := ⟨(arr10 x f j)[i]'(by simp [arr10]; omega), by simp [arr10]⟩
theorem arr10_cmd (l : List Int) : arr10 (bAt l 0) (numAt l) 9 = (cmdOf l).cs := by simp [arr10, cmdOf, Cmd.cs]
def RRel (l : List Int) (w : World) (j : Nat) (wr : World) : Prop :=
  wr.heap[w.heap.size]? = some (.cells zeroCmd 27 (0, 0)) ∧ wr.heap[w.heap.size + 1]? = some (.cells (arr10 (bAt l 0) (numAt l) j) 27 (0, 0)) ∧
    wr.heap[w.heap.size + 2]? = some (.cells (ptrs (w.heap.size + 1)) 53 (0, 0)) ∧ Bel w.heap.size w wr
theorem rrel_ext {l : List Int} {w : World} {j : Nat} {wr W2 : World} (h : RRel l w j wr) (hx : Ext wr W2) : RRel l w j W2 := by
  obtain ⟨h0, h1, h2, h3⟩ := h
  have hk : ∀ {b : Nat} {o : Obj}, wr.heap[b]? = some o → W2.heap[b]? = some o := fun {b o} hb => by
    have hlt : b < wr.heap.size := by
      rcases Nat.lt_or_ge b wr.heap.size with h | h
      · exact h
      · simp [Array.getElem?_eq_none h] at hb
    rw [hx.block b hlt, hb]
  exact ⟨hk h0, hk h1, hk h2, h3.call hx⟩
set_option maxHeartbeats 2000000 in
set_option maxRecDepth 100000 in
theorem read_any (s : ByteArray) (w : World) (hs : s.size = 37) :
    Calls Try.prog 9 #[.string s] w fun e w' => e = .returned (.tuple #[.agg (cmdOf (numsOf s)).cs, .int .i64 0]) ∧ Ext w w' := by
  have hsz : ((s.size : Int) != 37) = false := by rw [hs]; rfl
  have hge : 37 ≤ s.size := by omega
  have hle37 : s.size ≤ 37 := by omega
  clear hs
  have hbb := bAt_bd (numsOf_byte s)
  have e0 := bAt_str s 0 (by omega)
  obtain ⟨x0, hx0⟩ : ∃ x, x = bAt (numsOf s) 0 := ⟨_, rfl⟩
  obtain ⟨a1, a2⟩ := hbb 0
  rw [← hx0] at e0 a1 a2
  replace e0 := e0.symm
  replace hx0 := Lib.hid hx0
  replace hbb := Lib.hid hbb
  have hstart : RRel (numsOf s) w 0 ((((w.alloc (.cells zeroCmd 27)).alloc (.cells #[.int .i64 x0, .int .i64 0, .int .i64 0, .int .i64 0, .int .i64 0, .int .i64 0, .int .i64 0, .int .i64 0, .int .i64 0, .int .i64 0] 27)).alloc (.cells (ptrs (w.heap.size + 1)) 53)).drew) := by
    refine ⟨block_drew.trans (block_alloc (block_alloc (block_new _ _))), block_drew.trans (block_alloc ?_), block_drew.trans ?_, ((((Bel.refl w).alloc _).alloc _).alloc _).drew⟩
    · have := block_new (w.alloc (.cells zeroCmd 27)) (.cells #[.int .i64 x0, .int .i64 0, .int .i64 0, .int .i64 0, .int .i64 0, .int .i64 0, .int .i64 0, .int .i64 0, .int .i64 0, .int .i64 0] 27)
      rw [← hx0.out]
      simpa [arr10] using this
    · have := block_new ((w.alloc (.cells zeroCmd 27)).alloc (.cells #[.int .i64 x0, .int .i64 0, .int .i64 0, .int .i64 0, .int .i64 0, .int .i64 0, .int .i64 0, .int .i64 0, .int .i64 0, .int .i64 0] 27)) (.cells (ptrs (w.heap.size + 1)) 53)
      simpa using this
  unfold zeroCmd ptrs at hstart
  replace hstart := Lib.hid hstart
  go_enter Try.func9, Try.ntmps9
  go_wp2_with fail
  refine (places_any _ _ (.int .i64 0) (by go_simp)).mono ?_
  rintro e w1 ⟨rfl, rfl⟩
  go_wp2_with fail
  go_loopw [26] (fun i wr => ∃ j : Nat, j ≤ 9 ∧ i = .int .i64 j ∧ RRel (numsOf s) w j wr) (fun i _ => 9 - (intOf i).toNat)
  case atStart => exact ⟨0, by omega, rfl, hstart.out⟩
  case round =>
    obtain ⟨j, hj, rfl, hrel⟩ := hrel
    clear hstart
    by_cases hlt : j < 9
    · have hltI : (j : Int) < 9 := by omega
      have hp := cell_of_block hrel.2.2.1 (ptr_at (w.heap.size + 1) j hlt)
      have hsx : (s.extract (1 + 4 * j) (5 + 4 * j)).size = 4 := by rw [ByteArray.size_extract]; omega
      obtain ⟨W2, cap, hk, hcap, hcell, hext⟩ := conv_bytes (P := Try.prog) wr 9 49 5 (s.extract (1 + 4 * j) (5 + 4 * j)) Try.underlying9 Try.underlying49 Try.underlying5
      rw [hsx] at hk hcap hcell
      have hR2 := rrel_ext hrel hext
      have hxx : ∀ t, t < 4 → bAt (numsOf (s.extract (1 + 4 * j) (5 + 4 * j))) t = bAt (numsOf s) (4 * j + 1 + t) := fun t ht => by
        rw [show 5 + 4 * j = (1 + 4 * j) + 4 from by omega, nums_extract s (1 + 4 * j) 4 t (by omega) ht, show 1 + 4 * j + t = 4 * j + 1 + t from by omega]
      have q1 := hcell 0 (by omega)
      have q2 := hcell 1 (by omega)
      have q3 := hcell 2 (by omega)
      have q4 := hcell 3 (by omega)
      rw [hxx 0 (by omega)] at q1
      rw [hxx 1 (by omega)] at q2
      rw [hxx 2 (by omega)] at q3
      rw [hxx 3 (by omega)] at q4
      obtain ⟨f1, f2⟩ := hbb.out (4 * j + 1)
      obtain ⟨b1, b2⟩ := hbb.out (4 * j + 2)
      obtain ⟨c1, c2⟩ := hbb.out (4 * j + 3)
      obtain ⟨d1, d2⟩ := hbb.out (4 * j + 4)
      obtain ⟨x1, hx1⟩ : ∃ x, x = bAt (numsOf s) (4 * j + 1) := ⟨_, rfl⟩
      obtain ⟨x2, hx2⟩ : ∃ x, x = bAt (numsOf s) (4 * j + 2) := ⟨_, rfl⟩
      obtain ⟨x3, hx3⟩ : ∃ x, x = bAt (numsOf s) (4 * j + 3) := ⟨_, rfl⟩
      obtain ⟨x4, hx4⟩ : ∃ x, x = bAt (numsOf s) (4 * j + 4) := ⟨_, rfl⟩
      have hnum : numAt (numsOf s) j = s32 (256 * (256 * (256 * (256 * 0 + x1) + x2) + x3) + x4) := by rw [hx1, hx2, hx3, hx4]; rfl
      rw [show 4 * j + 1 + 0 = 4 * j + 1 from rfl, ← hx1] at q1
      rw [show 4 * j + 1 + 1 = 4 * j + 2 from rfl, ← hx2] at q2
      rw [show 4 * j + 1 + 2 = 4 * j + 3 from rfl, ← hx3] at q3
      rw [show 4 * j + 1 + 3 = 4 * j + 4 from rfl, ← hx4] at q4
      rw [← hx1] at f1 f2
      rw [← hx2] at b1 b2
      rw [← hx3] at c1 c2
      rw [← hx4] at d1 d2
      clear hx1 hx2 hx3 hx4 hcell hxx
      have hle := hrel.2.2.2.le
      have hex := hext.size
      replace hrel := Lib.hid hrel
      replace hR2 := Lib.hid hR2
      replace hnum := Lib.hid hnum
      replace hsx := Lib.hid hsx
      clear hext hcap
      go_wp2_with fail
      go_loop [8, 41] (fun n k => (n = .int .u32 0 ∧ k = .int .i64 0) ∨ (n = .int .u32 x1 ∧ k = .int .i64 1) ∨ (n = .int .u32 (256 * x1 + x2) ∧ k = .int .i64 2) ∨ (n = .int .u32 (256 * (256 * x1 + x2) + x3) ∧ k = .int .i64 3) ∨ (n = .int .u32 (256 * (256 * (256 * x1 + x2) + x3) + x4) ∧ k = .int .i64 4)) (fun _ k => 4 - (intOf k).toNat)
      case atStart => exact .inl ⟨rfl, rfl⟩
      case round =>
        rcases hrel with ⟨rfl, rfl⟩ | ⟨rfl, rfl⟩ | ⟨rfl, rfl⟩ | ⟨rfl, rfl⟩ | ⟨rfl, rfl⟩
        · go_wp2_with fail
          exact ⟨.inr (.inl ⟨by have h := u32_or 0 x1 (by omega) (by omega) (by omega) (by omega); simp at h; rw [h], rfl⟩), by simp [intOf]⟩
        · go_wp2_with fail
          exact ⟨.inr (.inr (.inl ⟨by rw [u32_or x1 x2 (by omega) (by omega) (by omega) (by omega)], rfl⟩)), by simp [intOf]⟩
        · go_wp2_with fail
          exact ⟨.inr (.inr (.inr (.inl ⟨by rw [u32_or _ x3 (by omega) (by omega) (by omega) (by omega)], rfl⟩))), by simp [intOf]⟩
        · go_wp2_with fail
          exact ⟨.inr (.inr (.inr (.inr ⟨by rw [u32_or _ x4 (by omega) (by omega) (by omega) (by omega)], rfl⟩))), by simp [intOf]⟩
        · obtain ⟨old, hold⟩ := arr10_at (bAt (numsOf s) 0) (numAt (numsOf s)) j (j + 1) (by omega)
          have hc := cell_of_block hR2.out.2.1 hold
          have hf := free_of_block (o := j + 1) hR2.out.2.1
          clear hold
          by_cases hbig : 2147483648 ≤ 256 * (256 * (256 * x1 + x2) + x3) + x4
          · have hv0 := hbig
            have hv : numAt (numsOf s) j = 256 * (256 * (256 * x1 + x2) + x3) + x4 - 4294967296 := by
              rw [hnum.out]; unfold s32; rw [if_pos (by omega)]; omega
            have hw3 : wrap32 (256 * (256 * (256 * x1 + x2) + x3) + x4) = 256 * (256 * (256 * x1 + x2) + x3) + x4 - 4294967296 := by unfold wrap32; omega
            replace hv := Lib.hid hv
            go_wp2_with fail
            have R : RRel (numsOf s) w (j + 1) (W2.setCell ⟨w.heap.size + 1, j + 1, none⟩ (.int .i64 (256 * (256 * (256 * x1 + x2) + x3) + x4 - 4294967296))) := by
              rw [← hv.out]
              obtain ⟨g0, g1, g2, g3⟩ := hR2.out
              refine ⟨(block_setCell_ne _ (by simp)).trans g0, ?_, (block_setCell_ne _ (by simp)).trans g2, g3.setCell (by simp) _⟩
              rw [block_setCell g1, arr10_set _ _ _ hlt]
            go_roundw
            case rel => exact ⟨j + 1, by omega, by go_num, R⟩
            case measure => simp [intOf]; omega
          · have hv0 := hbig
            have hv : numAt (numsOf s) j = 256 * (256 * (256 * x1 + x2) + x3) + x4 := by
              rw [hnum.out]; unfold s32; rw [if_neg (by omega)]; omega
            have hw3 : wrap32 (256 * (256 * (256 * x1 + x2) + x3) + x4) = 256 * (256 * (256 * x1 + x2) + x3) + x4 := by unfold wrap32; omega
            replace hv := Lib.hid hv
            go_wp2_with fail
            have R : RRel (numsOf s) w (j + 1) (W2.setCell ⟨w.heap.size + 1, j + 1, none⟩ (.int .i64 (256 * (256 * (256 * x1 + x2) + x3) + x4))) := by
              rw [← hv.out]
              obtain ⟨g0, g1, g2, g3⟩ := hR2.out
              refine ⟨(block_setCell_ne _ (by simp)).trans g0, ?_, (block_setCell_ne _ (by simp)).trans g2, g3.setCell (by simp) _⟩
              rw [block_setCell g1, arr10_set _ _ _ hlt]
            go_roundw
            case rel => exact ⟨j + 1, by omega, by go_num, R⟩
            case measure => simp [intOf]; omega
    · obtain rfl : j = 9 := by omega
      obtain ⟨hB0, hB1, -, hbel⟩ := hrel
      rw [arr10_cmd] at hB1
      have hle := hbel.le
      have hz : ∀ k, k < 10 → wr.cell? ⟨w.heap.size, k, none⟩ = some (.int .i64 0) := fun k hk => cell_of_block hB0 (by
        match k, hk with
        | 0, _ | 1, _ | 2, _ | 3, _ | 4, _ | 5, _ | 6, _ | 7, _ | 8, _ | 9, _ => rfl)
      have hf : ∀ k, wr.frozen? ⟨w.heap.size, k, none⟩ = false := fun k => free_of_block hB0
      obtain ⟨c, hc⟩ : ∃ c, c = cmdOf (numsOf s) := ⟨_, rfl⟩
      rw [← hc] at hB1
      have k0 : wr.cell? ⟨w.heap.size + 1, 0, none⟩ = some (.int .i64 c.op) := cell_of_block hB1 rfl
      have k1 : wr.cell? ⟨w.heap.size + 1, 1, none⟩ = some (.int .i64 c.a) := cell_of_block hB1 rfl
      have k2 : wr.cell? ⟨w.heap.size + 1, 2, none⟩ = some (.int .i64 c.b) := cell_of_block hB1 rfl
      have k3 : wr.cell? ⟨w.heap.size + 1, 3, none⟩ = some (.int .i64 c.c) := cell_of_block hB1 rfl
      have k4 : wr.cell? ⟨w.heap.size + 1, 4, none⟩ = some (.int .i64 c.at_) := cell_of_block hB1 rfl
      have k5 : wr.cell? ⟨w.heap.size + 1, 5, none⟩ = some (.int .i64 c.len) := cell_of_block hB1 rfl
      have k6 : wr.cell? ⟨w.heap.size + 1, 6, none⟩ = some (.int .i64 c.min) := cell_of_block hB1 rfl
      have k7 : wr.cell? ⟨w.heap.size + 1, 7, none⟩ = some (.int .i64 c.max) := cell_of_block hB1 rfl
      have k8 : wr.cell? ⟨w.heap.size + 1, 8, none⟩ = some (.int .i64 c.usual) := cell_of_block hB1 rfl
      have k9 : wr.cell? ⟨w.heap.size + 1, 9, none⟩ = some (.int .i64 c.cool) := cell_of_block hB1 rfl
      have z0 := hz 0 (by omega)
      have z1 := hz 1 (by omega)
      have z2 := hz 2 (by omega)
      have z3 := hz 3 (by omega)
      have z4 := hz 4 (by omega)
      have z5 := hz 5 (by omega)
      have z6 := hz 6 (by omega)
      have z7 := hz 7 (by omega)
      have z8 := hz 8 (by omega)
      have z9 := hz 9 (by omega)
      have hlt' : w.heap.size < wr.heap.size := lt_of_cell z0
      replace hz := Lib.hid hz
      replace hB0 := Lib.hid hB0
      replace hB1 := Lib.hid hB1
      replace hc := Lib.hid hc
      clear hlt
      go_wp2_with fail
      refine bodyPost_ret (v := .tuple #[.agg c.cs, .int .i64 0]) ?_ rfl ⟨by rw [hc.out], Bel.bel (B := _) ?_⟩
      · unfold Cmd.cs
        simp [results, Try.results9, go_sem, z0, z1, z2, z3, z4, z5, z6, z7, z8, z9]
      · (repeat (first | with_reducible assumption | with_reducible exact Bel.refl _ | with_reducible refine Bel.alloc ?_ _ | with_reducible refine Bel.drewN ?_ _ | with_reducible refine Bel.drew ?_ | (with_reducible refine Bel.setCell ?_ (p := _) ?_ _; rotate_left; (first | exact Nat.le_refl _ | (simp; done) | omega | (simp; omega))) | refine Bel.call ?_ (by assumption)))
end Go.Proofs.Ytbebjifnhjlkiaa
