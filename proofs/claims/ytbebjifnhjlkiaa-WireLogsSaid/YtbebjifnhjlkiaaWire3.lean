/- wire: sum, Frame, FrameOf. -/
import Derived.Test.YtbebjifnhjlkiaaWire2
import Derived.Laws.Strings
namespace Go.Proofs.Ytbebjifnhjlkiaa
open Go Go.RowKit Go.Proofs
def numsOf (s : ByteArray) : List Int := s.data.toList.map fun b => (b.toNat : Int)
theorem numsOf_length (s : ByteArray) : (numsOf s).length = s.size := by unfold numsOf; rw [List.length_map, Array.length_toList]; rfl
theorem str_numsOf (s : ByteArray) : strOfNums (numsOf s) = s := by
  unfold strOfNums numsOf
  rw [List.map_map]
  have : (s.data.toList.map ((fun n : Int => UInt8.ofNat n.toNat) ∘ fun b => (b.toNat : Int))) = s.data.toList := by
    rw [List.map_congr_left (g := id)]
    · simp
    · intro b _; simp
  rw [this]
def isByte (n : Int) : Prop := 0 ≤ n ∧ n ≤ 255
theorem numsOf_byte (s : ByteArray) : ∀ n ∈ numsOf s, isByte n := by
  intro n hn
  obtain ⟨b, _, rfl⟩ := List.mem_map.1 hn
  have := b.toNat_lt
  exact ⟨by omega, by omega⟩
theorem numsOf_str (xs : List Int) (h : ∀ n ∈ xs, isByte n) : numsOf (strOfNums xs) = xs := by
  unfold strOfNums numsOf
  simp only [List.map_map]
  have : xs.map ((fun b : UInt8 => (b.toNat : Int)) ∘ fun n => UInt8.ofNat n.toNat) = xs := by
    rw [List.map_congr_left (g := id)]
    · simp
    · intro n hn
      obtain ⟨h0, h1⟩ := h n hn
      simp
      omega
  exact this
def sumAux (i : Nat) : List Int → Int
  | [] => 0
  | x :: xs => ((i : Int) + 1) * x + sumAux (i + 1) xs
def sumI (l : List Int) : Int := sumAux 0 l
theorem sumAux_snoc (x : Int) : ∀ (l : List Int) (i : Nat), sumAux i (l ++ [x]) = sumAux i l + ((i + l.length : Nat) + 1 : Int) * x
  | [], i => by simp [sumAux]
  | y :: l, i => by
    simp only [List.cons_append, sumAux, sumAux_snoc x l (i + 1), List.length_cons]
    rw [show i + 1 + l.length = i + (l.length + 1) from by omega]
    omega
theorem sumI_snoc (l : List Int) (x : Int) : sumI (l ++ [x]) = sumI l + ((l.length : Int) + 1) * x := by
  unfold sumI; rw [sumAux_snoc]; simp
theorem prod_bd (k : Nat) (x : Int) (hk : k ≤ 1000) (h : isByte x) : 0 ≤ ((k : Int) + 1) * x ∧ ((k : Int) + 1) * x ≤ 300000 := by
  obtain ⟨h0, h1⟩ := h
  refine ⟨Int.mul_nonneg (by omega) h0, ?_⟩
  calc ((k : Int) + 1) * x ≤ ((k : Int) + 1) * 255 := Int.mul_le_mul_of_nonneg_left h1 (by omega)
    _ ≤ 300000 := by omega
theorem sum_bd (l : List Int) (hb : ∀ n ∈ l, isByte n) : ∀ k, k ≤ l.length → k ≤ 1000 → 0 ≤ sumI (l.take k) ∧ sumI (l.take k) ≤ 300000 * k := by
  intro k
  induction k with
  | zero => intro _ _; simp [sumI, sumAux]
  | succ k ih =>
    intro h1 h2
    have hlt : k < l.length := by omega
    rw [List.take_succ_eq_append_getElem hlt, sumI_snoc]
    have := ih (by omega) (by omega)
    have hp := prod_bd k l[k] (by omega) (hb _ (List.getElem_mem hlt))
    have hl : (l.take k).length = k := by simp; omega
    rw [hl]
    push_cast
    omega
theorem numsOf_get (s : ByteArray) (k : Nat) (h : k < s.size) : (numsOf s)[k]'(by rw [numsOf_length]; exact h) = (s[k].toNat : Int) := by
  simp only [numsOf, List.getElem_map]
  rfl
set_option maxHeartbeats 400000 in
theorem sum_any (s : ByteArray) (w : World) (hs : s.size ≤ 1000) :
    Calls Try.prog 23 #[.string s] w fun e w' => e = .returned (.int .u32 (sumI (numsOf s))) ∧ w = w' := by
  have hnb := numsOf_byte s
  have hsb := sum_bd (numsOf s) hnb
  have hnl := numsOf_length s
  replace hnb := Lib.hid hnb
  replace hsb := Lib.hid hsb
  replace hnl := Lib.hid hnl
  go_enter Try.func23, Try.ntmps23
  go_wp2_with fail
  go_loop [3, 7] (fun t i => ∃ k : Nat, k ≤ s.size ∧ i = .int .i64 k ∧ t = .int .u32 (sumI ((numsOf s).take k))) (fun _ i => s.size - (intOf i).toNat)
  case atStart => exact ⟨0, Nat.zero_le _, rfl, rfl⟩
  case round =>
    obtain ⟨k, hk, rfl, rfl⟩ := hrel
    by_cases hlt : k < s.size
    · have hget := numsOf_get s k hlt
      have hsn : sumI ((numsOf s).take (k + 1)) = sumI ((numsOf s).take k) + ((k : Int) + 1) * (s[k].toNat : Int) := by
        rw [List.take_succ_eq_append_getElem (by rw [hnl.out]; exact hlt), sumI_snoc, hget]
        congr 2
        simp; rw [hnl.out]; omega
      obtain ⟨p1, p2⟩ := prod_bd k (s[k].toNat : Int) (by omega) ⟨by omega, by have := s[k].toNat_lt; omega⟩
      obtain ⟨q1, q2⟩ := hsb.out k (by rw [hnl.out]; omega) (by omega)
      obtain ⟨q, hq⟩ : ∃ q, q = sumI ((numsOf s).take k) := ⟨_, rfl⟩
      rw [← hq] at q1 q2 hsn
      replace hsn := Lib.hid hsn
      replace hq := Lib.hid hq
      clear hget
      rw [← hq.out]
      go_wp2_with fail
      go_round
      case rel => exact ⟨k + 1, by omega, by go_num, by
          rw [hsn.out]
          have hx := s[k].toNat_lt
          have e : ((s[k].toNat : Int) % 4294967296) = (s[k].toNat : Int) := by omega
          rw [e]
          congr 1
          omega⟩
      case measure => simp [intOf]; omega
    · obtain rfl : k = s.size := by omega
      go_wp2_with fail
      go_ret
      exact ⟨ret_int (by rw [List.take_of_length_le (by rw [hnl.out]; omega)]), rfl⟩
def le4 (n : Int) : List Int := [n % 256, n / 256 % 256, n / 65536 % 256, n / 16777216 % 256]
def frm (s : ByteArray) : List Int := (s.size : Int) :: numsOf s
def frameS (s : ByteArray) : ByteArray := strOfNums (frm s ++ le4 (sumI (frm s)))
theorem frm_byte (s : ByteArray) (h : s.size ≤ 255) : ∀ n ∈ frm s, isByte n := by
  intro n hn
  rcases List.mem_cons.1 hn with rfl | hn
  · exact ⟨by omega, by omega⟩
  · exact numsOf_byte s n hn
theorem str_append (xs ys : List Int) : strOfNums (xs ++ ys) = strOfNums xs ++ strOfNums ys := by
  apply ByteArray.ext
  rw [ByteArray.data_append]
  simp [strOfNums]
theorem nums_append (a b : ByteArray) : numsOf (a ++ b) = numsOf a ++ numsOf b := by
  unfold numsOf
  rw [ByteArray.data_append]
  simp
theorem nums_one (n : Nat) (h : n ≤ 255) : numsOf (strOfNums [(n : Int)]) = [(n : Int)] := numsOf_str _ (by intro m hm; rw [List.mem_singleton.1 hm]; exact ⟨by omega, by omega⟩)
theorem frm_nums (s : ByteArray) (h : s.size ≤ 255) : numsOf (strOfNums [(s.size : Int)] ++ s) = frm s := by
  rw [nums_append, nums_one _ h]; rfl
theorem frameS_eq (s : ByteArray) (h : s.size ≤ 255) : strOfNums [(s.size : Int)] ++ s ++ strOfNums (le4 (sumI (frm s))) = frameS s := by
  unfold frameS frm
  rw [str_append, show ((s.size : Int) :: numsOf s) = [(s.size : Int)] ++ numsOf s from rfl, str_append, str_numsOf]
theorem frm_bd (s : ByteArray) (h : s.size ≤ 255) : 0 ≤ sumI (frm s) ∧ sumI (frm s) ≤ 100000000 := by
  have hl : (frm s).length = s.size + 1 := by simp [frm, numsOf_length]
  have := sum_bd (frm s) (frm_byte s h) (frm s).length (Nat.le_refl _) (by omega)
  rw [List.take_length] at this
  rw [hl] at this
  push_cast at this
  omega
set_option maxHeartbeats 800000 in
set_option maxRecDepth 100000 in
theorem frame_any (s : ByteArray) (w : World) (hs : s.size ≤ 255) :
    Calls Try.prog 11 #[.string s] w fun e w' => e = .returned (.tuple #[.string (frameS s), .int .i64 0]) ∧ Ext w w' := by
  have hconv := run_convert_bytes_arg (P := Try.prog) (w.alloc (.cells #[.int .u8 (s.size : Int)] 5)) 49 5 Try.underlying49 Try.underlying5 w.heap.size 0 1 1 [(s.size : Int)] rfl (fun i hi => by
    obtain rfl : i = 0 := by omega
    exact cell_of_block (block_new _ _) rfl) 9 Try.underlying9
  have hf := frm_nums s hs
  have hfe := frameS_eq s hs
  obtain ⟨q1, q2⟩ := frm_bd s hs
  obtain ⟨x, hx⟩ : ∃ x, x = strOfNums [(s.size : Int)] := ⟨_, rfl⟩
  have hxs : x.size ≤ 1 := by rw [hx, strOfNums_size]; simp
  rw [← hx] at hconv hf hfe
  obtain ⟨y, hy⟩ : ∃ y, y = x ++ s := ⟨_, rfl⟩
  have hys : y.size ≤ 1000 := by rw [hy, ByteArray.size_append]; omega
  rw [← hy] at hf hfe
  obtain ⟨q, hq⟩ : ∃ q, q = sumI (frm s) := ⟨_, rfl⟩
  rw [← hq] at hfe q1 q2
  have hsum := sum_any y (w.alloc (.cells #[.int .u8 (s.size : Int)] 5)) hys
  rw [hf, ← hq] at hsum
  have hconv2 := run_convert_bytes_arg (P := Try.prog) ((w.alloc (.cells #[.int .u8 (s.size : Int)] 5)).alloc (.cells #[.int .u8 (q % 256), .int .u8 (q / 256 % 256), .int .u8 (q / 65536 % 256), .int .u8 (q / 16777216)] 5)) 49 5 Try.underlying49 Try.underlying5 (w.heap.size + 1) 0 4 4 [q % 256, q / 256 % 256, q / 65536 % 256, q / 16777216] rfl (fun i hi => by
    have hb := block_new (w.alloc (.cells #[.int .u8 (s.size : Int)] 5)) (.cells #[.int .u8 (q % 256), .int .u8 (q / 256 % 256), .int .u8 (q / 65536 % 256), .int .u8 (q / 16777216)] 5)
    rw [World.size_alloc] at hb
    match i, hi with
    | 0, _ | 1, _ | 2, _ | 3, _ => exact cell_of_block hb rfl) 9 Try.underlying9
  have hle4 : [q % 256, q / 256 % 256, q / 65536 % 256, q / 16777216] = le4 q := by
    unfold le4; rw [show q / 16777216 % 256 = q / 16777216 from by omega]
  rw [hle4] at hconv2
  clear hle4
  obtain ⟨z, hz⟩ : ∃ z, z = strOfNums (le4 q) := ⟨_, rfl⟩
  have hzs : z.size ≤ 4 := by rw [hz, strOfNums_size]; simp [le4]
  rw [← hz] at hconv2 hfe
  have hadd : ∀ W : World, (Op.stringOp .add x s).run Try.prog W = .ok (.string y) W := fun W => by rw [hy]; exact run_string_add_sum W x s (by omega)
  have hadd2 : ∀ W : World, (Op.stringOp .add y z).run Try.prog W = .ok (.string (frameS s)) W := fun W => by rw [← hfe]; exact run_string_add_sum W y z (by omega)
  replace hx := Lib.hid hx
  replace hy := Lib.hid hy
  replace hq := Lib.hid hq
  replace hz := Lib.hid hz
  replace hf := Lib.hid hf
  replace hfe := Lib.hid hfe
  go_enter Try.func11, Try.ntmps11
  go_wp2_with fail
  refine hsum.mono ?_
  rintro e w1 ⟨rfl, rfl⟩
  clear hsum hconv
  go_wp2_with fail
  go_ret2
  refine ⟨rfl, Bel.bel (B := _) ?_⟩
  (repeat (first | with_reducible assumption | with_reducible exact Bel.refl _ | with_reducible refine Bel.alloc ?_ _ | with_reducible refine Bel.drewN ?_ _ | with_reducible refine Bel.drew ?_ | (with_reducible refine Bel.setCell ?_ (p := _) ?_ _; rotate_left; (first | exact Nat.le_refl _ | (simp; done) | omega | (simp; omega))) | refine Bel.call ?_ (by assumption)))
end Go.Proofs.Ytbebjifnhjlkiaa
