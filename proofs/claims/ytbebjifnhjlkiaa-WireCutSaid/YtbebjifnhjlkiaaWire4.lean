/- wire: the reference's FrameOf. -/
import Derived.Test.YtbebjifnhjlkiaaWire3
import Derived.Lib.AppendStr
namespace Go.Proofs.Ytbebjifnhjlkiaa
open Go Go.RowKit Go.Proofs
theorem strCells_nums (s : ByteArray) : Lib.strCells s = bytesV (numsOf s) := by
  simp [Lib.strCells, bytesV, numsOf, List.map_map, Function.comp_def]
theorem own_shape {w : World} {base e size n : Nat} {v : Value} {xs : List Value} (h : w.ownsRow base e size v n xs) (hn : 0 < n) : ∃ g cap, v = .slice (some ⟨g, 0, none⟩) n cap ∧ base ≤ g ∧ n ≤ cap ∧ cap ≤ 9223372036854775807 := by
  obtain ⟨_, h | ⟨g, cap, cur, hv, hg, hh, hc, hm, _⟩⟩ := h
  · omega
  · exact ⟨g, cap, hv, hg, hc, hm⟩
set_option maxHeartbeats 1000000 in
set_option maxRecDepth 100000 in
theorem frameOf_any (s : ByteArray) (w : World) (hs : s.size ≤ 255) :
    Calls Try.prog 12 #[.string s] w fun e w' => e = .returned (.string (frameS s)) ∧ Ext w w' := by
  obtain ⟨i0, hi, hz0, hz1, hz2⟩ := info_parts Try.info5
  have hstart : (w.alloc (.cells #[.int .u8 (s.size : Int)] 5)).ownsRow w.heap.size 5 1 (.slice (some ⟨w.heap.size, 0, none⟩) 1 1) 1 [.int .u8 (s.size : Int)] :=
    ⟨rfl, .inr ⟨w.heap.size, 1, #[.int .u8 (s.size : Int)], rfl, Nat.le_refl _, block_new _ _, Nat.le_refl _, by decide, rfl, rfl⟩⟩
  replace hstart := Lib.hid hstart
  go_enter Try.func12, Try.ntmps12
  go_wp2_with (at_builtin; go_loud (refine Lib.wpList_append_own_string _ rfl _ _ 49 9 rfl w.heap.size 5 i0 Try.underlying49 Try.underlying9 hi hz0 hz1 hz2 _ 1 _ rfl hstart.out s rfl (by unfold maxLen; omega) (by omega) (by simp) ?_); intro v' w1 hown hgrow _)
  have hown : w1.ownsRow w.heap.size 5 1 v' (1 + s.size) (bytesV (frm s)) := by
    rw [strCells_nums] at hown; simpa [frm, bytesV] using hown
  have hbel : Bel w.heap.size w w1 := ((Bel.refl w).alloc _).grownOwn hstart.out hgrow (Nat.le_refl _)
  obtain ⟨g, cap, rfl, hg, hgc, hgm⟩ := own_shape hown (by omega)
  clear hgrow hstart
  have hfl : (frm s).length = s.size + 1 := by simp [frm, numsOf_length]
  have hcell : ∀ k (h : k < (frm s).length), w1.cell? ⟨g, k, none⟩ = some (.int .u8 (frm s)[k]) := fun k h => by
    rw [hown.cellAt k (by omega)]
    simp [bytesV, List.getElem?_eq_getElem h]
  have hfb := frm_byte s hs
  have hsb := sum_bd (frm s) hfb
  replace hown := Lib.hid hown
  replace hbel := Lib.hid hbel
  replace hcell := Lib.hid hcell
  replace hfb := Lib.hid hfb
  replace hsb := Lib.hid hsb
  replace hfl := Lib.hid hfl
  go_wp2_with fail
  go_loop [4, 5] (fun t i => ∃ k : Nat, k ≤ s.size + 1 ∧ i = .int .i64 k ∧ t = .int .i64 (sumI ((frm s).take k))) (fun _ i => s.size + 1 - (intOf i).toNat)
  case atStart => exact ⟨0, Nat.zero_le _, rfl, rfl⟩
  case round =>
    obtain ⟨k, hk, rfl, rfl⟩ := hrel
    by_cases hlt : k < s.size + 1
    · have hkf : k < (frm s).length := by rw [hfl.out]; exact hlt
      have hc := hcell.out k hkf
      obtain ⟨x, hx⟩ : ∃ x, x = (frm s)[k] := ⟨_, rfl⟩
      have hxb : isByte x := by rw [hx]; exact hfb.out _ (List.getElem_mem hkf)
      rw [← hx] at hc
      have hsn : sumI ((frm s).take (k + 1)) = sumI ((frm s).take k) + ((k : Int) + 1) * x := by
        rw [List.take_succ_eq_append_getElem hkf, sumI_snoc, ← hx]
        congr 2
        simp; omega
      obtain ⟨p1, p2⟩ := prod_bd k x (by omega) hxb
      obtain ⟨q1, q2⟩ := hsb.out k (by omega) (by omega)
      obtain ⟨q, hq⟩ : ∃ q, q = sumI ((frm s).take k) := ⟨_, rfl⟩
      rw [← hq] at q1 q2 hsn
      obtain ⟨x0, x1⟩ := hxb
      replace hsn := Lib.hid hsn
      replace hq := Lib.hid hq
      replace hx := Lib.hid hx
      rw [← hq.out]
      go_wp2_with fail
      go_round
      case rel => exact ⟨k + 1, by omega, by go_num, by rw [hsn.out]⟩
      case measure => simp [intOf]; omega
    · obtain rfl : k = s.size + 1 := by omega
      have hq : sumI ((frm s).take (s.size + 1)) = sumI (frm s) := by rw [List.take_of_length_le (by rw [hfl.out]; omega)]
      rw [hq]
      obtain ⟨q1, q2⟩ := frm_bd s hs
      clear hq hlt hcell hfb hsb
      obtain ⟨q, hq⟩ : ∃ q, q = sumI (frm s) := ⟨_, rfl⟩
      rw [← hq] at q1 q2
      rw [← hq]
      have hle4 : q / 16777216 = q / 16777216 % 256 := by omega
      have hle := hbel.out.le
      replace hq := Lib.hid hq
      replace hle4 := Lib.hid hle4
      go_wp2_with (at_builtin; refine wpList_append_own _ rfl _ _ 49 rfl w.heap.size 5 i0 (.int .u8 0) 1 1 Try.underlying49 hi hz0 hz1 hz2 rfl (by decide) _ _ _ rfl (hown.out.alloc _) ⟨w1.heap.size, 0, none⟩ 4 4 [.int .u8 (q % 256), .int .u8 (q / 256 % 256), .int .u8 (q / 65536 % 256), .int .u8 (q / 16777216)] rfl rfl (cells_new _ _ _) (by intro u hu; simp at hu; rcases hu with rfl | rfl | rfl | rfl <;> rfl) (by unfold maxLen; omega) (by omega) (by simp; omega) ?_; intro v' w2 hown' hgrow _)
      have hb2 : Bel w.heap.size w w2 := (hbel.out.alloc _).grownOwn (hown.out.alloc _) hgrow (Nat.le_refl _)
      have hown2 : w2.ownsRow w.heap.size 5 1 v' (1 + s.size + 4) (bytesV (frm s ++ le4 q)) := by
        unfold le4; rw [← hle4.out]; simpa [bytesV] using hown'
      obtain ⟨g2, cap2, rfl, hconv⟩ := conv_own (P := Try.prog) hown2 (by omega) Try.underlying49 Try.underlying5
      replace hconv := hconv 9 Try.underlying9
      rw [hq.out] at hconv
      have hfe : strOfNums (frm s ++ le4 (sumI (frm s))) = frameS s := rfl
      rw [hfe] at hconv
      clear hown2 hgrow hown' hown hfe
      go_wp2_with fail
      go_simp
      go_wp2_with fail
      go_ret
      exact ⟨rfl, hb2.bel⟩
end Go.Proofs.Ytbebjifnhjlkiaa
