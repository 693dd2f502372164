/- wire: places, Write. -/
import Derived.Test.YtbebjifnhjlkiaaBase
import Derived.RegionTactic
import Derived.Laws.BytesArg
import Derived.Laws.OwnMore
namespace Go.Proofs.Ytbebjifnhjlkiaa
open Go Go.RowKit Go.Proofs
set_option maxHeartbeats 400000 in
theorem places_any (b : Nat) (w : World) (c0 : Value) (hc : w.cell? ⟨b, 0, none⟩ = some c0) :
    Calls Try.prog 20 #[.pointer (some ⟨b, 0, none⟩)] w fun e w' =>
      e = .returned (.slice (some ⟨w.heap.size, 0, none⟩) 9 9) ∧ w' = (w.alloc (.cells #[.pointer (some ⟨b, 1, none⟩), .pointer (some ⟨b, 2, none⟩), .pointer (some ⟨b, 3, none⟩), .pointer (some ⟨b, 4, none⟩), .pointer (some ⟨b, 5, none⟩), .pointer (some ⟨b, 6, none⟩), .pointer (some ⟨b, 7, none⟩), .pointer (some ⟨b, 8, none⟩), .pointer (some ⟨b, 9, none⟩)] 53)).drew := by
  go_enter Try.func20, Try.ntmps20
  go_wp2_with fail
  go_region
  go_wp2_with fail
  go_ret
  exact ⟨rfl, rfl⟩
structure Cmd where
  op : Int
  a : Int
  b : Int
  c : Int
  at_ : Int
  len : Int
  min : Int
  max : Int
  usual : Int
  cool : Int
  deriving DecidableEq
def Cmd.nums (c : Cmd) : List Int := [c.a, c.b, c.c, c.at_, c.len, c.min, c.max, c.usual, c.cool]
def Cmd.cs (c : Cmd) : Array Value := #[.int .i64 c.op, .int .i64 c.a, .int .i64 c.b, .int .i64 c.c, .int .i64 c.at_, .int .i64 c.len, .int .i64 c.min, .int .i64 c.max, .int .i64 c.usual, .int .i64 c.cool]
def in32 (n : Int) : Bool := decide (-2147483648 ≤ n) && decide (n ≤ 2147483647)
def be4 (n : Int) : List Int := [n / 16777216 % 256, n / 65536 % 256, n / 256 % 256, n % 256]
theorem Try.info5 : (Try.prog.info? 5).map (fun i => (i.zero, i.size, i.bytes)) = some (some (.int .u8 0), 1, 1) := by kernel_rfl
def ptrs (b : Nat) : Array Value := #[.pointer (some ⟨b, 1, none⟩), .pointer (some ⟨b, 2, none⟩), .pointer (some ⟨b, 3, none⟩), .pointer (some ⟨b, 4, none⟩), .pointer (some ⟨b, 5, none⟩), .pointer (some ⟨b, 6, none⟩), .pointer (some ⟨b, 7, none⟩), .pointer (some ⟨b, 8, none⟩), .pointer (some ⟨b, 9, none⟩)]
theorem ptr_at (b j : Nat) (h : j < 9) : (ptrs b)[j]? = some (.pointer (some ⟨b, j + 1, none⟩)) := by
  match j, h with
  | 0, _ | 1, _ | 2, _ | 3, _ | 4, _ | 5, _ | 6, _ | 7, _ | 8, _ => rfl
theorem cs_at (c : Cmd) (j : Nat) (h : j < 9) : c.cs[j + 1]? = some (.int .i64 (c.nums.getD j 0)) := by
  match j, h with
  | 0, _ | 1, _ | 2, _ | 3, _ | 4, _ | 5, _ | 6, _ | 7, _ | 8, _ => rfl
theorem nums_take (c : Cmd) (j : Nat) (h : j < 9) : c.nums.take (j + 1) = c.nums.take j ++ [c.nums.getD j 0] := by
  match j, h with
  | 0, _ | 1, _ | 2, _ | 3, _ | 4, _ | 5, _ | 6, _ | 7, _ | 8, _ => rfl
def bytesV (xs : List Int) : List Value := xs.map (.int .u8)
def WRel (c : Cmd) (w : World) (n : Nat) (xs : List Int) (v : Value) (wr : World) : Prop :=
  wr.ownsRow (w.heap.size + 1) 5 1 v n (bytesV xs) ∧ wr.heap[w.heap.size]? = some (.cells c.cs 27 (0, 0)) ∧ wr.heap[w.heap.size + 2]? = some (.cells (ptrs w.heap.size) 53 (0, 0)) ∧ Bel w.heap.size w wr
theorem wrel_step {c : Cmd} {w wr w1 : World} {n : Nat} {xs : List Int} {v v' : Value} {x : Int} {o : Obj} (h : WRel c w n xs v wr)
    (hown : w1.ownsRow (w.heap.size + 1) 5 1 v' (n + 1) (bytesV xs ++ [.int .u8 x])) (hg : (wr.alloc o).grownBy w1 v.ownBlock) : WRel c w (n + 1) (xs ++ [x]) v' w1 := by
  obtain ⟨h1, h2, h3, h4⟩ := h
  refine ⟨by simpa [bytesV] using hown, ?_, ?_, ?_⟩
  · exact grown_keeps (h1.alloc o) hg (block_alloc h2) (by intro cur hc; cases hc)
  · exact grown_keeps (h1.alloc o) hg (block_alloc h3) (by intro cur hc; cases hc)
  · exact (h4.alloc o).grownOwn (h1.alloc o) hg (by omega)
def writeRes (c : Cmd) : Value := if c.nums.all in32 then .tuple #[.string (strOfNums (c.op :: c.nums.flatMap be4)), .int .i64 0] else .tuple #[.string ⟨#[]⟩, .int .i64 3]
theorem conv_own {P : Program} {w : World} {base e src n : Nat} {v : Value} {xs : List Int} (h : w.ownsRow base e 1 v n (bytesV xs)) (hn : 0 < n) (hs : P.underlying src = some (.slice e)) (he : P.underlying e = some (.int .u8)) :
    ∃ g cap, v = .slice (some ⟨g, 0, none⟩) n cap ∧ ∀ dst, P.underlying dst = some .string → (convert src dst (.slice (some ⟨g, 0, none⟩) n cap)).run P w = .ok (.string (strOfNums xs)) w := by
  obtain ⟨hl, h | ⟨g, cap, cur, rfl, hg, hh, hle, hm, hs', ht⟩⟩ := h
  · omega
  · refine ⟨g, cap, rfl, run_convert_bytes_arg w src e hs he g 0 n cap xs (by simpa [bytesV] using hl) fun i hi => ?_⟩
    have hxl : xs.length = n := by simpa [bytesV] using hl
    refine cell_of_block hh ?_
    have h1 : (cur.toList.take (n * 1))[i]? = (bytesV xs)[i]? := by rw [ht]
    rw [List.getElem?_take_of_lt (by omega), Array.getElem?_toList] at h1
    simp only [Nat.zero_add]
    rw [h1]
    simp [bytesV, List.getElem?_eq_getElem (show i < xs.length by omega)]
set_option maxHeartbeats 1000000 in
set_option maxRecDepth 100000 in
theorem write_in (c : Cmd) (w : World) (h0 : 0 ≤ c.op) (h1 : c.op ≤ 255) :
    Calls Try.prog 6 #[.agg c.cs] w fun e w' =>
      e = .returned (writeRes c) ∧ Ext w w' := by
  have hstart : WRel c w 1 [c.op] (.slice (some ⟨w.heap.size + 1, 0, none⟩) 1 1) ((((w.alloc (.cells c.cs 27)).alloc (.cells #[.int .u8 c.op] 5)).alloc (.cells (ptrs w.heap.size) 53)).drew) := by
    refine ⟨⟨rfl, .inr ⟨w.heap.size + 1, 1, #[.int .u8 c.op], rfl, Nat.le_refl _, ?_, Nat.le_refl _, by decide, rfl, rfl⟩⟩, ?_, ?_, ?_⟩
    · exact block_drew.trans (block_alloc (by have := block_new (w.alloc (.cells c.cs 27)) (.cells #[.int .u8 c.op] 5); simpa using this))
    · exact block_drew.trans (block_alloc (block_alloc (block_new _ _)))
    · exact block_drew.trans (by have := block_new ((w.alloc (.cells c.cs 27)).alloc (.cells #[.int .u8 c.op] 5)) (.cells (ptrs w.heap.size) 53); simpa using this)
    · exact (((Bel.refl w).alloc _).alloc _).alloc _ |>.drew
  unfold Cmd.cs ptrs at hstart
  replace hstart := Lib.hid hstart
  unfold Cmd.cs
  obtain ⟨i0, hi, hz0, hz1, hz2⟩ := info_parts Try.info5
  go_enter Try.func6, Try.ntmps6
  go_wp2_with fail
  refine (places_any _ _ (.int .i64 c.op) (by go_simp)).mono ?_
  rintro e w1 ⟨rfl, rfl⟩
  go_wp2_with fail
  go_loopw [4, 23] (fun v k wr => ∃ j : Nat, j ≤ 9 ∧ k = .int .i64 j ∧ (∀ n ∈ c.nums.take j, in32 n = true) ∧ WRel c w (1 + 4 * j) (c.op :: (c.nums.take j).flatMap be4) v wr) (fun _ k _ => 9 - (intOf k).toNat)
  case atStart => exact ⟨0, by omega, rfl, by simp, hstart.out⟩
  case round =>
    obtain ⟨j, hj, rfl, hall, hrel⟩ := hrel
    by_cases hlt : j < 9
    · obtain ⟨hown, hB0, hB2, hbel⟩ := hrel
      obtain ⟨n, hn⟩ : ∃ n, n = c.nums.getD j 0 := ⟨_, rfl⟩
      have hltI : (j : Int) < 9 := by omega
      have hp := cell_of_block hB2 (ptr_at _ j hlt)
      have hc := cell_of_block hB0 (cs_at c j hlt)
      rw [← hn] at hc
      replace hall := Lib.hid hall
      replace hn := Lib.hid hn
      replace hB0 := Lib.hid hB0
      replace hB2 := Lib.hid hB2
      by_cases h32 : in32 n = true
      · obtain ⟨b1, b2⟩ : -2147483648 ≤ n ∧ n ≤ 2147483647 := by simpa [in32] using h32
        clear h32
        clear hstart
        go_wp2_with fail
        obtain ⟨wo, rfl⟩ : ∃ wo : World, wo = wr := ⟨_, rfl⟩
        go_loopw [4, 8] (fun v2 i wr2 => ∃ t : Nat, t ≤ 4 ∧ i = .int .i64 (24 - 8 * (t : Int)) ∧ WRel c w (1 + 4 * j + t) ((c.op :: (c.nums.take j).flatMap be4) ++ (be4 n).take t) v2 wr2) (fun _ i _ => (intOf i + 8).toNat)
        case atStart => exact ⟨0, by omega, rfl, by simpa using hown, hB0.out, hB2.out, hbel⟩
        case round =>
          obtain ⟨t, ht, rfl, hown2, hB02, hB22, hbel2⟩ := hrel
          clear hown hp hc hbel
          replace hB02 := Lib.hid hB02
          replace hB22 := Lib.hid hB22
          have hle := hbel2.le
          match t, ht with
          | 0, _ =>
            go_wp2_with (at_builtin; refine wpList_append_own _ rfl _ _ 49 rfl (w.heap.size + 1) 5 i0 (.int .u8 0) 1 1 Try.underlying49 hi hz0 hz1 hz2 rfl (by decide) _ _ _ rfl (hown2.alloc _) ⟨wr.heap.size, 0, none⟩ 1 1 [.int .u8 (n / 16777216 % 256)] rfl rfl (cell_one_new _ _ _) (by intro u hu; simp at hu; subst hu; rfl) (by unfold maxLen; omega) (by omega) (by simp; omega) ?_; intro v' w1 hown' hgrow _)
            have R := wrel_step (x := n / 16777216 % 256) ⟨hown2, hB02.out, hB22.out, hbel2⟩ hown' hgrow
            clear hown' hgrow hown2 hB02 hB22 hbel2
            go_roundw
            case rel => exact ⟨0 + 1, by omega, by go_num, by simpa [be4, bytesV, Nat.add_assoc] using R⟩
            case measure => simp [intOf]
          | 1, _ =>
            go_wp2_with (at_builtin; refine wpList_append_own _ rfl _ _ 49 rfl (w.heap.size + 1) 5 i0 (.int .u8 0) 1 1 Try.underlying49 hi hz0 hz1 hz2 rfl (by decide) _ _ _ rfl (hown2.alloc _) ⟨wr.heap.size, 0, none⟩ 1 1 [.int .u8 (n / 65536 % 256)] rfl rfl (cell_one_new _ _ _) (by intro u hu; simp at hu; subst hu; rfl) (by unfold maxLen; omega) (by omega) (by simp; omega) ?_; intro v' w1 hown' hgrow _)
            have R := wrel_step (x := n / 65536 % 256) ⟨hown2, hB02.out, hB22.out, hbel2⟩ hown' hgrow
            clear hown' hgrow hown2 hB02 hB22 hbel2
            go_roundw
            case rel => exact ⟨1 + 1, by omega, by go_num, by simpa [be4, bytesV, Nat.add_assoc] using R⟩
            case measure => simp [intOf]
          | 2, _ =>
            go_wp2_with (at_builtin; refine wpList_append_own _ rfl _ _ 49 rfl (w.heap.size + 1) 5 i0 (.int .u8 0) 1 1 Try.underlying49 hi hz0 hz1 hz2 rfl (by decide) _ _ _ rfl (hown2.alloc _) ⟨wr.heap.size, 0, none⟩ 1 1 [.int .u8 (n / 256 % 256)] rfl rfl (cell_one_new _ _ _) (by intro u hu; simp at hu; subst hu; rfl) (by unfold maxLen; omega) (by omega) (by simp; omega) ?_; intro v' w1 hown' hgrow _)
            have R := wrel_step (x := n / 256 % 256) ⟨hown2, hB02.out, hB22.out, hbel2⟩ hown' hgrow
            clear hown' hgrow hown2 hB02 hB22 hbel2
            go_roundw
            case rel => exact ⟨2 + 1, by omega, by go_num, by simpa [be4, bytesV, Nat.add_assoc] using R⟩
            case measure => simp [intOf]
          | 3, _ =>
            go_wp2_with (at_builtin; refine wpList_append_own _ rfl _ _ 49 rfl (w.heap.size + 1) 5 i0 (.int .u8 0) 1 1 Try.underlying49 hi hz0 hz1 hz2 rfl (by decide) _ _ _ rfl (hown2.alloc _) ⟨wr.heap.size, 0, none⟩ 1 1 [.int .u8 (n % 256)] rfl rfl (cell_one_new _ _ _) (by intro u hu; simp at hu; subst hu; rfl) (by unfold maxLen; omega) (by omega) (by simp; omega) ?_; intro v' w1 hown' hgrow _)
            have R := wrel_step (x := n % 256) ⟨hown2, hB02.out, hB22.out, hbel2⟩ hown' hgrow
            clear hown' hgrow hown2 hB02 hB22 hbel2
            go_roundw
            case rel => exact ⟨3 + 1, by omega, by go_num, by simpa [be4, bytesV, Nat.add_assoc] using R⟩
            case measure => simp [intOf]
          | 4, _ =>
            go_wp2_with fail
            go_roundw
            case rel => exact ⟨j + 1, by omega, by go_num, (by
              intro m hm
              rw [nums_take c j hlt] at hm
              rcases List.mem_append.1 hm with hm | hm
              · exact hall.out m hm
              · rw [List.mem_singleton.1 hm, ← hn.out]; simp [in32, b1, b2]), (by
              rw [nums_take c j hlt, List.flatMap_append, ← hn.out]
              exact ⟨by rw [show 1 + 4 * (j + 1) = 1 + 4 * j + 4 from by omega]; simpa [be4, bytesV] using hown2, hB02.out, hB22.out, hbel2⟩)⟩
            case measure => simp [intOf]; omega
      · clear hstart
        replace h32 := (Bool.not_eq_true _).mp h32
        have hne : (wrap64 (wrap32 n) != n) = true := by
          rw [bne_iff_ne]
          intro he
          have : ¬ (-2147483648 ≤ n ∧ n ≤ 2147483647) := by intro hh; simp [in32, hh] at h32
          unfold wrap64 wrap32 at he
          omega
        have hr : writeRes c = .tuple #[.string ⟨#[]⟩, .int .i64 3] := by
          have : c.nums.all in32 = false := by
            rw [List.all_eq_false]
            refine ⟨n, ?_, by simp [h32]⟩
            rw [hn.out]
            match j, hlt with
            | 0, _ | 1, _ | 2, _ | 3, _ | 4, _ | 5, _ | 6, _ | 7, _ | 8, _ => simp [Cmd.nums]
          unfold writeRes; rw [this]; rfl
        replace hr := Lib.hid hr
        go_wp2_with fail
        go_ret2
        exact ⟨by rw [hr.out]; rfl, hbel.bel⟩
    · obtain rfl : j = 9 := by omega
      clear hstart hlt
      obtain ⟨hown, -, -, hbel⟩ := hrel
      obtain ⟨g, cap, rfl, hconv⟩ := conv_own (P := Try.prog) hown (by omega) Try.underlying49 Try.underlying5
      replace hconv := hconv 9 Try.underlying9
      have hr : writeRes c = .tuple #[.string (strOfNums (c.op :: c.nums.flatMap be4)), .int .i64 0] := by
        have : c.nums.all in32 = true := by
          rw [List.all_eq_true]; exact hall
        unfold writeRes; rw [this]; rfl
      have ht : c.nums.take 9 = c.nums := rfl
      rw [ht] at hconv
      replace hr := Lib.hid hr
      clear hown hall ht
      go_wp2_with fail
      go_ret2
      exact ⟨by rw [hr.out]; rfl, hbel.bel⟩
end Go.Proofs.Ytbebjifnhjlkiaa
