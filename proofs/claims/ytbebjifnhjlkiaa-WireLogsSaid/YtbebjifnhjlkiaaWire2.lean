/- wire: the reference's numbers, WriteError, CmdBytes. -/
import Derived.Test.YtbebjifnhjlkiaaWire1
import Derived.Test.YtbebjifnhjlkiaaWithin
import Derived.Laws.ResultCell
namespace Go.Proofs.Ytbebjifnhjlkiaa
open Go Go.RowKit Go.Proofs
def Cmd.ns (c : Cmd) : Array Value := #[.int .i64 c.a, .int .i64 c.b, .int .i64 c.c, .int .i64 c.at_, .int .i64 c.len, .int .i64 c.min, .int .i64 c.max, .int .i64 c.usual, .int .i64 c.cool]
theorem ns_at (c : Cmd) (j : Nat) (h : j < 9) : c.ns[j]? = some (.int .i64 (c.nums.getD j 0)) := by
  match j, h with
  | 0, _ | 1, _ | 2, _ | 3, _ | 4, _ | 5, _ | 6, _ | 7, _ | 8, _ => rfl
set_option maxHeartbeats 400000 in
theorem numbers_any (c : Cmd) (w : World) :
    Calls Try.prog 22 #[.agg c.cs] w fun e w' => e = .returned (.agg c.ns) ∧ Ext w w' := by
  unfold Cmd.cs Cmd.ns
  go_enter Try.func22, Try.ntmps22
  go_wp2_with fail
  refine bodyPost_ret (v := .agg c.ns) (by simp [results, Try.results22, go_sem]; rfl) rfl ⟨rfl, Bel.bel (B := _) ?_⟩
  (repeat (first | with_reducible assumption | with_reducible exact Bel.refl _ | with_reducible refine Bel.alloc ?_ _ | with_reducible refine Bel.drewN ?_ _ | with_reducible refine Bel.drew ?_ | (with_reducible refine Bel.setCell ?_ (p := _) ?_ _; rotate_left; (first | exact Nat.le_refl _ | (simp; done) | omega | (simp; omega))) | refine Bel.call ?_ (by assumption)))
def Cmd.ok (c : Cmd) : Bool := within c.op 0 255 && c.nums.all in32
set_option maxHeartbeats 400000 in
theorem writeError_any (c : Cmd) (w : World) :
    Calls Try.prog 7 #[.agg c.cs] w fun e w' => e = .returned (.int .i64 (if c.ok then 0 else 3)) ∧ Ext w w' := by
  obtain ⟨r, hr⟩ : ∃ r, r = (if c.ok then (0 : Int) else 3) := ⟨_, rfl⟩
  rw [← hr]
  replace hr := Lib.hid hr
  cases hop : within c.op 0 255
  case false =>
    have h3 : r = 3 := by rw [hr.out]; simp [Cmd.ok, hop]
    subst h3
    unfold Cmd.cs
    go_enter Try.func7, Try.ntmps7
    go_wp2_with (go_at_call 21; refine (within_any _ _ _ _).mono ?_; rintro e w1 ⟨rfl, rfl⟩)
    go_ret
    refine ⟨rfl, Bel.bel (B := _) ?_⟩
    (repeat (first | with_reducible assumption | with_reducible exact Bel.refl _ | with_reducible refine Bel.alloc ?_ _ | with_reducible refine Bel.drewN ?_ _ | with_reducible refine Bel.drew ?_ | (with_reducible refine Bel.setCell ?_ (p := _) ?_ _; rotate_left; (first | exact Nat.le_refl _ | (simp; done) | omega | (simp; omega))) | refine Bel.call ?_ (by assumption)))
  case true =>
    unfold Cmd.cs
    go_enter Try.func7, Try.ntmps7
    go_wp2_with (go_at_call 21; refine (within_any _ _ _ _).mono ?_; rintro e w1 ⟨rfl, rfl⟩)
    refine (numbers_any c _).mono ?_
    rintro e w1 ⟨rfl, hw1⟩
    unfold Cmd.ns
    go_wp2_with fail
    have hB : ∀ j, j < 9 → (w1.alloc (.cells #[.int .i64 c.a, .int .i64 c.b, .int .i64 c.c, .int .i64 c.at_, .int .i64 c.len, .int .i64 c.min, .int .i64 c.max, .int .i64 c.usual, .int .i64 c.cool] 55)).cell? ⟨w1.heap.size, j, none⟩ = some (.int .i64 (c.nums.getD j 0)) :=
      fun j hj => cell_of_block (block_new _ _) (ns_at c j hj)
    have hbel : Bel w.heap.size w (w1.alloc (.cells #[.int .i64 c.a, .int .i64 c.b, .int .i64 c.c, .int .i64 c.at_, .int .i64 c.len, .int .i64 c.min, .int .i64 c.max, .int .i64 c.usual, .int .i64 c.cool] 55)) := by
      (repeat (first | with_reducible assumption | with_reducible exact Bel.refl _ | with_reducible refine Bel.alloc ?_ _ | with_reducible refine Bel.drewN ?_ _ | with_reducible refine Bel.drew ?_ | (with_reducible refine Bel.setCell ?_ (p := _) ?_ _; rotate_left; (first | exact Nat.le_refl _ | (simp; done) | omega | (simp; omega))) | refine Bel.call ?_ (by assumption)))
    replace hbel := Lib.hid hbel
    replace hB := Lib.hid hB
    clear hw1
    go_loop [4] (fun k => ∃ j : Nat, j ≤ 9 ∧ k = .int .i64 j ∧ (∀ n ∈ c.nums.take j, in32 n = true)) (fun k => 9 - (intOf k).toNat)
    case atStart => exact ⟨0, by omega, rfl, by simp⟩
    case round =>
      obtain ⟨j, hj, rfl, hall⟩ := hrel
      by_cases hlt : j < 9
      · have hltI : (j : Int) < 9 := by omega
        obtain ⟨n, hn⟩ : ∃ n, n = c.nums.getD j 0 := ⟨_, rfl⟩
        have hc := hB.out j hlt
        rw [← hn] at hc
        replace hn := Lib.hid hn
        replace hall := Lib.hid hall
        cases h32 : in32 n
        case true =>
          have h32' : within n (-2147483648) 2147483647 = true := h32
          clear h32
          go_wp2_with (go_at_call 21; refine (within_any _ _ _ _).mono ?_; rintro e w2 ⟨rfl, rfl⟩)
          go_round
          case rel => exact ⟨j + 1, by omega, by go_num, (by
              intro m hm
              rw [nums_take c j hlt] at hm
              rcases List.mem_append.1 hm with hm | hm
              · exact hall.out m hm
              · rw [List.mem_singleton.1 hm, ← hn.out]; exact h32')⟩
          case measure => simp [intOf]; omega
        case false =>
          have h32' : within n (-2147483648) 2147483647 = false := h32
          have h3 : r = 3 := by
            have : c.nums.all in32 = false := by
              rw [List.all_eq_false]
              refine ⟨n, ?_, by simp [h32]⟩
              rw [hn.out]
              match j, hlt with
              | 0, _ | 1, _ | 2, _ | 3, _ | 4, _ | 5, _ | 6, _ | 7, _ | 8, _ => simp [Cmd.nums]
            rw [hr.out]; simp [Cmd.ok, this]
          subst h3
          clear h32
          go_wp2_with (go_at_call 21; refine (within_any _ _ _ _).mono ?_; rintro e w2 ⟨rfl, rfl⟩)
          go_ret
          exact ⟨rfl, hbel.out.bel⟩
      · obtain rfl : j = 9 := by omega
        have h3 : r = 0 := by
          have : c.nums.all in32 = true := by
            rw [List.all_eq_true]; exact hall
          rw [hr.out]; simp [Cmd.ok, this, hop]
        subst h3
        clear hall hlt
        go_wp2_with fail
        go_ret
        exact ⟨rfl, hbel.out.bel⟩
def CRel (c : Cmd) (w : World) (nb n : Nat) (xs : List Int) (v : Value) (wr : World) : Prop :=
  wr.ownsRow (w.heap.size + 1) 5 1 v n (bytesV xs) ∧ wr.heap[nb]? = some (.cells c.ns 55 (0, 0)) ∧ Bel w.heap.size w wr
theorem crel_step {c : Cmd} {w wr w1 : World} {nb n : Nat} {xs : List Int} {v v' : Value} {x : Int} {o : Obj} (h : CRel c w nb n xs v wr)
    (hown : w1.ownsRow (w.heap.size + 1) 5 1 v' (n + 4) (bytesV xs ++ [.int .u8 (x / 16777216 % 256), .int .u8 (x / 65536 % 256), .int .u8 (x / 256 % 256), .int .u8 (x % 256)])) (hg : (wr.alloc o).grownBy w1 v.ownBlock) : CRel c w nb (n + 4) (xs ++ be4 x) v' w1 := by
  obtain ⟨h1, h2, h4⟩ := h
  refine ⟨by simpa [bytesV, be4] using hown, ?_, ?_⟩
  · exact grown_keeps (h1.alloc o) hg (block_alloc h2) (by intro cur hc; cases hc)
  · exact (h4.alloc o).grownOwn (h1.alloc o) hg (by omega)
set_option maxHeartbeats 1000000 in
set_option maxRecDepth 100000 in
theorem cmdBytes_any (c : Cmd) (w : World) (h0 : 0 ≤ c.op) (h1 : c.op ≤ 255) (hall : ∀ n ∈ c.nums, in32 n = true) :
    Calls Try.prog 8 #[.agg c.cs] w fun e w' => e = .returned (.string (strOfNums (c.op :: c.nums.flatMap be4))) ∧ Ext w w' := by
  unfold Cmd.cs
  obtain ⟨i0, hi, hz0, hz1, hz2⟩ := info_parts Try.info5
  replace hall := Lib.hid hall
  go_enter Try.func8, Try.ntmps8
  go_wp2_with fail
  refine (numbers_any c _).mono ?_
  rintro e w1 ⟨rfl, hw1⟩
  unfold Cmd.ns
  go_wp2_with fail
  have hstart : CRel c w w1.heap.size 1 [c.op] (.slice (some ⟨w.heap.size + 1, 0, none⟩) 1 1) (w1.alloc (.cells c.ns 55)) := by
    have hz := hw1.size
    simp at hz
    have hb : w1.heap[w.heap.size + 1]? = some (.cells #[.int .u8 c.op] 5 (0, 0)) := by
      have h1 := hw1.block (w.heap.size + 1) (by simp)
      rw [h1]
      have := block_new (w.alloc (.cells c.cs 27)) (.cells #[.int .u8 c.op] 5)
      simpa [Cmd.cs] using this
    refine ⟨⟨rfl, .inr ⟨w.heap.size + 1, 1, #[.int .u8 c.op], rfl, Nat.le_refl _, block_alloc hb, Nat.le_refl _, by decide, rfl, rfl⟩⟩, block_new _ _, ?_⟩
    (repeat (first | with_reducible assumption | with_reducible exact Bel.refl _ | with_reducible refine Bel.alloc ?_ _ | with_reducible refine Bel.drewN ?_ _ | with_reducible refine Bel.drew ?_ | (with_reducible refine Bel.setCell ?_ (p := _) ?_ _; rotate_left; (first | exact Nat.le_refl _ | (simp; done) | omega | (simp; omega))) | refine Bel.call ?_ (by assumption)))
  unfold Cmd.ns at hstart
  replace hstart := Lib.hid hstart
  clear hw1
  go_loopw [3, 5] (fun v k wr => ∃ j : Nat, j ≤ 9 ∧ k = .int .i64 j ∧ CRel c w w1.heap.size (1 + 4 * j) (c.op :: (c.nums.take j).flatMap be4) v wr) (fun _ k _ => 9 - (intOf k).toNat)
  case atStart => exact ⟨0, by omega, rfl, hstart.out⟩
  case round =>
    obtain ⟨j, hj, rfl, hrel⟩ := hrel
    clear hstart
    by_cases hlt : j < 9
    · have hltI : (j : Int) < 9 := by omega
      obtain ⟨hown, hB, hbel⟩ := hrel
      obtain ⟨n, hn⟩ : ∃ n, n = c.nums.getD j 0 := ⟨_, rfl⟩
      have h32 : in32 n = true := hall.out n (by
        rw [hn]
        match j, hlt with
        | 0, _ | 1, _ | 2, _ | 3, _ | 4, _ | 5, _ | 6, _ | 7, _ | 8, _ => simp [Cmd.nums])
      obtain ⟨b1, b2⟩ : -2147483648 ≤ n ∧ n ≤ 2147483647 := by simpa [in32] using h32
      clear h32
      have hc := cell_of_block hB (ns_at c j hlt)
      rw [← hn] at hc
      replace hn := Lib.hid hn
      replace hB := Lib.hid hB
      have hle := hbel.le
      go_wp2_with (at_builtin; refine wpList_append_own _ rfl _ _ 49 rfl (w.heap.size + 1) 5 i0 (.int .u8 0) 1 1 Try.underlying49 hi hz0 hz1 hz2 rfl (by decide) _ _ _ rfl (hown.alloc _) ⟨wr.heap.size, 0, none⟩ 4 4 [.int .u8 (n / 16777216 % 256), .int .u8 (n / 65536 % 256), .int .u8 (n / 256 % 256), .int .u8 (n % 256)] rfl rfl ?c1 ?c2 (by unfold maxLen; omega) (by omega) (by simp; omega) ?_; rotate_right; intro v' w2 hown' hgrow _)
      case c1 =>
        intro u x hu
        match u, hu with
        | 0, hu | 1, hu | 2, hu | 3, hu => simp at hu; subst hu; simp [Addr.add]
      case c2 => intro u hu; simp at hu; rcases hu with rfl | rfl | rfl | rfl <;> rfl
      have R := crel_step (x := n) ⟨hown, hB.out, hbel⟩ hown' hgrow
      clear hown' hgrow hown hB hbel
      go_roundw
      case rel => exact ⟨j + 1, by omega, by go_num, by
        rw [nums_take c j hlt, List.flatMap_append, ← hn.out, show 1 + 4 * (j + 1) = 1 + 4 * j + 4 from by omega]
        simpa using R⟩
      case measure => simp [intOf]; omega
    · obtain rfl : j = 9 := by omega
      obtain ⟨hown, -, hbel⟩ := hrel
      obtain ⟨g, cap, rfl, hconv⟩ := conv_own (P := Try.prog) hown (by omega) Try.underlying49 Try.underlying5
      replace hconv := hconv 9 Try.underlying9
      have ht : c.nums.take 9 = c.nums := rfl
      rw [ht] at hconv
      clear hown ht hall
      go_wp2_with fail
      go_ret
      exact ⟨rfl, hbel.bel⟩
end Go.Proofs.Ytbebjifnhjlkiaa
