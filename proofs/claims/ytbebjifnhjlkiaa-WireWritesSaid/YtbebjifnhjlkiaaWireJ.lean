/- wire's laws: WireWrites. -/
import Derived.Test.YtbebjifnhjlkiaaWireI
namespace Go.Proofs.Ytbebjifnhjlkiaa
open Go Go.RowKit Go.Proofs
set_option maxHeartbeats 2000000 in
set_option maxRecDepth 100000 in
theorem wireWrites_any (c : Cmd) (s : ByteArray) (w : World) :
    Calls Try.prog 3 #[.agg c.cs, .string s] w fun e w' => e = .returned (.bool true) ∧ Ext w w' := by
  have hw := fun W => write_any c W
  have hwe := fun W => writeError_any c W
  have hrd := fun W => read_all s W
  have hcf := fun W => cmdFrom_all s W
  have hfr := fun W => frame_all s W
  have hfo : s.size ≤ 255 → ∀ W, Calls Try.prog 12 #[.string s] W fun e w' => e = .returned (.string (frameS s)) ∧ Ext W w' := fun h W => frameOf_any s W h
  have hcb : c.ok = true → ∀ W, Calls Try.prog 8 #[.agg c.cs] W fun e w' => e = .returned (.string (cmdS c)) ∧ Ext W w' := fun h W => by
    obtain ⟨o1, o2, o3⟩ := cmd_ok h
    exact cmdBytes_any c W o1 o2 o3
  unfold writeV at hw
  unfold readV at hrd
  unfold cmdFromV at hcf
  unfold frameV at hfr
  obtain ⟨d, hd⟩ : ∃ d, d = cmdAll s := ⟨_, rfl⟩
  obtain ⟨z, hz⟩ : ∃ z, z = frameS s := ⟨_, rfl⟩
  obtain ⟨y, hy⟩ : ∃ y, y = cmdS c := ⟨_, rfl⟩
  rw [← hd] at hrd hcf
  rw [← hz] at hfr hfo
  rw [← hy] at hw hcb
  unfold Cmd.cs at *
  clear hd hz hy
  obtain ⟨r37, h37⟩ : ∃ r, r = decide (s.size = 37) := ⟨_, rfl⟩
  obtain ⟨x37, hx37⟩ : ∃ x : Int, x = if s.size = 37 then 0 else 1 := ⟨_, rfl⟩
  rw [← hx37] at hrd
  rw [← h37] at hcf
  cases hok : c.ok
  case true =>
    simp only [hok, if_true] at hw hwe
    replace hcb := hcb hok
    replace hcb := Lib.hid hcb
    replace hw := Lib.hid hw
    replace hwe := Lib.hid hwe
    replace hrd := Lib.hid hrd
    replace hcf := Lib.hid hcf
    by_cases h255 : s.size ≤ 255
    · simp only [h255, if_true] at hfr
      replace hfo := hfo h255
      replace hfr := Lib.hid hfr
      replace hfo := Lib.hid hfo
      by_cases h37' : s.size = 37
      · have hr : r37 = true := by rw [h37]; simp [h37']
        have hx : x37 = 0 := by rw [hx37]; simp [h37']
        subst hr hx
        clear h37 hx37 h37' hok
        go_enter Try.func3, Try.ntmps3
        go_wp2_with fail
        refine (hw.out _).mono ?_
        rintro e w1 ⟨rfl, hw1⟩
        obtain ⟨hcw1, hfw1⟩ := bcell hw1
        have hzw1 := bsize hw1
        (try simp only [World.size_alloc, World.size_setCell, World.size_drew, World.heap_drewN] at hcw1 hfw1 hzw1)
        have l1 : w.heap.size < w1.heap.size := by omega
        go_wp2_with fail
        refine (hwe.out _).mono ?_
        rintro e w2 ⟨rfl, hw2⟩
        obtain ⟨hcw2, hfw2⟩ := bcell hw2
        have hzw2 := bsize hw2
        (try simp only [World.size_alloc, World.size_setCell, World.size_drew, World.heap_drewN] at hcw2 hfw2 hzw2)
        have l2 : w.heap.size < w2.heap.size := by omega
        go_wp2_with fail
        refine (hcb.out _).mono ?_
        rintro e w3 ⟨rfl, hw3⟩
        obtain ⟨hcw3, hfw3⟩ := bcell hw3
        have hzw3 := bsize hw3
        (try simp only [World.size_alloc, World.size_setCell, World.size_drew, World.heap_drewN] at hcw3 hfw3 hzw3)
        have l3 : w.heap.size < w3.heap.size := by omega
        go_wp2_with fail
        refine (hrd.out _).mono ?_
        rintro e w4 ⟨rfl, hw4⟩
        obtain ⟨hcw4, hfw4⟩ := bcell hw4
        have hzw4 := bsize hw4
        (try simp only [World.size_alloc, World.size_setCell, World.size_drew, World.heap_drewN] at hcw4 hfw4 hzw4)
        have l4 : w.heap.size < w4.heap.size := by omega
        go_wp2_with fail
        refine (hcf.out _).mono ?_
        rintro e w5 ⟨rfl, hw5⟩
        obtain ⟨hcw5, hfw5⟩ := bcell hw5
        have hzw5 := bsize hw5
        (try simp only [World.size_alloc, World.size_setCell, World.size_drew, World.heap_drewN] at hcw5 hfw5 hzw5)
        have l5 : w.heap.size < w5.heap.size := by omega
        have m5 : w4.heap.size < w5.heap.size := by omega
        go_wp2_with fail
        refine (hfr.out _).mono ?_
        rintro e w6 ⟨rfl, hw6⟩
        obtain ⟨hcw6, hfw6⟩ := bcell hw6
        have hzw6 := bsize hw6
        (try simp only [World.size_alloc, World.size_setCell, World.size_drew, World.heap_drewN] at hcw6 hfw6 hzw6)
        have l6 : w.heap.size < w6.heap.size := by omega
        have m6 : w4.heap.size < w6.heap.size := by omega
        have n6 : w5.heap.size < w6.heap.size := by omega
        go_wp2_with fail
        refine (hfo.out _).mono ?_
        rintro e w7 ⟨rfl, hw7⟩
        obtain ⟨hcw7, hfw7⟩ := bcell hw7
        have hzw7 := bsize hw7
        (try simp only [World.size_alloc, World.size_setCell, World.size_drew, World.heap_drewN] at hcw7 hfw7 hzw7)
        have l7 : w.heap.size < w7.heap.size := by omega
        have m7 : w4.heap.size < w7.heap.size := by omega
        have n7 : w5.heap.size < w7.heap.size := by omega
        go_wp2_with fail
        refine (wireBegun_any _).mono ?_
        rintro e w8 ⟨rfl, hw8⟩
        obtain ⟨hcw8, hfw8⟩ := bcell hw8
        have hzw8 := bsize hw8
        (try simp only [World.size_alloc, World.size_setCell, World.size_drew, World.heap_drewN] at hcw8 hfw8 hzw8)
        have l8 : w.heap.size < w8.heap.size := by omega
        have m8 : w4.heap.size < w8.heap.size := by omega
        have n8 : w5.heap.size < w8.heap.size := by omega
        go_wp2_with fail
        go_ret
        refine ⟨rfl, Bel.bel (B := _) ?_⟩
        (repeat (first | with_reducible assumption | with_reducible exact Bel.refl _ | with_reducible refine Bel.alloc ?_ _ | with_reducible refine Bel.drewN ?_ _ | with_reducible refine Bel.drew ?_ | (with_reducible refine Bel.setCell ?_ (p := _) ?_ _; rotate_left; (first | exact Nat.le_refl _ | (simp; done) | omega | (simp; omega))) | refine Bel.call ?_ (by assumption)))
      · have hr : r37 = false := by rw [h37]; simp [h37']
        have hx : x37 = 1 := by rw [hx37]; simp [h37']
        subst hr hx
        clear h37 hx37 h37' hok
        go_enter Try.func3, Try.ntmps3
        go_wp2_with fail
        refine (hw.out _).mono ?_
        rintro e w1 ⟨rfl, hw1⟩
        obtain ⟨hcw1, hfw1⟩ := bcell hw1
        have hzw1 := bsize hw1
        (try simp only [World.size_alloc, World.size_setCell, World.size_drew, World.heap_drewN] at hcw1 hfw1 hzw1)
        have l1 : w.heap.size < w1.heap.size := by omega
        go_wp2_with fail
        refine (hwe.out _).mono ?_
        rintro e w2 ⟨rfl, hw2⟩
        obtain ⟨hcw2, hfw2⟩ := bcell hw2
        have hzw2 := bsize hw2
        (try simp only [World.size_alloc, World.size_setCell, World.size_drew, World.heap_drewN] at hcw2 hfw2 hzw2)
        have l2 : w.heap.size < w2.heap.size := by omega
        go_wp2_with fail
        refine (hcb.out _).mono ?_
        rintro e w3 ⟨rfl, hw3⟩
        obtain ⟨hcw3, hfw3⟩ := bcell hw3
        have hzw3 := bsize hw3
        (try simp only [World.size_alloc, World.size_setCell, World.size_drew, World.heap_drewN] at hcw3 hfw3 hzw3)
        have l3 : w.heap.size < w3.heap.size := by omega
        go_wp2_with fail
        refine (hrd.out _).mono ?_
        rintro e w4 ⟨rfl, hw4⟩
        obtain ⟨hcw4, hfw4⟩ := bcell hw4
        have hzw4 := bsize hw4
        (try simp only [World.size_alloc, World.size_setCell, World.size_drew, World.heap_drewN] at hcw4 hfw4 hzw4)
        have l4 : w.heap.size < w4.heap.size := by omega
        go_wp2_with fail
        refine (hcf.out _).mono ?_
        rintro e w5 ⟨rfl, hw5⟩
        obtain ⟨hcw5, hfw5⟩ := bcell hw5
        have hzw5 := bsize hw5
        (try simp only [World.size_alloc, World.size_setCell, World.size_drew, World.heap_drewN] at hcw5 hfw5 hzw5)
        have l5 : w.heap.size < w5.heap.size := by omega
        have m5 : w4.heap.size < w5.heap.size := by omega
        go_wp2_with fail
        refine (hfr.out _).mono ?_
        rintro e w6 ⟨rfl, hw6⟩
        obtain ⟨hcw6, hfw6⟩ := bcell hw6
        have hzw6 := bsize hw6
        (try simp only [World.size_alloc, World.size_setCell, World.size_drew, World.heap_drewN] at hcw6 hfw6 hzw6)
        have l6 : w.heap.size < w6.heap.size := by omega
        have m6 : w4.heap.size < w6.heap.size := by omega
        have n6 : w5.heap.size < w6.heap.size := by omega
        go_wp2_with fail
        refine (hfo.out _).mono ?_
        rintro e w7 ⟨rfl, hw7⟩
        obtain ⟨hcw7, hfw7⟩ := bcell hw7
        have hzw7 := bsize hw7
        (try simp only [World.size_alloc, World.size_setCell, World.size_drew, World.heap_drewN] at hcw7 hfw7 hzw7)
        have l7 : w.heap.size < w7.heap.size := by omega
        have m7 : w4.heap.size < w7.heap.size := by omega
        have n7 : w5.heap.size < w7.heap.size := by omega
        go_wp2_with fail
        refine (wireBegun_any _).mono ?_
        rintro e w8 ⟨rfl, hw8⟩
        obtain ⟨hcw8, hfw8⟩ := bcell hw8
        have hzw8 := bsize hw8
        (try simp only [World.size_alloc, World.size_setCell, World.size_drew, World.heap_drewN] at hcw8 hfw8 hzw8)
        have l8 : w.heap.size < w8.heap.size := by omega
        have m8 : w4.heap.size < w8.heap.size := by omega
        have n8 : w5.heap.size < w8.heap.size := by omega
        go_wp2_with fail
        go_ret
        refine ⟨rfl, Bel.bel (B := _) ?_⟩
        (repeat (first | with_reducible assumption | with_reducible exact Bel.refl _ | with_reducible refine Bel.alloc ?_ _ | with_reducible refine Bel.drewN ?_ _ | with_reducible refine Bel.drew ?_ | (with_reducible refine Bel.setCell ?_ (p := _) ?_ _; rotate_left; (first | exact Nat.le_refl _ | (simp; done) | omega | (simp; omega))) | refine Bel.call ?_ (by assumption)))
    · simp only [h255, if_false] at hfr
      clear hfo
      replace hfr := Lib.hid hfr
      have hr : r37 = false := by rw [h37]; simp; omega
      have hx : x37 = 1 := by rw [hx37, if_neg (by omega)]
      subst hr hx
      clear h37 hx37 hok
      go_enter Try.func3, Try.ntmps3
      go_wp2_with fail
      refine (hw.out _).mono ?_
      rintro e w1 ⟨rfl, hw1⟩
      obtain ⟨hcw1, hfw1⟩ := bcell hw1
      have hzw1 := bsize hw1
      (try simp only [World.size_alloc, World.size_setCell, World.size_drew, World.heap_drewN] at hcw1 hfw1 hzw1)
      have l1 : w.heap.size < w1.heap.size := by omega
      go_wp2_with fail
      refine (hwe.out _).mono ?_
      rintro e w2 ⟨rfl, hw2⟩
      obtain ⟨hcw2, hfw2⟩ := bcell hw2
      have hzw2 := bsize hw2
      (try simp only [World.size_alloc, World.size_setCell, World.size_drew, World.heap_drewN] at hcw2 hfw2 hzw2)
      have l2 : w.heap.size < w2.heap.size := by omega
      go_wp2_with fail
      refine (hcb.out _).mono ?_
      rintro e w3 ⟨rfl, hw3⟩
      obtain ⟨hcw3, hfw3⟩ := bcell hw3
      have hzw3 := bsize hw3
      (try simp only [World.size_alloc, World.size_setCell, World.size_drew, World.heap_drewN] at hcw3 hfw3 hzw3)
      have l3 : w.heap.size < w3.heap.size := by omega
      go_wp2_with fail
      refine (hrd.out _).mono ?_
      rintro e w4 ⟨rfl, hw4⟩
      obtain ⟨hcw4, hfw4⟩ := bcell hw4
      have hzw4 := bsize hw4
      (try simp only [World.size_alloc, World.size_setCell, World.size_drew, World.heap_drewN] at hcw4 hfw4 hzw4)
      have l4 : w.heap.size < w4.heap.size := by omega
      go_wp2_with fail
      refine (hcf.out _).mono ?_
      rintro e w5 ⟨rfl, hw5⟩
      obtain ⟨hcw5, hfw5⟩ := bcell hw5
      have hzw5 := bsize hw5
      (try simp only [World.size_alloc, World.size_setCell, World.size_drew, World.heap_drewN] at hcw5 hfw5 hzw5)
      have l5 : w.heap.size < w5.heap.size := by omega
      have m5 : w4.heap.size < w5.heap.size := by omega
      go_wp2_with fail
      refine (hfr.out _).mono ?_
      rintro e w6 ⟨rfl, hw6⟩
      obtain ⟨hcw6, hfw6⟩ := bcell hw6
      have hzw6 := bsize hw6
      (try simp only [World.size_alloc, World.size_setCell, World.size_drew, World.heap_drewN] at hcw6 hfw6 hzw6)
      have l6 : w.heap.size < w6.heap.size := by omega
      have m6 : w4.heap.size < w6.heap.size := by omega
      have n6 : w5.heap.size < w6.heap.size := by omega
      go_wp2_with fail
      refine (wireBegun_any _).mono ?_
      rintro e w8 ⟨rfl, hw8⟩
      obtain ⟨hcw8, hfw8⟩ := bcell hw8
      have hzw8 := bsize hw8
      (try simp only [World.size_alloc, World.size_setCell, World.size_drew, World.heap_drewN] at hcw8 hfw8 hzw8)
      have l8 : w.heap.size < w8.heap.size := by omega
      have m8 : w4.heap.size < w8.heap.size := by omega
      have n8 : w5.heap.size < w8.heap.size := by omega
      go_wp2_with fail
      go_ret
      refine ⟨rfl, Bel.bel (B := _) ?_⟩
      (repeat (first | with_reducible assumption | with_reducible exact Bel.refl _ | with_reducible refine Bel.alloc ?_ _ | with_reducible refine Bel.drewN ?_ _ | with_reducible refine Bel.drew ?_ | (with_reducible refine Bel.setCell ?_ (p := _) ?_ _; rotate_left; (first | exact Nat.le_refl _ | (simp; done) | omega | (simp; omega))) | refine Bel.call ?_ (by assumption)))
  case false =>
    simp only [hok, Bool.false_eq_true, if_false] at hw hwe
    clear hcb
    replace hw := Lib.hid hw
    replace hwe := Lib.hid hwe
    replace hrd := Lib.hid hrd
    replace hcf := Lib.hid hcf
    by_cases h255 : s.size ≤ 255
    · simp only [h255, if_true] at hfr
      replace hfo := hfo h255
      replace hfr := Lib.hid hfr
      replace hfo := Lib.hid hfo
      by_cases h37' : s.size = 37
      · have hr : r37 = true := by rw [h37]; simp [h37']
        have hx : x37 = 0 := by rw [hx37]; simp [h37']
        subst hr hx
        clear h37 hx37 h37' hok
        go_enter Try.func3, Try.ntmps3
        go_wp2_with fail
        refine (hw.out _).mono ?_
        rintro e w1 ⟨rfl, hw1⟩
        obtain ⟨hcw1, hfw1⟩ := bcell hw1
        have hzw1 := bsize hw1
        (try simp only [World.size_alloc, World.size_setCell, World.size_drew, World.heap_drewN] at hcw1 hfw1 hzw1)
        have l1 : w.heap.size < w1.heap.size := by omega
        go_wp2_with fail
        refine (hwe.out _).mono ?_
        rintro e w2 ⟨rfl, hw2⟩
        obtain ⟨hcw2, hfw2⟩ := bcell hw2
        have hzw2 := bsize hw2
        (try simp only [World.size_alloc, World.size_setCell, World.size_drew, World.heap_drewN] at hcw2 hfw2 hzw2)
        have l2 : w.heap.size < w2.heap.size := by omega
        go_wp2_with fail
        refine (hrd.out _).mono ?_
        rintro e w4 ⟨rfl, hw4⟩
        obtain ⟨hcw4, hfw4⟩ := bcell hw4
        have hzw4 := bsize hw4
        (try simp only [World.size_alloc, World.size_setCell, World.size_drew, World.heap_drewN] at hcw4 hfw4 hzw4)
        have l4 : w.heap.size < w4.heap.size := by omega
        go_wp2_with fail
        refine (hcf.out _).mono ?_
        rintro e w5 ⟨rfl, hw5⟩
        obtain ⟨hcw5, hfw5⟩ := bcell hw5
        have hzw5 := bsize hw5
        (try simp only [World.size_alloc, World.size_setCell, World.size_drew, World.heap_drewN] at hcw5 hfw5 hzw5)
        have l5 : w.heap.size < w5.heap.size := by omega
        have m5 : w4.heap.size < w5.heap.size := by omega
        go_wp2_with fail
        refine (hfr.out _).mono ?_
        rintro e w6 ⟨rfl, hw6⟩
        obtain ⟨hcw6, hfw6⟩ := bcell hw6
        have hzw6 := bsize hw6
        (try simp only [World.size_alloc, World.size_setCell, World.size_drew, World.heap_drewN] at hcw6 hfw6 hzw6)
        have l6 : w.heap.size < w6.heap.size := by omega
        have m6 : w4.heap.size < w6.heap.size := by omega
        have n6 : w5.heap.size < w6.heap.size := by omega
        go_wp2_with fail
        refine (hfo.out _).mono ?_
        rintro e w7 ⟨rfl, hw7⟩
        obtain ⟨hcw7, hfw7⟩ := bcell hw7
        have hzw7 := bsize hw7
        (try simp only [World.size_alloc, World.size_setCell, World.size_drew, World.heap_drewN] at hcw7 hfw7 hzw7)
        have l7 : w.heap.size < w7.heap.size := by omega
        have m7 : w4.heap.size < w7.heap.size := by omega
        have n7 : w5.heap.size < w7.heap.size := by omega
        go_wp2_with fail
        refine (wireBegun_any _).mono ?_
        rintro e w8 ⟨rfl, hw8⟩
        obtain ⟨hcw8, hfw8⟩ := bcell hw8
        have hzw8 := bsize hw8
        (try simp only [World.size_alloc, World.size_setCell, World.size_drew, World.heap_drewN] at hcw8 hfw8 hzw8)
        have l8 : w.heap.size < w8.heap.size := by omega
        have m8 : w4.heap.size < w8.heap.size := by omega
        have n8 : w5.heap.size < w8.heap.size := by omega
        go_wp2_with fail
        go_ret
        refine ⟨rfl, Bel.bel (B := _) ?_⟩
        (repeat (first | with_reducible assumption | with_reducible exact Bel.refl _ | with_reducible refine Bel.alloc ?_ _ | with_reducible refine Bel.drewN ?_ _ | with_reducible refine Bel.drew ?_ | (with_reducible refine Bel.setCell ?_ (p := _) ?_ _; rotate_left; (first | exact Nat.le_refl _ | (simp; done) | omega | (simp; omega))) | refine Bel.call ?_ (by assumption)))
      · have hr : r37 = false := by rw [h37]; simp [h37']
        have hx : x37 = 1 := by rw [hx37]; simp [h37']
        subst hr hx
        clear h37 hx37 h37' hok
        go_enter Try.func3, Try.ntmps3
        go_wp2_with fail
        refine (hw.out _).mono ?_
        rintro e w1 ⟨rfl, hw1⟩
        obtain ⟨hcw1, hfw1⟩ := bcell hw1
        have hzw1 := bsize hw1
        (try simp only [World.size_alloc, World.size_setCell, World.size_drew, World.heap_drewN] at hcw1 hfw1 hzw1)
        have l1 : w.heap.size < w1.heap.size := by omega
        go_wp2_with fail
        refine (hwe.out _).mono ?_
        rintro e w2 ⟨rfl, hw2⟩
        obtain ⟨hcw2, hfw2⟩ := bcell hw2
        have hzw2 := bsize hw2
        (try simp only [World.size_alloc, World.size_setCell, World.size_drew, World.heap_drewN] at hcw2 hfw2 hzw2)
        have l2 : w.heap.size < w2.heap.size := by omega
        go_wp2_with fail
        refine (hrd.out _).mono ?_
        rintro e w4 ⟨rfl, hw4⟩
        obtain ⟨hcw4, hfw4⟩ := bcell hw4
        have hzw4 := bsize hw4
        (try simp only [World.size_alloc, World.size_setCell, World.size_drew, World.heap_drewN] at hcw4 hfw4 hzw4)
        have l4 : w.heap.size < w4.heap.size := by omega
        go_wp2_with fail
        refine (hcf.out _).mono ?_
        rintro e w5 ⟨rfl, hw5⟩
        obtain ⟨hcw5, hfw5⟩ := bcell hw5
        have hzw5 := bsize hw5
        (try simp only [World.size_alloc, World.size_setCell, World.size_drew, World.heap_drewN] at hcw5 hfw5 hzw5)
        have l5 : w.heap.size < w5.heap.size := by omega
        have m5 : w4.heap.size < w5.heap.size := by omega
        go_wp2_with fail
        refine (hfr.out _).mono ?_
        rintro e w6 ⟨rfl, hw6⟩
        obtain ⟨hcw6, hfw6⟩ := bcell hw6
        have hzw6 := bsize hw6
        (try simp only [World.size_alloc, World.size_setCell, World.size_drew, World.heap_drewN] at hcw6 hfw6 hzw6)
        have l6 : w.heap.size < w6.heap.size := by omega
        have m6 : w4.heap.size < w6.heap.size := by omega
        have n6 : w5.heap.size < w6.heap.size := by omega
        go_wp2_with fail
        refine (hfo.out _).mono ?_
        rintro e w7 ⟨rfl, hw7⟩
        obtain ⟨hcw7, hfw7⟩ := bcell hw7
        have hzw7 := bsize hw7
        (try simp only [World.size_alloc, World.size_setCell, World.size_drew, World.heap_drewN] at hcw7 hfw7 hzw7)
        have l7 : w.heap.size < w7.heap.size := by omega
        have m7 : w4.heap.size < w7.heap.size := by omega
        have n7 : w5.heap.size < w7.heap.size := by omega
        go_wp2_with fail
        refine (wireBegun_any _).mono ?_
        rintro e w8 ⟨rfl, hw8⟩
        obtain ⟨hcw8, hfw8⟩ := bcell hw8
        have hzw8 := bsize hw8
        (try simp only [World.size_alloc, World.size_setCell, World.size_drew, World.heap_drewN] at hcw8 hfw8 hzw8)
        have l8 : w.heap.size < w8.heap.size := by omega
        have m8 : w4.heap.size < w8.heap.size := by omega
        have n8 : w5.heap.size < w8.heap.size := by omega
        go_wp2_with fail
        go_ret
        refine ⟨rfl, Bel.bel (B := _) ?_⟩
        (repeat (first | with_reducible assumption | with_reducible exact Bel.refl _ | with_reducible refine Bel.alloc ?_ _ | with_reducible refine Bel.drewN ?_ _ | with_reducible refine Bel.drew ?_ | (with_reducible refine Bel.setCell ?_ (p := _) ?_ _; rotate_left; (first | exact Nat.le_refl _ | (simp; done) | omega | (simp; omega))) | refine Bel.call ?_ (by assumption)))
    · simp only [h255, if_false] at hfr
      clear hfo
      replace hfr := Lib.hid hfr
      have hr : r37 = false := by rw [h37]; simp; omega
      have hx : x37 = 1 := by rw [hx37, if_neg (by omega)]
      subst hr hx
      clear h37 hx37 hok
      go_enter Try.func3, Try.ntmps3
      go_wp2_with fail
      refine (hw.out _).mono ?_
      rintro e w1 ⟨rfl, hw1⟩
      obtain ⟨hcw1, hfw1⟩ := bcell hw1
      have hzw1 := bsize hw1
      (try simp only [World.size_alloc, World.size_setCell, World.size_drew, World.heap_drewN] at hcw1 hfw1 hzw1)
      have l1 : w.heap.size < w1.heap.size := by omega
      go_wp2_with fail
      refine (hwe.out _).mono ?_
      rintro e w2 ⟨rfl, hw2⟩
      obtain ⟨hcw2, hfw2⟩ := bcell hw2
      have hzw2 := bsize hw2
      (try simp only [World.size_alloc, World.size_setCell, World.size_drew, World.heap_drewN] at hcw2 hfw2 hzw2)
      have l2 : w.heap.size < w2.heap.size := by omega
      go_wp2_with fail
      refine (hrd.out _).mono ?_
      rintro e w4 ⟨rfl, hw4⟩
      obtain ⟨hcw4, hfw4⟩ := bcell hw4
      have hzw4 := bsize hw4
      (try simp only [World.size_alloc, World.size_setCell, World.size_drew, World.heap_drewN] at hcw4 hfw4 hzw4)
      have l4 : w.heap.size < w4.heap.size := by omega
      go_wp2_with fail
      refine (hcf.out _).mono ?_
      rintro e w5 ⟨rfl, hw5⟩
      obtain ⟨hcw5, hfw5⟩ := bcell hw5
      have hzw5 := bsize hw5
      (try simp only [World.size_alloc, World.size_setCell, World.size_drew, World.heap_drewN] at hcw5 hfw5 hzw5)
      have l5 : w.heap.size < w5.heap.size := by omega
      have m5 : w4.heap.size < w5.heap.size := by omega
      go_wp2_with fail
      refine (hfr.out _).mono ?_
      rintro e w6 ⟨rfl, hw6⟩
      obtain ⟨hcw6, hfw6⟩ := bcell hw6
      have hzw6 := bsize hw6
      (try simp only [World.size_alloc, World.size_setCell, World.size_drew, World.heap_drewN] at hcw6 hfw6 hzw6)
      have l6 : w.heap.size < w6.heap.size := by omega
      have m6 : w4.heap.size < w6.heap.size := by omega
      have n6 : w5.heap.size < w6.heap.size := by omega
      go_wp2_with fail
      refine (wireBegun_any _).mono ?_
      rintro e w8 ⟨rfl, hw8⟩
      obtain ⟨hcw8, hfw8⟩ := bcell hw8
      have hzw8 := bsize hw8
      (try simp only [World.size_alloc, World.size_setCell, World.size_drew, World.heap_drewN] at hcw8 hfw8 hzw8)
      have l8 : w.heap.size < w8.heap.size := by omega
      have m8 : w4.heap.size < w8.heap.size := by omega
      have n8 : w5.heap.size < w8.heap.size := by omega
      go_wp2_with fail
      go_ret
      refine ⟨rfl, Bel.bel (B := _) ?_⟩
      (repeat (first | with_reducible assumption | with_reducible exact Bel.refl _ | with_reducible refine Bel.alloc ?_ _ | with_reducible refine Bel.drewN ?_ _ | with_reducible refine Bel.drew ?_ | (with_reducible refine Bel.setCell ?_ (p := _) ?_ _; rotate_left; (first | exact Nat.le_refl _ | (simp; done) | omega | (simp; omega))) | refine Bel.call ?_ (by assumption)))
end Go.Proofs.Ytbebjifnhjlkiaa
