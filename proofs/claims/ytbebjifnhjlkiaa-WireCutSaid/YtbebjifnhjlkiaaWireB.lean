/- wire: Replay. -/
import Derived.Test.YtbebjifnhjlkiaaWireA
import Derived.WalkMore
namespace Go.Proofs.Ytbebjifnhjlkiaa
open Go Go.RowKit Go.Proofs
theorem toList_inj {a b : ByteArray} : a.toList = b.toList ↔ a = b := by
  refine ⟨fun h => ?_, fun h => by rw [h]⟩
  rw [ByteArray.toList_eq, ByteArray.toList_eq] at h
  exact ByteArray.ext (Array.ext' h)
theorem toList_ne {a b : ByteArray} (h : ¬ a = b) : (a.toList == b.toList) = false := by
  rw [beq_eq_false_iff_ne]; exact fun hx => h (toList_inj.1 hx)
theorem Try.infoCmd : (Try.prog.info? 27).map (fun i => (i.zero, i.size, i.bytes)) = some (some (.agg #[.int .i64 0, .int .i64 0, .int .i64 0, .int .i64 0, .int .i64 0, .int .i64 0, .int .i64 0, .int .i64 0, .int .i64 0, .int .i64 0]), 10, 80) := by kernel_rfl
def PRel (s : ByteArray) (w : World) (n : Nat) (v : Value) (wr : World) : Prop :=
  wr.ownsRow w.heap.size 27 10 v n ((cmdsOf s n).flatMap fun c => c.cs.toList) ∧ n ≤ 200 ∧ 42 * n ≤ s.size ∧ (∀ k, k < n → fits s (42 * k)) ∧ Bel w.heap.size w wr
def RepOut (s : ByteArray) (w : World) (e : Ending) (w' : World) : Prop :=
  ∃ n ao cap, Replayed s n ∧ e = .returned (.tuple #[.slice ao n cap, .int .i64 (42 * (n : Int)), .int .i64 0]) ∧ Sl (fun b => w.heap.size ≤ b) w' 10 Cmd.R ao cap (cmdsOf s n) ∧ Ext w w'
theorem rep_done {s : ByteArray} {w wr : World} {n : Nat} {v : Value} (h : PRel s w n v wr) (hs : n = 200 ∨ ¬ fits s (42 * n)) : RepOut s w (.returned (.tuple #[v, .int .i64 (42 * (n : Int)), .int .i64 0])) wr := by
  obtain ⟨h1, h2, h3, h4, h5⟩ := h
  obtain ⟨ao, cap, hv, hsl⟩ := sl_own (A := fun b => w.heap.size ≤ b) h1 (cmdsOf_length s n).symm (fun _ _ => rfl) (fun _ hb => hb)
  exact ⟨n, ao, cap, ⟨h2, h4, hs⟩, by rw [hv], hsl, h5.bel⟩
set_option maxHeartbeats 2000000 in
set_option maxRecDepth 100000 in
theorem replay_any (s : ByteArray) (w : World) (hs : s.size ≤ 16384) :
    Calls Try.prog 16 #[.string s] w (RepOut s w) := by
  obtain ⟨i0, hi, hz0, hz1, hz2⟩ := info_parts Try.infoCmd
  have hstart : PRel s w 0 (.slice none 0 0) w := ⟨World.ownsRow_nil _ _ _ _, by omega, by omega, by omega, Bel.refl w⟩
  replace hstart := Lib.hid hstart
  have hbb := bAt_bd (numsOf_byte s)
  replace hbb := Lib.hid hbb
  have hsI : decide ((s.size : Int) > 16384) = false := by simp; omega
  go_enter Try.func16, Try.ntmps16
  go_wp2_with fail
  go_step3
  go_wp2_with fail
  go_step3
  go_wp2_with fail
  go_loopw [5, 6] (fun v i wr => ∃ n : Nat, i = .int .i64 (42 * (n : Int)) ∧ PRel s w n v wr) (fun _ i _ => s.size - (intOf i).toNat)
  case atStart => exact ⟨0, rfl, hstart.out⟩
  case round =>
    obtain ⟨n, rfl, hrel⟩ := hrel
    clear hstart
    by_cases hlt : 42 * n < s.size
    · have hltI : 42 * (n : Int) < s.size := by omega
      obtain ⟨hown, hn, hn2, hall, hbel⟩ := hrel
      have hle := hbel.le
      obtain ⟨g, cap, hv⟩ : ∃ ao cap, u5 = .slice ao n cap := by
        obtain ⟨ao, cap, hv, -⟩ := sl_own (A := fun b => w.heap.size ≤ b) hown (cmdsOf_length s n).symm (fun _ _ => rfl) (fun _ hb => hb)
        exact ⟨ao, cap, hv⟩
      subst hv
      by_cases h200 : n < 200
      · have h200I : (n : Int) < 200 := by omega
        have e0 := bAt_str s (42 * n) hlt
        obtain ⟨x, hx⟩ : ∃ x, x = bAt (numsOf s) (42 * n) := ⟨_, rfl⟩
        obtain ⟨a1, a2⟩ := hbb.out (42 * n)
        rw [← hx] at e0 a1 a2
        replace e0 := e0.symm
        replace hx := Lib.hid hx
        replace hown := Lib.hid hown
        replace hall := Lib.hid hall
        by_cases hend : 42 * n + x + 5 ≤ s.size
        · obtain ⟨m, rfl⟩ : ∃ m : Nat, x = m := ⟨x.toNat, by omega⟩
          obtain ⟨t, ht⟩ : ∃ t, t = s.extract (42 * n + 1) (42 * n + 1 + m) := ⟨_, rfl⟩
          have htz : t.size = m := by rw [ht, ByteArray.size_extract]; omega
          obtain ⟨c, hc⟩ : ∃ c, c = cmdAll t := ⟨_, rfl⟩
          by_cases h37 : m = 37
          · subst h37
            have hrd := read_all t wr
            simp only [readV, htz, ← hc, if_true, Cmd.cs] at hrd
            rw [ht] at hrd
            have hck : c = cmdK s n := by rw [hc, cmdAll, if_pos htz, ht]; rfl
            obtain ⟨z, hz⟩ : ∃ z, z = frameS t := ⟨_, rfl⟩
            have hfr := fun W => frame_any t W (by omega)
            rw [← hz, ht] at hfr
            replace ht := Lib.hid ht
            replace hc := Lib.hid hc
            replace hz := Lib.hid hz
            replace htz := Lib.hid htz
            replace hck := Lib.hid hck
            replace hfr := Lib.hid hfr
            go_wp2_with fail
            refine hrd.mono ?_
            rintro e w1 ⟨rfl, hw1⟩
            clear hrd
            go_wp2_with fail
            refine (hfr.out _).mono ?_
            rintro e w2 ⟨rfl, hw2⟩
            by_cases hq : z = s.extract (42 * n) (42 * n + 42)
            · have hfit : fits s (42 * n) := ⟨by omega, by rw [← hq, hz.out, ht.out]⟩
              replace hfit := Lib.hid hfit
              have hx2 : Ext wr w2 := ext_trans (ext_trans hw1 (ext_alloc _ _)) hw2
              have hown2 := ownsRow_ext hx2 hown.out
              have hbel2 := hbel.call hx2
              have q0 : w2.cell? ⟨w1.heap.size, 0, none⟩ = some (.int .i64 c.op) := keepCell hw2 (cell_of_block (block_new _ _) rfl)
              have q1 : w2.cell? ⟨w1.heap.size, 1, none⟩ = some (.int .i64 c.a) := keepCell hw2 (cell_of_block (block_new _ _) rfl)
              have q2 : w2.cell? ⟨w1.heap.size, 2, none⟩ = some (.int .i64 c.b) := keepCell hw2 (cell_of_block (block_new _ _) rfl)
              have q3 : w2.cell? ⟨w1.heap.size, 3, none⟩ = some (.int .i64 c.c) := keepCell hw2 (cell_of_block (block_new _ _) rfl)
              have q4 : w2.cell? ⟨w1.heap.size, 4, none⟩ = some (.int .i64 c.at_) := keepCell hw2 (cell_of_block (block_new _ _) rfl)
              have q5 : w2.cell? ⟨w1.heap.size, 5, none⟩ = some (.int .i64 c.len) := keepCell hw2 (cell_of_block (block_new _ _) rfl)
              have q6 : w2.cell? ⟨w1.heap.size, 6, none⟩ = some (.int .i64 c.min) := keepCell hw2 (cell_of_block (block_new _ _) rfl)
              have q7 : w2.cell? ⟨w1.heap.size, 7, none⟩ = some (.int .i64 c.max) := keepCell hw2 (cell_of_block (block_new _ _) rfl)
              have q8 : w2.cell? ⟨w1.heap.size, 8, none⟩ = some (.int .i64 c.usual) := keepCell hw2 (cell_of_block (block_new _ _) rfl)
              have q9 : w2.cell? ⟨w1.heap.size, 9, none⟩ = some (.int .i64 c.cool) := keepCell hw2 (cell_of_block (block_new _ _) rfl)
              have hle2 := hbel2.le
              clear hw1 hw2 hbel hx2
              go_wp2_with (at_builtin; refine wpList_append_own _ rfl _ _ 41 rfl w.heap.size 27 i0 (.agg #[.int .i64 0, .int .i64 0, .int .i64 0, .int .i64 0, .int .i64 0, .int .i64 0, .int .i64 0, .int .i64 0, .int .i64 0, .int .i64 0]) 10 80 Try.underlying41 hi hz0 hz1 hz2 rfl (by decide) _ _ _ rfl (hown2.alloc _) ⟨w2.heap.size, 0, none⟩ 1 1 c.cs.toList rfl rfl ?c1 ?c2 (by unfold maxLen; omega) (by omega) (by simp; omega) ?_; rotate_right; intro v' w3 hown' hgrow _)
              case c1 =>
                intro u x hu
                simp only [Cmd.cs] at hu
                match u, hu with
                | 0, hu | 1, hu | 2, hu | 3, hu | 4, hu | 5, hu | 6, hu | 7, hu | 8, hu | 9, hu => simp at hu; subst hu; simp [Addr.add]
              case c2 => intro u hu; simp [Cmd.cs] at hu; rcases hu with rfl | rfl | rfl | rfl | rfl | rfl | rfl | rfl | rfl | rfl <;> rfl
              have R : PRel s w (n + 1) v' w3 := by
                refine ⟨?_, by omega, by omega, ?_, (hbel2.alloc _).grownOwn (hown2.alloc _) hgrow (by omega)⟩
                · rw [cmdsOf_snoc, List.flatMap_append, ← hck.out]
                  simpa using hown'
                · intro k hk
                  rcases Nat.lt_or_ge k n with h | h
                  · exact hall.out k h
                  · obtain rfl : k = n := by omega
                    exact hfit.out
              clear hown' hgrow hown2 hbel2 hown
              replace R := Lib.hid R
              go_wp2_with fail
              go_roundw
              case rel => exact ⟨n + 1, by go_num, R.out⟩
              case measure => simp [intOf]; omega
            · have hfin := rep_done (v := .slice g n cap) ⟨ownsRow_ext (ext_trans (ext_trans hw1 (ext_alloc _ _)) hw2) hown.out, hn, hn2, hall.out, hbel.call (ext_trans (ext_trans hw1 (ext_alloc _ _)) hw2)⟩ (.inr (fun hf => hq (by rw [hz.out, ht.out]; exact hf.2)))
              have hq2 : (z.toList == (s.extract (42 * n) (42 * n + 1 + 37 + 4)).toList) = false := toList_ne hq
              replace hfin := Lib.hid hfin
              clear hown hq
              go_wp2_with fail
              refine bodyPost_ret ?_ rfl hfin.out
              simp [results, Try.results16, go_sem]
          · have hrd := read_all t wr
            simp only [readV, htz, ← hc, if_neg h37, Cmd.cs] at hrd
            rw [ht] at hrd
            have hfr := fun W => frame_any t W (by omega)
            rw [ht] at hfr
            have hfin : ∀ W, Ext wr W → RepOut s w (.returned (.tuple #[.slice g n cap, .int .i64 (42 * (n : Int)), .int .i64 0])) W := fun W hW => rep_done ⟨ownsRow_ext hW hown.out, hn, hn2, hall.out, hbel.call hW⟩ (.inr (fun hf => by have := fits_byte hf; have := hx.out; omega))
            replace hfin := Lib.hid hfin
            replace ht := Lib.hid ht
            replace hc := Lib.hid hc
            replace hfr := Lib.hid hfr
            go_wp2_with fail
            refine hrd.mono ?_
            rintro e w1 ⟨rfl, hw1⟩
            clear hrd
            go_wp2_with fail
            refine (hfr.out _).mono ?_
            rintro e w2 ⟨rfl, hw2⟩
            have hfin2 := hfin.out w2 (ext_trans (ext_trans hw1 (ext_alloc _ _)) hw2)
            replace hfin := Lib.hid hfin2
            clear hfin2
            go_wp2_with fail
            refine bodyPost_ret ?_ rfl hfin.out
            simp [results, Try.results16, go_sem]
        · have hfin := rep_done ⟨hown.out, hn, hn2, hall.out, hbel⟩ (.inr (fun hf => by have := fits_byte hf; have := hf.1; have := hx.out; omega))
          replace hfin := Lib.hid hfin
          go_wp2_with fail
          refine bodyPost_ret ?_ rfl hfin.out
          simp [results, Try.results16, go_sem]
      · have hfin := rep_done ⟨hown, hn, hn2, hall, hbel⟩ (.inl (by omega))
        have h200I : ¬ (n : Int) < 200 := by omega
        replace hfin := Lib.hid hfin
        clear hown hall
        go_wp2_with fail
        refine bodyPost_ret ?_ rfl hfin.out
        simp [results, Try.results16, go_sem]
    · have hltI : ¬ (((42 * (n : Int)) : Int) < s.size) := by omega
      have hfin := rep_done hrel (.inr (fun hf => by have := hf.1; omega))
      clear hrel
      replace hfin := Lib.hid hfin
      go_wp2_with fail
      refine bodyPost_ret ?_ rfl hfin.out
      simp [results, Try.results16, go_sem]
end Go.Proofs.Ytbebjifnhjlkiaa
