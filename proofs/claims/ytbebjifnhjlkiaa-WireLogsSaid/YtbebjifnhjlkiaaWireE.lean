/- wire's laws: Replay of any text, choose, plan. -/
import Derived.Test.YtbebjifnhjlkiaaWireD
namespace Go.Proofs.Ytbebjifnhjlkiaa
open Go Go.RowKit Go.Proofs
def RepAll (s : ByteArray) (w : World) (e : Ending) (w' : World) : Prop :=
  (s.size ≤ 16384 ∧ RepOut s w e w') ∨ (16384 < s.size ∧ e = .returned (.tuple #[.slice none 0 0, .int .i64 0, .int .i64 2]) ∧ w' = w)
set_option maxHeartbeats 1000000 in
theorem replay_all (s : ByteArray) (w : World) :
    Calls Try.prog 16 #[.string s] w (RepAll s w) := by
  by_cases h : s.size ≤ 16384
  · exact (replay_any s w h).mono fun e w' he => .inl ⟨h, he⟩
  · have hg : 16384 < s.size := by omega
    have hsI : decide ((s.size : Int) > 16384) = true := by simp; omega
    clear h
    go_enter Try.func16, Try.ntmps16
    go_wp2_with fail
    go_step3
    go_wp2_with fail
    refine bodyPost_ret (v := .tuple #[.slice none 0 0, .int .i64 0, .int .i64 2]) ?_ rfl (.inr ⟨hg, rfl, rfl⟩)
    simp [results, Try.results16, go_sem]
set_option maxHeartbeats 1000000 in
theorem replayOf_all (s : ByteArray) (w : World) :
    Calls Try.prog 17 #[.string s] w (RepAll s w) := by
  by_cases h : s.size ≤ 16384
  · exact (replayOf_any s w h).mono fun e w' he => .inl ⟨h, he⟩
  · have hg : 16384 < s.size := by omega
    have hsI : decide ((s.size : Int) > 16384) = true := by simp; omega
    clear h
    go_enter Try.func17, Try.ntmps17
    go_wp2_with fail
    refine bodyPost_ret (v := .tuple #[.slice none 0 0, .int .i64 0, .int .i64 2]) ?_ rfl (.inr ⟨hg, rfl, rfl⟩)
    simp [results, Try.results17, go_sem]
def absI (c : Int) : Int := if c < 0 then -(c + 1) else c
set_option maxHeartbeats 1000000 in
theorem choose_any (c n : Int) (w : World) (h1 : -9223372036854775808 ≤ c) (h2 : c ≤ 9223372036854775807) (hn : 0 < n) :
    Calls Try.prog 19 #[.int .i64 c, .int .i64 n] w fun e w' => e = .returned (.int .i64 (absI c % n)) ∧ w = w' := by
  by_cases hc : c < 0
  · have ha : absI c = -(c + 1) := by simp [absI, hc]
    rw [ha]
    go_enter Try.func19, Try.ntmps19
    go_wp2_with fail
    go_ret
    refine ⟨ret_int ?_, rfl⟩
    rw [← Int.neg_tmod, Int.tmod_eq_emod_of_nonneg (by omega)]
  · have ha : absI c = c := by simp [absI, hc]
    rw [ha]
    go_enter Try.func19, Try.ntmps19
    go_wp2_with fail
    go_ret
    exact ⟨ret_int rfl, rfl⟩
set_option maxHeartbeats 400000 in
theorem loose_any (w : World) :
    Calls Try.prog 28 #[] w fun e w' => e = .returned (.agg #[.int .i64 8, .int .i64 16, .int .i64 12, .int .i64 3]) ∧ Ext w w' := by
  go_enter Try.func28, Try.ntmps28
  go_wp2_with fail
  refine bodyPost_ret (v := .agg #[.int .i64 8, .int .i64 16, .int .i64 12, .int .i64 3]) ?_ rfl ⟨rfl, Bel.bel (B := _) ?_⟩
  · simp [results, Try.results28, go_sem, World.cell?_alloc_some]
  · (repeat (first | with_reducible assumption | with_reducible exact Bel.refl _ | with_reducible refine Bel.alloc ?_ _ | with_reducible refine Bel.drewN ?_ _ | with_reducible refine Bel.drew ?_ | (with_reducible refine Bel.setCell ?_ (p := _) ?_ _; rotate_left; (first | exact Nat.le_refl _ | (simp; done) | omega | (simp; omega))) | refine Bel.call ?_ (by assumption)))
end Go.Proofs.Ytbebjifnhjlkiaa
