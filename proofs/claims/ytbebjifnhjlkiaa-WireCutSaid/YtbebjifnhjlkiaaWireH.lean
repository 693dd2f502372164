/- wire: plain facts of a cut log, and of a log with a tail. -/
import Derived.Test.YtbebjifnhjlkiaaWireG
namespace Go.Proofs.Ytbebjifnhjlkiaa
open Go Go.RowKit Go.Proofs
theorem extract_head (a b : ByteArray) (k : Nat) (h : a.size ≤ k) : (a ++ b).extract 0 k = a ++ b.extract 0 (k - a.size) := by
  apply ByteArray.ext
  apply Array.ext'
  simp only [ByteArray.data_extract, ByteArray.data_append, Array.toList_extract, Array.toList_append, List.extract_eq_take_drop, List.drop_zero, Nat.sub_zero]
  have ha : a.data.toList.length = a.size := by rw [Array.length_toList]; rfl
  rw [List.take_append, List.take_of_length_le (by omega), ha]
theorem log_cut (l : List Cmd) (k : Nat) (hk : k ≤ 42 * l.length) : ∃ t, (logS l).extract 0 k = logS (l.take (k / 42)) ++ t ∧ t.size < 42 := by
  have hm : 42 * (k / 42) ≤ k := Nat.mul_div_le k 42
  have hs : (logS (l.take (k / 42))).size = 42 * (k / 42) := by rw [logS_size, List.length_take]; omega
  refine ⟨(logS (l.drop (k / 42))).extract 0 (k - 42 * (k / 42)), ?_, ?_⟩
  · conv => lhs; rw [← List.take_append_drop (k / 42) l, logS_append]
    rw [extract_head _ _ _ (by rw [hs]; exact hm), hs]
  · rw [ByteArray.size_extract]; omega
theorem log_replayed (l : List Cmd) (hl : l.length ≤ 200) (t : ByteArray) (ht : t.size < 42) : Replayed (logS l ++ t) l.length :=
  ⟨hl, fun k hk => (log_fits l t k hk).1, .inr fun hf => by
    have := hf.1
    rw [ByteArray.size_append, logS_size] at this
    omega⟩
theorem tail_replayed {l : List Cmd} {t : ByteArray} {n : Nat} (hl : l.length ≤ 200) (h : Replayed (logS l ++ t) n) : l.length ≤ n := by
  rcases Nat.lt_or_ge n l.length with hn | hn
  · rcases h.stop with h1 | h1
    · omega
    · exact absurd (log_fits l t n hn).1 h1
  · exact hn
theorem planL_ok : planL.all Cmd.ok = true := by decide
theorem planL_log : logV planL = .tuple #[.string (logS planL), .int .i64 0] := by simp [logV, planL_ok]; decide
theorem planL_size : (logS planL).size = 420 := by rw [logS_size]; rfl
theorem frame_ab : frameS ⟨#[97, 98]⟩ = ⟨#[2, 97, 98, 234, 1, 0, 0]⟩ := by decide
end Go.Proofs.Ytbebjifnhjlkiaa
