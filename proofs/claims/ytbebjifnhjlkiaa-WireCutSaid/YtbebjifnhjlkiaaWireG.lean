/- wire: plain facts of a log's frames. -/
import Derived.Test.YtbebjifnhjlkiaaWireF
namespace Go.Proofs.Ytbebjifnhjlkiaa
open Go Go.RowKit Go.Proofs
theorem s32_be4 (n : Int) (h : in32 n = true) : s32 (256 * (256 * (256 * (256 * 0 + n / 16777216 % 256) + n / 65536 % 256) + n / 256 % 256) + n % 256) = n := by
  obtain ⟨h1, h2⟩ : -2147483648 ≤ n ∧ n ≤ 2147483647 := by simpa [in32] using h
  unfold s32
  split <;> omega
theorem bytes_be4 (n : Int) : ∀ m ∈ be4 n, isByte m := by
  intro m hm
  simp [be4] at hm
  rcases hm with rfl | rfl | rfl | rfl <;> exact ⟨by omega, by omega⟩
theorem cmdOf_cmdS (c : Cmd) (h : c.ok = true) : cmdOf (numsOf (cmdS c)) = c := by
  obtain ⟨h0, h1, h2⟩ := cmd_ok h
  unfold cmdS
  rw [numsOf_str]
  · have e := fun n hn => s32_be4 n (h2 n hn)
    cases c with
    | mk op a b c at_ len min max usual cool =>
      simp only [Cmd.nums, List.mem_cons, List.not_mem_nil, or_false] at e
      have := e a (by simp); have := e b (by simp); have := e c (by simp); have := e at_ (by simp); have := e len (by simp)
      have := e min (by simp); have := e max (by simp); have := e usual (by simp); have := e cool (by simp)
      show Cmd.mk _ _ _ _ _ _ _ _ _ _ = _
      congr 1
  · intro m hm
    rcases List.mem_cons.1 hm with rfl | hm
    · exact ⟨by omega, by omega⟩
    · obtain ⟨n, -, hn⟩ := List.mem_flatMap.1 hm
      exact bytes_be4 n m hn
theorem extract_mid (a b c : ByteArray) (i j : Nat) (hi : i = a.size) (hj : j = a.size + b.size) : (a ++ b ++ c).extract i j = b := by
  subst hi hj
  apply ByteArray.ext
  apply Array.ext'
  simp only [ByteArray.data_extract, ByteArray.data_append, Array.toList_extract, Array.toList_append, List.extract_eq_take_drop]
  have ha : a.data.toList.length = a.size := by rw [Array.length_toList]; rfl
  have hb : b.data.toList.length = b.size := by rw [Array.length_toList]; rfl
  rw [List.append_assoc, ← ha, List.drop_left, ha, show a.size + b.size - a.size = b.data.toList.length from by omega, List.take_left]
theorem logS_append (a b : List Cmd) : logS (a ++ b) = logS a ++ logS b := by
  apply ByteArray.ext
  rw [ByteArray.data_append]
  simp [logS, logBytes]
theorem logS_one (c : Cmd) : logS [c] = frameC c := by
  apply ByteArray.ext
  simp [logS, logBytes]
theorem log_frame (l : List Cmd) (tail : ByteArray) (k : Nat) (hk : k < l.length) : ∃ a b, logS l ++ tail = a ++ frameC l[k] ++ b ∧ a.size = 42 * k := by
  refine ⟨logS (l.take k), logS (l.drop (k + 1)) ++ tail, ?_, ?_⟩
  · have e : l = l.take k ++ [l[k]] ++ l.drop (k + 1) := by simp
    conv => lhs; rw [e]
    rw [logS_append, logS_append, logS_one, ByteArray.append_assoc]
  · rw [logS_size, List.length_take]; omega
theorem frameC_body (c : Cmd) : ∃ a b, frameC c = a ++ cmdS c ++ b ∧ a.size = 1 := by
  refine ⟨strOfNums [((cmdS c).size : Int)], strOfNums (le4 (sumI (frm (cmdS c)))), ?_, ?_⟩
  · unfold frameC; rw [frameS_eq _ (by rw [cmdS_size]; omega)]
  · rw [strOfNums_size]; rfl
theorem log_fits (l : List Cmd) (tail : ByteArray) (k : Nat) (hk : k < l.length) : fits (logS l ++ tail) (42 * k) ∧ (logS l ++ tail).extract (42 * k + 1) (42 * k + 38) = cmdS l[k] := by
  obtain ⟨a, b, he, ha⟩ := log_frame l tail k hk
  obtain ⟨a', b', he', ha'⟩ := frameC_body l[k]
  have h1 : (logS l ++ tail).extract (42 * k) (42 * k + 42) = frameC l[k] := by
    rw [he]; exact extract_mid _ _ _ _ _ ha.symm (by rw [ha, frameC_size])
  have h2 : (logS l ++ tail).extract (42 * k + 1) (42 * k + 38) = cmdS l[k] := by
    rw [he, he', show a ++ (a' ++ cmdS l[k] ++ b') ++ b = (a ++ a') ++ cmdS l[k] ++ (b' ++ b) from by simp only [ByteArray.append_assoc]]
    exact extract_mid _ _ _ _ _ (by rw [ByteArray.size_append, ha, ha']) (by rw [ByteArray.size_append, ha, ha', cmdS_size])
  refine ⟨⟨?_, ?_⟩, h2⟩
  · rw [ByteArray.size_append, logS_size]; omega
  · rw [h1, h2]; rfl
theorem log_cmdK (l : List Cmd) (hl : l.all Cmd.ok = true) (tail : ByteArray) (k : Nat) (hk : k < l.length) : cmdK (logS l ++ tail) k = l[k] := by
  unfold cmdK
  rw [(log_fits l tail k hk).2, cmdOf_cmdS _ (List.all_eq_true.1 hl _ (List.getElem_mem hk))]
theorem cmdsOf_log (l : List Cmd) (hl : l.all Cmd.ok = true) (tail : ByteArray) (n : Nat) (hn : n ≤ l.length) : cmdsOf (logS l ++ tail) n = l.take n := by
  apply List.ext_getElem
  · rw [cmdsOf_length, List.length_take]; omega
  · intro i h1 h2
    rw [cmdsOf_length] at h1
    simp [cmdsOf, log_cmdK l hl tail i (by omega)]
end Go.Proofs.Ytbebjifnhjlkiaa
