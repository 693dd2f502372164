/- wire: plain facts of frames and of replay; owned rows as slices. -/
import Derived.Test.YtbebjifnhjlkiaaWire9
namespace Go.Proofs.Ytbebjifnhjlkiaa
open Go Go.RowKit Go.Proofs
theorem be4_s32 (b1 b2 b3 b4 : Int) (h1 : 0 ≤ b1 ∧ b1 ≤ 255) (h2 : 0 ≤ b2 ∧ b2 ≤ 255) (h3 : 0 ≤ b3 ∧ b3 ≤ 255) (h4 : 0 ≤ b4 ∧ b4 ≤ 255) :
    be4 (s32 (256 * (256 * (256 * (256 * 0 + b1) + b2) + b3) + b4)) = [b1, b2, b3, b4] := by
  have key : ∀ n : Int, n = 256 * (256 * (256 * (256 * 0 + b1) + b2) + b3) + b4 ∨ n = 256 * (256 * (256 * (256 * 0 + b1) + b2) + b3) + b4 - 4294967296 → be4 n = [b1, b2, b3, b4] := by
    intro n hn
    unfold be4
    rw [show n / 16777216 % 256 = b1 from by omega, show n / 65536 % 256 = b2 from by omega, show n / 256 % 256 = b3 from by omega, show n % 256 = b4 from by omega]
  unfold s32
  split
  · exact key _ (.inr rfl)
  · exact key _ (.inl rfl)
theorem s32_in (b1 b2 b3 b4 : Int) (h1 : 0 ≤ b1 ∧ b1 ≤ 255) (h2 : 0 ≤ b2 ∧ b2 ≤ 255) (h3 : 0 ≤ b3 ∧ b3 ≤ 255) (h4 : 0 ≤ b4 ∧ b4 ≤ 255) :
    in32 (s32 (256 * (256 * (256 * (256 * 0 + b1) + b2) + b3) + b4)) = true := by
  unfold in32 s32
  split <;> (simp; omega)
theorem be4_numAt {l : List Int} (h : ∀ n ∈ l, isByte n) (j : Nat) : be4 (numAt l j) = [bAt l (4 * j + 1), bAt l (4 * j + 2), bAt l (4 * j + 3), bAt l (4 * j + 4)] :=
  be4_s32 _ _ _ _ (bAt_bd h _) (bAt_bd h _) (bAt_bd h _) (bAt_bd h _)
theorem numAt_in {l : List Int} (h : ∀ n ∈ l, isByte n) (j : Nat) : in32 (numAt l j) = true :=
  s32_in _ _ _ _ (bAt_bd h _) (bAt_bd h _) (bAt_bd h _) (bAt_bd h _)
theorem bytes_cmdOf (l : List Int) (h : ∀ n ∈ l, isByte n) (hl : l.length = 37) : (cmdOf l).op :: (cmdOf l).nums.flatMap be4 = l := by
  have e : l = (List.range 37).map (bAt l) := by
    apply List.ext_getElem
    · simp [hl]
    · intro i h1 h2
      simp [bAt, List.getD_eq_getElem?_getD, List.getElem?_eq_getElem h1]
  conv => rhs; rw [e]
  simp only [cmdOf, Cmd.nums, List.flatMap_cons, List.flatMap_nil, be4_numAt h]
  rfl
theorem cmdOf_in (l : List Int) (h : ∀ n ∈ l, isByte n) : ∀ n ∈ (cmdOf l).nums, in32 n = true := by
  intro n hn
  simp only [cmdOf, Cmd.nums, List.mem_cons, List.not_mem_nil, or_false] at hn
  rcases hn with rfl | rfl | rfl | rfl | rfl | rfl | rfl | rfl | rfl <;> exact numAt_in h _
theorem cmdS_cmdOf (t : ByteArray) (ht : t.size = 37) : cmdS (cmdOf (numsOf t)) = t := by
  unfold cmdS
  rw [bytes_cmdOf _ (numsOf_byte t) (by rw [numsOf_length]; exact ht), str_numsOf]
/-- Does a whole frame of a command stand at a place? -/
def fits (s : ByteArray) (i : Nat) : Prop := i + 42 ≤ s.size ∧ frameS (s.extract (i + 1) (i + 38)) = s.extract i (i + 42)
theorem frameS_head (t : ByteArray) (h : t.size ≤ 255) : bAt (numsOf (frameS t)) 0 = t.size := by
  unfold frameS
  rw [numsOf_str]
  · rfl
  · intro n hn
    rcases List.mem_append.1 hn with hn | hn
    · exact frm_byte t h n hn
    · simp [le4] at hn
      rcases hn with rfl | rfl | rfl | rfl <;> exact ⟨by omega, by omega⟩
theorem fits_byte {s : ByteArray} {i : Nat} (h : fits s i) : bAt (numsOf s) i = 37 := by
  have h1 := nums_extract s i 42 0 h.1 (by omega)
  rw [← h.2, frameS_head _ (by rw [ByteArray.size_extract]; omega), ByteArray.size_extract, Nat.min_eq_left (by have := h.1; omega)] at h1
  rw [show i + 0 = i from rfl] at h1
  rw [← h1]
  omega
/-- n commands stand at a text's head, and no more. -/
structure Replayed (s : ByteArray) (n : Nat) : Prop where
  le : n ≤ 200
  all : ∀ k, k < n → fits s (42 * k)
  stop : n = 200 ∨ ¬ fits s (42 * n)
theorem Replayed.unique {s : ByteArray} {n m : Nat} (h : Replayed s n) (k : Replayed s m) : n = m := by
  rcases Nat.lt_trichotomy n m with hlt | heq | hlt
  · rcases h.stop with h1 | h1
    · have := k.le; omega
    · exact absurd (k.all n hlt) h1
  · exact heq
  · rcases k.stop with h1 | h1
    · have := h.le; omega
    · exact absurd (h.all m hlt) h1
def cmdK (s : ByteArray) (k : Nat) : Cmd := cmdOf (numsOf (s.extract (42 * k + 1) (42 * k + 38)))
def cmdsOf (s : ByteArray) (n : Nat) : List Cmd := (List.range n).map (cmdK s)
theorem cmdsOf_length (s : ByteArray) (n : Nat) : (cmdsOf s n).length = n := by simp [cmdsOf]
theorem cmdsOf_snoc (s : ByteArray) (n : Nat) : cmdsOf s (n + 1) = cmdsOf s n ++ [cmdK s n] := by simp [cmdsOf, List.range_succ]
/-- A row that is owned reads as a slice. -/
theorem flatMap_at {α : Type} {f : α → List Value} {k : Nat} : ∀ (l : List α), (∀ x ∈ l, (f x).length = k) → ∀ i (h : i < l.length) j, j < k → (l.flatMap f)[i * k + j]? = (f l[i])[j]?
  | [], _, i, h, _, _ => absurd h (by simp)
  | x :: l, hf, i, h, j, hj => by
    have hx := hf x (by simp)
    rw [List.flatMap_cons]
    match i with
    | 0 => rw [List.getElem?_append_left (by omega)]; simp
    | i + 1 =>
      have e : (i + 1) * k + j - k = i * k + j := by rw [Nat.succ_mul]; omega
      rw [List.getElem?_append_right (by rw [hx, Nat.succ_mul]; omega), hx, e, flatMap_at l (fun y hy => hf y (by simp [hy])) i (by simpa using h) j hj]
      simp
theorem sl_own {α : Type} {A : Area} {w : World} {base k : Nat} {e : TypeId} {v : Value} {l : List α} {f : α → List Value} {n : Nat} (h : w.ownsRow base e k v n (l.flatMap f)) (hn : n = l.length) (hf : ∀ x ∈ l, (f x).length = k)
    (hA : ∀ b, base ≤ b → A b) : ∃ ao cap, v = .slice ao n cap ∧ Sl A w k (fun cs x => cs = f x) ao cap l := by
  subst hn
  rcases h.2 with ⟨hv, h0⟩ | ⟨g, cap, cur, hv, hg, hb, hc, hm, hsz, ht⟩
  · refine ⟨none, 0, by rw [hv, h0], ⟨by omega, by decide, fun i hi => absurd hi (by omega)⟩⟩
  · subst hv
    refine ⟨_, cap, rfl, ⟨hc, hm, fun i hi => ⟨g, 0, f l[i], rfl, hA g hg, hf _ (List.getElem_mem hi), rfl, fun j hj => ?_⟩⟩⟩
    have hj' : j < k := by rw [hf _ (List.getElem_mem hi)] at hj; exact hj
    have hlt : i * k + j < l.length * k := by
      have : (i + 1) * k ≤ l.length * k := Nat.mul_le_mul_right k hi
      rw [Nat.succ_mul] at this; omega
    rw [show 0 + i * k + j = i * k + j from by omega, h.cellAt _ hlt, flatMap_at l hf i hi j hj', List.getElem?_eq_getElem hj]
end Go.Proofs.Ytbebjifnhjlkiaa
