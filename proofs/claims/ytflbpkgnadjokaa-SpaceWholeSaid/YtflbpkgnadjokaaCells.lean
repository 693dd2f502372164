/- Cells of elements, spelled one by one; what an index search answers. -/
import Derived.Test.YtflbpkgnadjokaaMix
import Derived.Shelf.Slices.SearchI
namespace Go.Proofs.Ytflbpkgnadjokaa
open Go Go.RowKit Go.Proofs
section
variable {w : World} {b o : Nat} {c0 c1 c2 c3 c4 c5 c6 c7 c8 : Value}
theorem cellsAt_2 (h : cellsAt w b o [c0, c1]) : w.cell? ⟨b, o, none⟩ = some c0 ∧ w.cell? ⟨b, o + 1, none⟩ = some c1 := ⟨h 0 (by simp), h 1 (by simp)⟩
theorem cellsAt_3 (h : cellsAt w b o [c0, c1, c2]) : w.cell? ⟨b, o, none⟩ = some c0 ∧ w.cell? ⟨b, o + 1, none⟩ = some c1 ∧ w.cell? ⟨b, o + 2, none⟩ = some c2 := ⟨h 0 (by simp), h 1 (by simp), h 2 (by simp)⟩
theorem cellsAt_4 (h : cellsAt w b o [c0, c1, c2, c3]) : w.cell? ⟨b, o, none⟩ = some c0 ∧ w.cell? ⟨b, o + 1, none⟩ = some c1 ∧ w.cell? ⟨b, o + 2, none⟩ = some c2 ∧ w.cell? ⟨b, o + 3, none⟩ = some c3 := ⟨h 0 (by simp), h 1 (by simp), h 2 (by simp), h 3 (by simp)⟩
theorem cellsAt_5 (h : cellsAt w b o [c0, c1, c2, c3, c4]) : w.cell? ⟨b, o, none⟩ = some c0 ∧ w.cell? ⟨b, o + 1, none⟩ = some c1 ∧ w.cell? ⟨b, o + 2, none⟩ = some c2 ∧ w.cell? ⟨b, o + 3, none⟩ = some c3 ∧ w.cell? ⟨b, o + 4, none⟩ = some c4 := ⟨h 0 (by simp), h 1 (by simp), h 2 (by simp), h 3 (by simp), h 4 (by simp)⟩
theorem cellsAt_9 (h : cellsAt w b o [c0, c1, c2, c3, c4, c5, c6, c7, c8]) : w.cell? ⟨b, o, none⟩ = some c0 ∧ w.cell? ⟨b, o + 1, none⟩ = some c1 ∧ w.cell? ⟨b, o + 2, none⟩ = some c2 ∧ w.cell? ⟨b, o + 3, none⟩ = some c3 ∧ w.cell? ⟨b, o + 4, none⟩ = some c4 ∧ w.cell? ⟨b, o + 5, none⟩ = some c5 ∧ w.cell? ⟨b, o + 6, none⟩ = some c6 ∧ w.cell? ⟨b, o + 7, none⟩ = some c7 ∧ w.cell? ⟨b, o + 8, none⟩ = some c8 :=
  ⟨h 0 (by simp), h 1 (by simp), h 2 (by simp), h 3 (by simp), h 4 (by simp), h 5 (by simp), h 6 (by simp), h 7 (by simp), h 8 (by simp)⟩
end
theorem cellsAt_ext {w w' : World} {b o : Nat} {cs : List Value} (hx : Ext w w') (h : cellsAt w b o cs) : cellsAt w' b o cs := fun j hj => keepCell hx (h j hj)
theorem Sl.ext {α : Type} {A : Area} {w w' : World} {k : Nat} {R : List Value → α → Prop} {ao : Option Addr} {cap : Nat} {l : List α} (h : Sl A w k R ao cap l) (hx : Ext w w') : Sl A w' k R ao cap l := by
  refine ⟨h.cap_le, h.cap_max, fun i hi => ?_⟩
  obtain ⟨b, off, cs, h1, h2, h3, h4, h5⟩ := h.elem i hi
  exact ⟨b, off, cs, h1, h2, h3, h4, cellsAt_ext hx h5⟩
theorem Sl.nil {α : Type} {A : Area} {w : World} {k : Nat} {R : List Value → α → Prop} {ao : Option Addr} {cap : Nat} (h : cap ≤ 9223372036854775807) : Sl A w k R ao cap ([] : List α) :=
  ⟨Nat.zero_le _, h, fun i hi => by simp at hi⟩
theorem Sl.take {α : Type} {A : Area} {w : World} {k : Nat} {R : List Value → α → Prop} {ao : Option Addr} {cap : Nat} {l : List α} (h : Sl A w k R ao cap l) (n : Nat) : Sl A w k R ao cap (l.take n) := by
  refine ⟨Nat.le_trans (List.length_take_le' n l) h.cap_le, h.cap_max, fun i hi => ?_⟩
  have hi' : i < l.length := by rw [List.length_take] at hi; omega
  obtain ⟨b, off, cs, h1, h2, h3, h4, h5⟩ := h.elem i hi'
  exact ⟨b, off, cs, h1, h2, h3, by rw [List.getElem_take]; exact h4, h5⟩
theorem Sl.mono {α : Type} {A : Area} {w : World} {k : Nat} {R R' : List Value → α → Prop} {ao : Option Addr} {cap : Nat} {l : List α} (h : Sl A w k R ao cap l) (hR : ∀ cs x, x ∈ l → R cs x → R' cs x) : Sl A w k R' ao cap l := by
  refine ⟨h.cap_le, h.cap_max, fun i hi => ?_⟩
  obtain ⟨b, off, cs, h1, h2, h3, h4, h5⟩ := h.elem i hi
  exact ⟨b, off, cs, h1, h2, h3, hR _ _ (List.getElem_mem hi) h4, h5⟩
/-- The first index of which p holds; -1: none. -/
def idxOf {α : Type} (p : α → Bool) (l : List α) : Int := match l.findIdx? p with | some i => (i : Int) | none => -1
theorem idx_hit {α : Type} {p : α → Bool} {l : List α} {k : Nat} (hk : k < l.length) (hp : p l[k] = true) (hn : ∀ j (h : j < k), p (l[j]'(by omega)) = false) : idxOf p l = k := by
  have : l.findIdx? p = some k := by
    rw [List.findIdx?_eq_some_iff_getElem]
    exact ⟨hk, hp, fun j hj => by simp [hn j hj]⟩
  unfold idxOf; rw [this]
theorem idx_none {α : Type} {p : α → Bool} {l : List α} (hn : ∀ j (h : j < l.length), p l[j] = false) : idxOf p l = -1 := by
  have : l.findIdx? p = none := by
    rw [List.findIdx?_eq_none_iff]
    intro x hx
    obtain ⟨j, hj, rfl⟩ := List.mem_iff_getElem.1 hx
    exact hn j hj
  unfold idxOf; rw [this]
theorem idx_any {α : Type} (p : α → Bool) (l : List α) : decide (idxOf p l ≥ 0) = l.any p := by
  unfold idxOf
  cases h : l.findIdx? p with
  | none =>
    rw [List.findIdx?_eq_none_iff] at h
    have : l.any p = false := by rw [List.any_eq_false]; intro x hx; simp [h x hx]
    rw [this]; rfl
  | some i =>
    rw [List.findIdx?_eq_some_iff_getElem] at h
    obtain ⟨hi, hp, _⟩ := h
    have : l.any p = true := by rw [List.any_eq_true]; exact ⟨l[i], List.getElem_mem hi, hp⟩
    rw [this]; simp
theorem idx_bd {α : Type} (p : α → Bool) (l : List α) : -1 ≤ idxOf p l ∧ idxOf p l < l.length := by
  unfold idxOf
  cases h : l.findIdx? p with
  | none => simp; omega
  | some i =>
    rw [List.findIdx?_eq_some_iff_getElem] at h
    obtain ⟨hi, _⟩ := h
    simp; omega
/-- What is asked of a function value that answers a bool. -/
def PredP {α : Type} (P : Program) (g : Nat) (lb : Array Value) (R : List Value → α → Prop) (p : α → Bool) (l : List α) (w : World) : Prop :=
  ∀ W, Ext w W → ∀ x ∈ l, ∀ cs, R cs x → Calls P g (#[.agg cs.toArray] ++ lb) W fun e w' => e = .returned (.bool (p x)) ∧ Ext W w'
end Go.Proofs.Ytflbpkgnadjokaa
