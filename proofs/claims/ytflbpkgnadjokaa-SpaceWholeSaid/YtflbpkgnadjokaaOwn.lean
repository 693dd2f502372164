/- An owned row of structs reads as a list. -/
import Derived.Test.YtflbpkgnadjokaaMem
import Derived.Laws.AppendOwn
namespace Go.Proofs.Ytflbpkgnadjokaa
open Go Go.RowKit Go.Proofs
theorem flatMap_at {α : Type} {f : α → List Value} {k : Nat} : ∀ (l : List α), (∀ x ∈ l, (f x).length = k) → ∀ i (h : i < l.length) j, j < k → (l.flatMap f)[i * k + j]? = (f l[i])[j]?
  | [], _, i, h, _, _ => absurd h (by simp)
  | x :: l, hf, i, h, j, hj => by
    have hx := hf x (by simp)
    rw [List.flatMap_cons]
    match i with
    | 0 => rw [List.getElem?_append_left (by omega)]; simp
    | i + 1 =>
      have e : (i + 1) * k + j - k = i * k + j := by rw [Nat.succ_mul]; omega
      rw [List.getElem?_append_right (by rw [hx, Nat.succ_mul]; omega), hx, e, flatMap_at l (fun y hy => hf y (by simp [hy])) i (by simpa using h) j hj]
      simp
theorem sl_own {α : Type} {A : Area} {w : World} {base k : Nat} {e : TypeId} {v : Value} {l : List α} {f : α → List Value} {n : Nat} (h : w.ownsRow base e k v n (l.flatMap f)) (hn : n = l.length) (hf : ∀ x ∈ l, (f x).length = k)
    (hA : ∀ b, base ≤ b → A b) : ∃ ao cap, v = .slice ao n cap ∧ Sl A w k (fun cs x => cs = f x) ao cap l := by
  subst hn
  rcases h.2 with ⟨hv, h0⟩ | ⟨g, cap, cur, hv, hg, hb, hc, hm, hsz, ht⟩
  · refine ⟨none, 0, by rw [hv, h0], ⟨by omega, by decide, fun i hi => absurd hi (by omega)⟩⟩
  · subst hv
    refine ⟨_, cap, rfl, ⟨hc, hm, fun i hi => ⟨g, 0, f l[i], rfl, hA g hg, hf _ (List.getElem_mem hi), rfl, fun j hj => ?_⟩⟩⟩
    have hj' : j < k := by rw [hf _ (List.getElem_mem hi)] at hj; exact hj
    have hlt : i * k + j < l.length * k := by
      have : (i + 1) * k ≤ l.length * k := Nat.mul_le_mul_right k hi
      rw [Nat.succ_mul] at this; omega
    rw [show 0 + i * k + j = i * k + j from by omega, h.cellAt _ hlt, flatMap_at l hf i hi j hj', List.getElem?_eq_getElem hj]
end Go.Proofs.Ytflbpkgnadjokaa
