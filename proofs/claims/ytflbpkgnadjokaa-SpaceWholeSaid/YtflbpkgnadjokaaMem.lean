/- Memory predicates of our own: growth of the world, rows of cells, slices as lists. -/
import Derived.WalkKit
import Derived.WalkSmall
namespace Go.Proofs.Ytflbpkgnadjokaa
open Go Go.RowKit
/-- All that was there is as it was. -/
abbrev Ext (w w' : World) : Prop := Below w.heap.size w w'
/-- Below block B, which is in the world, all is as it was. -/
structure Bel (B : Nat) (a w : World) : Prop where
  bel : Below B a w
  le : B ≤ w.heap.size
theorem Bel.refl (w : World) : Bel w.heap.size w w := ⟨Below.refl _ _, Nat.le_refl _⟩
theorem Bel.alloc {B : Nat} {a w : World} (h : Bel B a w) (o : Obj) : Bel B a (w.alloc o) := ⟨h.bel.alloc h.le o, by have := h.le; simp; omega⟩
theorem Bel.setCell {B : Nat} {a w : World} (h : Bel B a w) {p : Addr} (hp : B ≤ p.block) (u : Value) : Bel B a (w.setCell p u) :=
  ⟨h.bel.setCell hp u, by have := h.le; simpa [World.setCell] using this⟩
theorem Bel.setCell0 {B : Nat} {a w : World} (h : Bel B a w) {b o : Nat} (hp : B ≤ b) (u : Value) : Bel B a (w.setCell ⟨b, o, none⟩ u) := h.setCell (p := ⟨b, o, none⟩) hp u
theorem Bel.drewN {B : Nat} {a w : World} (h : Bel B a w) (n : Nat) : Bel B a (w.drewN n) := ⟨below_drewN h.bel n, h.le⟩
theorem Bel.drew {B : Nat} {a w : World} (h : Bel B a w) : Bel B a w.drew := ⟨h.bel.drew, h.le⟩
theorem Bel.call {B : Nat} {a w w' : World} (h : Bel B a w) (k : Ext w w') : Bel B a w' := ⟨h.bel.trans (k.mono h.le), Nat.le_trans h.le k.size⟩
theorem Bel.ext {a w : World} (h : Bel a.heap.size a w) : Ext a w := h.bel
theorem Bel.cell {B : Nat} {a w : World} (h : Bel B a w) {b off : Nat} {v : Value} (hb : b < B) (hc : a.cell? ⟨b, off, none⟩ = some v) : w.cell? ⟨b, off, none⟩ = some v :=
  (h.bel.cell (p := ⟨b, off, none⟩) hb).trans hc
theorem bcell {W w1 : World} (hb : Ext W w1) : (∀ b o, b < W.heap.size → w1.cell? ⟨b, o, none⟩ = W.cell? ⟨b, o, none⟩) ∧ (∀ b o, b < W.heap.size → w1.frozen? ⟨b, o, none⟩ = W.frozen? ⟨b, o, none⟩) :=
  ⟨fun b o h => hb.cell (p := ⟨b, o, none⟩) h, fun b o h => hb.frozen (p := ⟨b, o, none⟩) h⟩
theorem bsize {W w1 : World} (hb : Ext W w1) : W.heap.size ≤ w1.heap.size := hb.size
theorem World.size_setCell (w : World) (a : Addr) (v : Value) : (w.setCell a v).heap.size = w.heap.size := by simp [World.setCell]
theorem keepCell {X w1 : World} (h : Ext X w1) {b o : Nat} {v : Value} (hc : X.cell? ⟨b, o, none⟩ = some v) : w1.cell? ⟨b, o, none⟩ = some v :=
  (h.cell (p := ⟨b, o, none⟩) (World.block_lt_of_cell? X ⟨b, o, none⟩ hc)).trans hc
/-- The blocks in which data may lie. -/
abbrev Area := Nat → Prop
def cellsAt (w : World) (b off : Nat) (cs : List Value) : Prop := ∀ i (h : i < cs.length), w.cell? ⟨b, off + i, none⟩ = some cs[i]
/-- A slice value reads as a list: each element is k cells. -/
structure Sl {α : Type} (A : Area) (w : World) (k : Nat) (R : List Value → α → Prop) (ao : Option Addr) (cap : Nat) (l : List α) : Prop where
  cap_le : l.length ≤ cap
  cap_max : cap ≤ 9223372036854775807
  elem : ∀ i (h : i < l.length), ∃ b off cs, ao = some ⟨b, off, none⟩ ∧ A b ∧ cs.length = k ∧ R cs l[i] ∧ cellsAt w b (off + i * k) cs
def IsSl {α : Type} (A : Area) (w : World) (k : Nat) (R : List Value → α → Prop) (v : Value) (l : List α) : Prop :=
  ∃ ao cap, v = .slice ao l.length cap ∧ Sl A w k R ao cap l
theorem lt_of_cell {w : World} {b off : Nat} {v : Value} (h : w.cell? ⟨b, off, none⟩ = some v) : b < w.heap.size := by
  rcases Nat.lt_or_ge b w.heap.size with hb | hb
  · exact hb
  · simp [World.cell?, Array.getElem?_eq_none hb] at h
theorem cell_of_block {w : World} {b o : Nat} {cs : Array Value} {t : TypeId} {f : Nat × Nat} {v : Value} (h : w.heap[b]? = some (.cells cs t f)) (hv : cs[o]? = some v) : w.cell? ⟨b, o, none⟩ = some v := by
  simp [World.cell?, h, hv]
theorem free_of_block {w : World} {b o : Nat} {cs : Array Value} {t : TypeId} (h : w.heap[b]? = some (.cells cs t (0, 0))) : w.frozen? ⟨b, o, none⟩ = false := by
  simp [World.frozen?, h]
/-- What an append to an owned row leaves of a block of another element type. -/
theorem grown_keeps {w w' : World} {base : Nat} {e : TypeId} {size n : Nat} {v : Value} {xs : List Value} {b : Nat} {o : Obj} (hown : w.ownsRow base e size v n xs) (hg : w.grownBy w' v.ownBlock)
    (hb : w.heap[b]? = some o) (hne : ∀ cur, o ≠ .cells cur e (0, 0)) : w'.heap[b]? = some o := by
  have hlt : b < w.heap.size := by
    rcases Nat.lt_or_ge b w.heap.size with h | h
    · exact h
    · simp [Array.getElem?_eq_none h] at hb
  refine (hg.block b hlt ?_).trans hb
  intro he
  obtain ⟨_, h | ⟨g, cap, cur, rfl, _, hh, _⟩⟩ := hown
  · rw [h.1] at he; cases he
  · simp only [Value.ownBlock, Option.some.injEq] at he
    rw [← he, hb] at hh
    exact hne cur (by simpa using hh)
theorem grown_keeps_below {w w' : World} {base : Nat} {e : TypeId} {size n : Nat} {v : Value} {xs : List Value} {b : Nat} {o : Obj} (hown : w.ownsRow base e size v n xs) (hg : w.grownBy w' v.ownBlock)
    (hb : w.heap[b]? = some o) (hlt : b < base) : w'.heap[b]? = some o := by
  have hlt' : b < w.heap.size := by
    rcases Nat.lt_or_ge b w.heap.size with h | h
    · exact h
    · simp [Array.getElem?_eq_none h] at hb
  refine (hg.block b hlt' ?_).trans hb
  intro he
  obtain ⟨_, h | ⟨g, cap, cur, rfl, hg, _⟩⟩ := hown
  · rw [h.1] at he; cases he
  · simp only [Value.ownBlock, Option.some.injEq] at he
    omega
theorem Bel.grownOwn {B : Nat} {a w w' : World} {base : Nat} {e : TypeId} {size n : Nat} {v : Value} {xs : List Value} (h : Bel B a w) (hown : w.ownsRow base e size v n xs) (hg : w.grownBy w' v.ownBlock) (hB : B ≤ base) : Bel B a w' :=
  ⟨h.bel.grown hg h.le (fun k hk => by
    obtain ⟨_, h | ⟨g, cap, cur, rfl, hgb, _⟩⟩ := hown
    · rw [h.1] at hk; cases hk
    · simp only [Value.ownBlock, Option.some.injEq] at hk; omega), Nat.le_trans h.le hg.size⟩
theorem block_alloc {w : World} {o : Obj} {b : Nat} {x : Obj} (h : w.heap[b]? = some x) : (w.alloc o).heap[b]? = some x := by
  have hlt : b < w.heap.size := by
    rcases Nat.lt_or_ge b w.heap.size with h' | h'
    · exact h'
    · simp [Array.getElem?_eq_none h'] at h
  rw [Below.heap_alloc _ _ _ hlt, h]
theorem block_new (w : World) (o : Obj) : (w.alloc o).heap[w.heap.size]? = some o := by
  show (w.heap.push o)[w.heap.size]? = _
  simp
theorem block_new' {w : World} {n : Nat} (o : Obj) (h : w.heap.size = n) : (w.alloc o).heap[n]? = some o := by subst h; exact block_new w o
theorem block_drew {w : World} {b : Nat} : w.drew.heap[b]? = w.heap[b]? := rfl
theorem cells_new (w : World) (cs : List Value) (t : TypeId) : ∀ j u, cs[j]? = some u → (w.alloc (.cells cs.toArray t)).cell? ((⟨w.heap.size, 0, none⟩ : Addr).add j) = some u := by
  intro j u h
  have ha : ((⟨w.heap.size, 0, none⟩ : Addr).add j) = ⟨w.heap.size, j, none⟩ := by
    unfold Addr.add; split <;> simp_all
  rw [ha]
  exact cell_of_block (block_new _ _) (by simpa using h)
theorem block_setCell {w : World} {b o : Nat} {c : Array Value} {t : TypeId} {f : Nat × Nat} (h : w.heap[b]? = some (.cells c t f)) (v : Value) : (w.setCell ⟨b, o, none⟩ v).heap[b]? = some (.cells (c.setIfInBounds o v) t f) := by
  simp [World.setCell, Array.getElem?_modify, h]
theorem block_setCell_ne {w : World} {b : Nat} {a : Addr} (v : Value) (h : a.block ≠ b) : (w.setCell a v).heap[b]? = w.heap[b]? := Below.heap_setCell _ _ _ _ (fun e => h e.symm)
theorem block_ext {w w' : World} (hx : Ext w w') {b : Nat} {o : Obj} (hb : w.heap[b]? = some o) : w'.heap[b]? = some o := by
  have hlt : b < w.heap.size := by
    rcases Nat.lt_or_ge b w.heap.size with h | h
    · exact h
    · simp [Array.getElem?_eq_none h] at hb
  rw [hx.block b hlt, hb]
theorem ownsRow_ext {w w' : World} (hx : Ext w w') {base : Nat} {e : TypeId} {size n : Nat} {v : Value} {xs : List Value} (h : w.ownsRow base e size v n xs) : w'.ownsRow base e size v n xs := by
  obtain ⟨h1, h2⟩ := h
  refine ⟨h1, ?_⟩
  rcases h2 with h2 | ⟨g, cap, cur, hv, hg, hh, r⟩
  · exact .inl h2
  · exact .inr ⟨g, cap, cur, hv, hg, block_ext hx hh, r⟩
theorem ext_alloc (w : World) (o : Obj) : Ext w (w.alloc o) := ((Bel.refl w).alloc o).bel
theorem ext_trans {a b c : World} (h : Ext a b) (k : Ext b c) : Ext a c := Below.trans h (Below.mono k h.size)
end Go.Proofs.Ytflbpkgnadjokaa
