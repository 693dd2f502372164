/- Texts of this work, joined: Mem, SymA, SymB, SymC, SymD, SymE, SymF, SymG, SymH, SymI, SymJ, SymK, SymL, SymM, SymN, SymO, Walk, Base, Tab, SymP. -/
import Derived.WalkKit
import Derived.WalkSmall
import Derived.Deep.LoopGhost
import Derived.Tactics2
import Derived.WalkLawsBesides
import Derived.WalkSpells
import Derived.KernelRfl
import Derived.Deep.QuietTactic
import Derived.BigQuiet
import Derived.Outline
import Derived.Lib.Hide
import Derived.Deep.DeepFit
import Derived.Test.YtflbpkgnadjokaaProg
import Derived.Laws.BitsAllLaws
import Derived.Laws.BitsLemmas
set_option linter.unusedSimpArgs false
set_option linter.unusedVariables false
namespace Go.Proofs.Ytflbpkgnadjokaa
open Go Go.RowKit
/-- All that was there is as it was. -/
abbrev Ext (w w' : World) : Prop := Below w.heap.size w w'
/-- Below block B, which is in the world, all is as it was. -/
structure Bel (B : Nat) (a w : World) : Prop where
  bel : Below B a w
  le : B ≤ w.heap.size
theorem Bel.refl (w : World) : Bel w.heap.size w w := ⟨Below.refl _ _, Nat.le_refl _⟩
theorem Bel.alloc {B : Nat} {a w : World} (h : Bel B a w) (o : Obj) : Bel B a (w.alloc o) := ⟨h.bel.alloc h.le o, by have := h.le; simp; omega⟩
theorem Bel.setCell {B : Nat} {a w : World} (h : Bel B a w) {p : Addr} (hp : B ≤ p.block) (u : Value) : Bel B a (w.setCell p u) :=
  ⟨h.bel.setCell hp u, by have := h.le; simpa [World.setCell] using this⟩
theorem Bel.setCell0 {B : Nat} {a w : World} (h : Bel B a w) {b o : Nat} (hp : B ≤ b) (u : Value) : Bel B a (w.setCell ⟨b, o, none⟩ u) := h.setCell (p := ⟨b, o, none⟩) hp u
theorem Bel.drewN {B : Nat} {a w : World} (h : Bel B a w) (n : Nat) : Bel B a (w.drewN n) := ⟨below_drewN h.bel n, h.le⟩
theorem Bel.drew {B : Nat} {a w : World} (h : Bel B a w) : Bel B a w.drew := ⟨h.bel.drew, h.le⟩
theorem Bel.call {B : Nat} {a w w' : World} (h : Bel B a w) (k : Ext w w') : Bel B a w' := ⟨h.bel.trans (k.mono h.le), Nat.le_trans h.le k.size⟩
theorem Bel.ext {a w : World} (h : Bel a.heap.size a w) : Ext a w := h.bel
theorem Bel.cell {B : Nat} {a w : World} (h : Bel B a w) {b off : Nat} {v : Value} (hb : b < B) (hc : a.cell? ⟨b, off, none⟩ = some v) : w.cell? ⟨b, off, none⟩ = some v :=
  (h.bel.cell (p := ⟨b, off, none⟩) hb).trans hc
theorem bcell {W w1 : World} (hb : Ext W w1) : (∀ b o, b < W.heap.size → w1.cell? ⟨b, o, none⟩ = W.cell? ⟨b, o, none⟩) ∧ (∀ b o, b < W.heap.size → w1.frozen? ⟨b, o, none⟩ = W.frozen? ⟨b, o, none⟩) :=
  ⟨fun b o h => hb.cell (p := ⟨b, o, none⟩) h, fun b o h => hb.frozen (p := ⟨b, o, none⟩) h⟩
theorem bsize {W w1 : World} (hb : Ext W w1) : W.heap.size ≤ w1.heap.size := hb.size
theorem World.size_setCell (w : World) (a : Addr) (v : Value) : (w.setCell a v).heap.size = w.heap.size := by simp [World.setCell]
theorem keepCell {X w1 : World} (h : Ext X w1) {b o : Nat} {v : Value} (hc : X.cell? ⟨b, o, none⟩ = some v) : w1.cell? ⟨b, o, none⟩ = some v :=
  (h.cell (p := ⟨b, o, none⟩) (World.block_lt_of_cell? X ⟨b, o, none⟩ hc)).trans hc
/-- The blocks in which data may lie. -/
abbrev Area := Nat → Prop
def cellsAt (w : World) (b off : Nat) (cs : List Value) : Prop := ∀ i (h : i < cs.length), w.cell? ⟨b, off + i, none⟩ = some cs[i]
/-- A slice value reads as a list: each element is k cells. -/
structure Sl {α : Type} (A : Area) (w : World) (k : Nat) (R : List Value → α → Prop) (ao : Option Addr) (cap : Nat) (l : List α) : Prop where
  cap_le : l.length ≤ cap
  cap_max : cap ≤ 9223372036854775807
  elem : ∀ i (h : i < l.length), ∃ b off cs, ao = some ⟨b, off, none⟩ ∧ A b ∧ cs.length = k ∧ R cs l[i] ∧ cellsAt w b (off + i * k) cs
def IsSl {α : Type} (A : Area) (w : World) (k : Nat) (R : List Value → α → Prop) (v : Value) (l : List α) : Prop :=
  ∃ ao cap, v = .slice ao l.length cap ∧ Sl A w k R ao cap l
theorem lt_of_cell {w : World} {b off : Nat} {v : Value} (h : w.cell? ⟨b, off, none⟩ = some v) : b < w.heap.size := by
  rcases Nat.lt_or_ge b w.heap.size with hb | hb
  · exact hb
  · simp [World.cell?, Array.getElem?_eq_none hb] at h
theorem cell_of_block {w : World} {b o : Nat} {cs : Array Value} {t : TypeId} {f : Nat × Nat} {v : Value} (h : w.heap[b]? = some (.cells cs t f)) (hv : cs[o]? = some v) : w.cell? ⟨b, o, none⟩ = some v := by
  simp [World.cell?, h, hv]
theorem free_of_block {w : World} {b o : Nat} {cs : Array Value} {t : TypeId} (h : w.heap[b]? = some (.cells cs t (0, 0))) : w.frozen? ⟨b, o, none⟩ = false := by
  simp [World.frozen?, h]
/-- What an append to an owned row leaves of a block of another element type. -/
theorem grown_keeps {w w' : World} {base : Nat} {e : TypeId} {size n : Nat} {v : Value} {xs : List Value} {b : Nat} {o : Obj} (hown : w.ownsRow base e size v n xs) (hg : w.grownBy w' v.ownBlock)
    (hb : w.heap[b]? = some o) (hne : ∀ cur, o ≠ .cells cur e (0, 0)) : w'.heap[b]? = some o := by
  have hlt : b < w.heap.size := by
    rcases Nat.lt_or_ge b w.heap.size with h | h
    · exact h
    · simp [Array.getElem?_eq_none h] at hb
  refine (hg.block b hlt ?_).trans hb
  intro he
  obtain ⟨_, h | ⟨g, cap, cur, rfl, _, hh, _⟩⟩ := hown
  · rw [h.1] at he; cases he
  · simp only [Value.ownBlock, Option.some.injEq] at he
    rw [← he, hb] at hh
    exact hne cur (by simpa using hh)
theorem grown_keeps_below {w w' : World} {base : Nat} {e : TypeId} {size n : Nat} {v : Value} {xs : List Value} {b : Nat} {o : Obj} (hown : w.ownsRow base e size v n xs) (hg : w.grownBy w' v.ownBlock)
    (hb : w.heap[b]? = some o) (hlt : b < base) : w'.heap[b]? = some o := by
  have hlt' : b < w.heap.size := by
    rcases Nat.lt_or_ge b w.heap.size with h | h
    · exact h
    · simp [Array.getElem?_eq_none h] at hb
  refine (hg.block b hlt' ?_).trans hb
  intro he
  obtain ⟨_, h | ⟨g, cap, cur, rfl, hg, _⟩⟩ := hown
  · rw [h.1] at he; cases he
  · simp only [Value.ownBlock, Option.some.injEq] at he
    omega
theorem Bel.grownOwn {B : Nat} {a w w' : World} {base : Nat} {e : TypeId} {size n : Nat} {v : Value} {xs : List Value} (h : Bel B a w) (hown : w.ownsRow base e size v n xs) (hg : w.grownBy w' v.ownBlock) (hB : B ≤ base) : Bel B a w' :=
  ⟨h.bel.grown hg h.le (fun k hk => by
    obtain ⟨_, h | ⟨g, cap, cur, rfl, hgb, _⟩⟩ := hown
    · rw [h.1] at hk; cases hk
    · simp only [Value.ownBlock, Option.some.injEq] at hk; omega), Nat.le_trans h.le hg.size⟩
theorem block_alloc {w : World} {o : Obj} {b : Nat} {x : Obj} (h : w.heap[b]? = some x) : (w.alloc o).heap[b]? = some x := by
  have hlt : b < w.heap.size := by
    rcases Nat.lt_or_ge b w.heap.size with h' | h'
    · exact h'
    · simp [Array.getElem?_eq_none h'] at h
  rw [Below.heap_alloc _ _ _ hlt, h]
theorem block_new (w : World) (o : Obj) : (w.alloc o).heap[w.heap.size]? = some o := by
  show (w.heap.push o)[w.heap.size]? = _
  simp
theorem block_new' {w : World} {n : Nat} (o : Obj) (h : w.heap.size = n) : (w.alloc o).heap[n]? = some o := by subst h; exact block_new w o
theorem block_drew {w : World} {b : Nat} : w.drew.heap[b]? = w.heap[b]? := rfl
theorem cells_new (w : World) (cs : List Value) (t : TypeId) : ∀ j u, cs[j]? = some u → (w.alloc (.cells cs.toArray t)).cell? ((⟨w.heap.size, 0, none⟩ : Addr).add j) = some u := by
  intro j u h
  have ha : ((⟨w.heap.size, 0, none⟩ : Addr).add j) = ⟨w.heap.size, j, none⟩ := by
    unfold Addr.add; split <;> simp_all
  rw [ha]
  exact cell_of_block (block_new _ _) (by simpa using h)
theorem block_setCell {w : World} {b o : Nat} {c : Array Value} {t : TypeId} {f : Nat × Nat} (h : w.heap[b]? = some (.cells c t f)) (v : Value) : (w.setCell ⟨b, o, none⟩ v).heap[b]? = some (.cells (c.setIfInBounds o v) t f) := by
  simp [World.setCell, Array.getElem?_modify, h]
theorem block_setCell_ne {w : World} {b : Nat} {a : Addr} (v : Value) (h : a.block ≠ b) : (w.setCell a v).heap[b]? = w.heap[b]? := Below.heap_setCell _ _ _ _ (fun e => h e.symm)
theorem block_ext {w w' : World} (hx : Ext w w') {b : Nat} {o : Obj} (hb : w.heap[b]? = some o) : w'.heap[b]? = some o := by
  have hlt : b < w.heap.size := by
    rcases Nat.lt_or_ge b w.heap.size with h | h
    · exact h
    · simp [Array.getElem?_eq_none h] at hb
  rw [hx.block b hlt, hb]
theorem ownsRow_ext {w w' : World} (hx : Ext w w') {base : Nat} {e : TypeId} {size n : Nat} {v : Value} {xs : List Value} (h : w.ownsRow base e size v n xs) : w'.ownsRow base e size v n xs := by
  obtain ⟨h1, h2⟩ := h
  refine ⟨h1, ?_⟩
  rcases h2 with h2 | ⟨g, cap, cur, hv, hg, hh, r⟩
  · exact .inl h2
  · exact .inr ⟨g, cap, cur, hv, hg, block_ext hx hh, r⟩
theorem ext_alloc (w : World) (o : Obj) : Ext w (w.alloc o) := ((Bel.refl w).alloc o).bel
theorem ext_trans {a b c : World} (h : Ext a b) (k : Ext b c) : Ext a c := Below.trans h (Below.mono k h.size)
end Go.Proofs.Ytflbpkgnadjokaa
namespace Go.Proofs.Ytflbpkgnadjokaa
open Go Go.RowKit
/-- Data: values as they are; slices as lists of rows of cells; pointers to cells that nobody writes; structs; several results; functions with what they captured. -/
inductive D where
  | v (x : Value)
  | sl (sz : Nat) (rows : List (List D))
  | ept (cells : List D)
  | agg (cells : List D)
  | tup (vs : List D)
  | clo (g : Nat) (caps : List D)
/-- The value of one cell. -/
def D.one : D → Bool
  | .v x => x.oneCell'
  | .agg _ => false
  | .tup _ => false
  | _ => true
/-- A value reads as a datum; blocks of M are not looked into. -/
inductive RepD (M : Nat → Prop) (w : World) : D → Value → Prop
  | v (x : Value) : RepD M w (.v x) x
  | nil (sz : Nat) (ao : Option Addr) (cap : Nat) (hm : cap ≤ 9223372036854775807) : RepD M w (.sl sz []) (.slice ao 0 cap)
  | sl (sz : Nat) (rows : List (List D)) (b off cap : Nat) (f : Nat → Nat → Value) (hM : ¬ M b) (hb : b < w.heap.size) (hc : rows.length ≤ cap) (hm : cap ≤ 9223372036854775807)
      (hr : ∀ r ∈ rows, r.length = sz) (h1 : ∀ r ∈ rows, ∀ d ∈ r, d.one = true)
      (hcell : ∀ i j, i < rows.length → j < sz → w.cell? ⟨b, off + i * sz + j, none⟩ = some (f i j))
      (hrep : ∀ (i j : Nat) (row : List D) (d : D), rows[i]? = some row → row[j]? = some d → RepD M w d (f i j)) : RepD M w (.sl sz rows) (.slice (some ⟨b, off, none⟩) rows.length cap)
  | ept (cells : List D) (b off : Nat) (f : Nat → Value) (hM : ¬ M b) (hb : b < w.heap.size) (h1 : ∀ d ∈ cells, d.one = true)
      (hcell : ∀ j, j < cells.length → w.cell? ⟨b, off + j, none⟩ = some (f j))
      (hrep : ∀ (j : Nat) (d : D), cells[j]? = some d → RepD M w d (f j)) : RepD M w (.ept cells) (.pointer (some ⟨b, off, none⟩))
  | agg (cells : List D) (vs : List Value) (hl : cells.length = vs.length) (h1 : ∀ d ∈ cells, d.one = true)
      (hrep : ∀ (j : Nat) (d : D) (x : Value), cells[j]? = some d → vs[j]? = some x → RepD M w d x) : RepD M w (.agg cells) (.agg vs.toArray)
  | tup (ds : List D) (vs : List Value) (hl : ds.length = vs.length)
      (hrep : ∀ (j : Nat) (d : D) (x : Value), ds[j]? = some d → vs[j]? = some x → RepD M w d x) : RepD M w (.tup ds) (.tuple vs.toArray)
  | clo (g : Nat) (caps : List D) (vs : List Value) (hl : caps.length = vs.length)
      (hrep : ∀ (j : Nat) (d : D) (x : Value), caps[j]? = some d → vs[j]? = some x → RepD M w d x) : RepD M w (.clo g caps) (.func (.func g) #[] vs.toArray)
/-- What may be done to the world: old blocks outside of M stay; M takes in none of them. -/
structure Keep (M : Nat → Prop) (w : World) (M' : Nat → Prop) (w' : World) : Prop where
  size : w.heap.size ≤ w'.heap.size
  block : ∀ b, b < w.heap.size → ¬ M b → w'.heap[b]? = w.heap[b]?
  mu : ∀ b, b < w.heap.size → M' b → M b
theorem Keep.refl (M : Nat → Prop) (w : World) : Keep M w M w := ⟨Nat.le_refl _, fun _ _ _ => rfl, fun _ _ h => h⟩
theorem Keep.ext {M : Nat → Prop} {w w' : World} (h : Ext w w') (hM : ∀ b, M b → b < w.heap.size) : Keep M w M w' := ⟨h.size, fun b hb _ => h.block b hb, fun _ _ h => h⟩
theorem RepD.keep {M M' : Nat → Prop} {w w' : World} (hk : Keep M w M' w') {d : D} {x : Value} (h : RepD M w d x) : RepD M' w' d x := by
  induction h with
  | v x => exact .v x
  | nil sz ao cap hm => exact .nil sz ao cap hm
  | sl sz rows b off cap f hM hb hc hm hr h1 hcell hrep ih =>
    refine .sl sz rows b off cap f (fun h => hM (hk.mu b hb h)) (Nat.lt_of_lt_of_le hb hk.size) hc hm hr h1 (fun i j hi hj => ?_) ih
    rw [← hcell i j hi hj]
    exact World.cell?_of_block (a := ⟨b, off + i * sz + j, none⟩) (hk.block b hb hM)
  | ept cells b off f hM hb h1 hcell hrep ih =>
    refine .ept cells b off f (fun h => hM (hk.mu b hb h)) (Nat.lt_of_lt_of_le hb hk.size) h1 (fun j hj => ?_) ih
    rw [← hcell j hj]
    exact World.cell?_of_block (a := ⟨b, off + j, none⟩) (hk.block b hb hM)
  | agg cells vs hl h1 hrep ih => exact .agg cells vs hl h1 ih
  | tup ds vs hl hrep ih => exact .tup ds vs hl ih
  | clo g caps vs hl hrep ih => exact .clo g caps vs hl ih
theorem RepD.one {M : Nat → Prop} {w : World} {d : D} {x : Value} (h : RepD M w d x) (h1 : d.one = true) : x.oneCell' = true := by
  cases h <;> first | rfl | exact h1 | (simp [D.one] at h1)
/-- Values of a frame: data; anything; pointers into a chunk of one's own; a slice of one's own at a generation; a cell of a row of it; a function whose captured values are such. -/
inductive PV where
  | d (x : D)
  | any
  | ptr (k off : Nat)
  | own (k g : Nat)
  | rp (k g sz i j : Nat)
  | clo (g : Nat) (caps : List PV)
def PV.one : PV → Bool
  | .d x => x.one
  | .any => false
  | _ => true
/-- Where chunks lie. -/
structure Cx where
  M : Nat → Prop
  bl : Nat → Option Nat
  ov : Nat → Nat → Option Value
inductive RepP (c : Cx) (w : World) : PV → Value → Prop
  | d (x : D) (v : Value) (h : RepD c.M w x v) : RepP c w (.d x) v
  | any (v : Value) : RepP c w .any v
  | ptr (k off b : Nat) (h : c.bl k = some b) : RepP c w (.ptr k off) (.pointer (some ⟨b, off, none⟩))
  | own (k g : Nat) (v : Value) (h : c.ov k g = some v) (h1 : v.oneCell' = true) : RepP c w (.own k g) v
  | rp (k g sz i j b n cap : Nat) (h : c.ov k g = some (.slice (some ⟨b, 0, none⟩) n cap)) : RepP c w (.rp k g sz i j) (.pointer (some ⟨b, i * sz + j, none⟩))
  | clo (g : Nat) (caps : List PV) (vs : List Value) (hl : caps.length = vs.length)
      (hrep : ∀ (j : Nat) (d : PV) (x : Value), caps[j]? = some d → vs[j]? = some x → RepP c w d x) : RepP c w (.clo g caps) (.func (.func g) #[] vs.toArray)
/-- Places that are known stay where they are. -/
structure Cx.le (c c' : Cx) : Prop where
  bl : ∀ k b, c.bl k = some b → c'.bl k = some b
  ov : ∀ k g v, c.ov k g = some v → c'.ov k g = some v
theorem Cx.le_refl (c : Cx) : c.le c := ⟨fun _ _ h => h, fun _ _ _ h => h⟩
theorem RepP.keep {c c' : Cx} {w w' : World} (hc : c.le c') (hk : Keep c.M w c'.M w') {d : PV} {x : Value} (h : RepP c w d x) : RepP c' w' d x := by
  induction h with
  | d x v h => exact .d x v (h.keep hk)
  | any v => exact .any v
  | ptr k off b h => exact .ptr k off b (hc.bl _ _ h)
  | own k g v h h1 => exact .own k g v (hc.ov _ _ _ h) h1
  | rp k g sz i j b n cap h => exact .rp k g sz i j b n cap (hc.ov _ _ _ h)
  | clo g caps vs hl hrep ih => exact .clo g caps vs hl ih
theorem RepP.one {c : Cx} {w : World} {d : PV} {x : Value} (h : RepP c w d x) (h1 : d.one = true) : x.oneCell' = true := by
  cases h with
  | d x v h => exact h.one h1
  | any => simp [PV.one] at h1
  | ptr => rfl
  | own k g v h h2 => exact h2
  | rp => rfl
  | clo => rfl
/-- Chunks: not yet there; given away; a box of cells; a growing row of structs. -/
inductive Chunk where
  | none
  | gone
  | box (T : Nat) (cells : List PV)
  | row (E sz g : Nat) (rows : List (List D))
def Cx.block (c : Cx) (k : Nat) : Chunk → Option Nat
  | .box _ _ => c.bl k
  | .row _ _ g _ => (c.ov k g).bind Value.ownBlock
  | _ => Option.none
/-- The values of cells, one by one. -/
def RepPs (c : Cx) (w : World) (ds : List PV) (vs : List Value) : Prop := ds.length = vs.length ∧ ∀ (j : Nat) (d : PV) (x : Value), ds[j]? = some d → vs[j]? = some x → RepP c w d x
def RepDs (M : Nat → Prop) (w : World) (ds : List D) (vs : List Value) : Prop := ds.length = vs.length ∧ ∀ (j : Nat) (d : D) (x : Value), ds[j]? = some d → vs[j]? = some x → RepD M w d x
theorem RepPs.keep {c c' : Cx} {w w' : World} (hc : c.le c') (hk : Keep c.M w c'.M w') {ds : List PV} {vs : List Value} (h : RepPs c w ds vs) : RepPs c' w' ds vs := ⟨h.1, fun j d x h1 h2 => (h.2 j d x h1 h2).keep hc hk⟩
theorem RepDs.keep {M M' : Nat → Prop} {w w' : World} (hk : Keep M w M' w') {ds : List D} {vs : List Value} (h : RepDs M w ds vs) : RepDs M' w' ds vs := ⟨h.1, fun j d x h1 h2 => (h.2 j d x h1 h2).keep hk⟩
inductive ChunkOK (base : Nat) (c : Cx) (w : World) (k : Nat) : Chunk → Prop
  | none (h1 : c.bl k = .none) (h2 : ∀ g, c.ov k g = .none) : ChunkOK base c w k .none
  | gone : ChunkOK base c w k .gone
  | box (T : Nat) (cells : List PV) (b : Nat) (vs : List Value) (hb : c.bl k = some b) (hh : w.heap[b]? = some (.cells vs.toArray T (0, 0))) (hr : RepPs c w cells vs) (h1 : ∀ d ∈ cells, d.one = true) : ChunkOK base c w k (.box T cells)
  | row (E sz g : Nat) (rows : List (List D)) (v : Value) (xs : List Value) (hv : c.ov k g = some v) (hown : w.ownsRow base E sz v rows.length xs) (hr : RepDs c.M w rows.flatten xs)
      (hsz : ∀ r ∈ rows, r.length = sz) (h1 : ∀ r ∈ rows, ∀ d ∈ r, d.one = true) (hg : ∀ g', g < g' → c.ov k g' = .none) : ChunkOK base c w k (.row E sz g rows)
/-- Symbolic states, as functions. -/
structure FS where
  env : Nat → PV
  heap : Nat → Chunk
/-- What is fixed during a call: the program, the frame's size, the world at its begin, blocks that others may write. -/
structure Cfg where
  P : Program
  n : Nat
  w0 : World
  M0 : Nat → Prop
structure RealC (X : Cfg) (s : FS) (a : Act) (w : World) (c : Cx) : Prop where
  size : a.tmps.size = X.n
  defers : a.defers = []
  ext : Ext X.w0 w
  fresh : ∀ b, X.M0 b → b < X.w0.heap.size
  mu : ∀ b, c.M b ↔ X.M0 b ∨ ∃ k, c.block k (s.heap k) = some b
  new : ∀ k b, c.block k (s.heap k) = some b → X.w0.heap.size ≤ b ∧ b < w.heap.size
  apart : ∀ k k' b, c.block k (s.heap k) = some b → c.block k' (s.heap k') = some b → k = k'
  env : ∀ t, RepP c w (s.env t) (a.tmps.getD t undef)
  chunk : ∀ k, ChunkOK X.w0.heap.size c w k (s.heap k)
/-- Frame and world are as the state says. -/
def Real (X : Cfg) (s : FS) (a : Act) (w : World) : Prop := ∃ c, RealC X s a w c
/-- What an operation does: its result; chunks that it turns; chunks that it looks at. -/
structure Res where
  pv : PV
  eff : List (Nat × Chunk) := []
  touch : List Nat := []
def effH : List (Nat × Chunk) → (Nat → Chunk) → Nat → Chunk
  | [], h => h
  | (k, c) :: l, h => fun k' => if k' = k then c else effH l h k'
def FS.put (s : FS) (dst : Option Nat) (p : PV) : FS :=
  match dst with
  | some d => { s with env := fun t => if t = d then p else s.env t }
  | none => s
def FS.app (s : FS) (dst : Option Nat) (r : Res) : FS := FS.put { s with heap := effH r.eff s.heap } dst r.pv
/-- The operation may be done at all states that are alike where it looks. -/
def OpOK (X : Cfg) (ops : Array Oper) (s : FS) (o : Oper) (r : Res) : Prop :=
  (∀ d, o.dst = some d → d < X.n) ∧ (∀ kc ∈ r.eff, kc.1 ∈ r.touch) ∧
  ∀ s' : FS, (∀ t ∈ o.looksAt ops, s'.env t = s.env t) → (∀ k ∈ r.touch, s'.heap k = s.heap k) → ∀ a w, Real X s' a w →
    ∀ K Q, (∀ v w', Real X (s'.app o.dst r) (a.put o.dst v) w' → K (a.put o.dst v) w') → Oper.wp X.P o a w K Q
end Go.Proofs.Ytflbpkgnadjokaa
namespace Go.Proofs.Ytflbpkgnadjokaa
open Go Go.RowKit
/-- An operation of a region: is it wanted, and what it does. -/
structure It where
  o : Oper
  want : Bool
  res : Res
def yieldS (ops : Array Oper) (s : FS) (j : Nat) : Option (Option Bool) :=
  match (ops[j]?).bind (·.dst) with
  | none => some none
  | some t => match s.env t with
    | .d (.v (.bool b)) => some (some b)
    | .d (.v (.tuple _)) => some none
    | _ => none
def guardS (ops : Array Oper) (s : FS) (o : Oper) : Option Bool :=
  match o.guard with
  | none => some true
  | some (j, want) => (yieldS ops s j).map (· == some want)
def undefR : Res := { pv := .d (.v undef) }
def ItOK (X : Cfg) (ops : Array Oper) (s : FS) (it : It) : Prop :=
  guardS ops s it.o = some it.want ∧ (it.want = true → OpOK X ops s it.o it.res) ∧ (it.want = false → it.res = undefR ∧ ∀ d, it.o.dst = some d → d < X.n)
theorem RealC.put {X : Cfg} {s : FS} {a : Act} {w : World} {c : Cx} (h : RealC X s a w c) {p : PV} {v : Value} (hp : RepP c w p v) {dst : Option Nat} (hd : ∀ d, dst = some d → d < X.n) :
    RealC X (s.put dst p) (a.put dst v) w c := by
  cases dst with
  | none => exact h
  | some d =>
    have hd := hd d rfl
    refine ⟨by simpa [Act.put] using h.size, by simpa [Act.put] using h.defers, h.ext, h.fresh, h.mu, h.new, h.apart, fun t => ?_, h.chunk⟩
    by_cases ht : t = d
    · subst ht
      have hs : t < a.tmps.size := by rw [h.size]; exact hd
      simp only [FS.put, Act.put, if_true, Array.getD_eq_getD_getElem?, Array.getElem?_setIfInBounds, hs]
      simpa [hs] using hp
    · have hne : d ≠ t := fun e => ht e.symm
      have := h.env t
      simp only [FS.put, Act.put, if_neg ht, Array.getD_eq_getD_getElem?, Array.getElem?_setIfInBounds_ne hne]
      simpa [Array.getD_eq_getD_getElem?] using this
theorem RealC.bool {X : Cfg} {s : FS} {a : Act} {w : World} {c : Cx} (h : RealC X s a w c) {t : Nat} {x : Value} (ht : s.env t = .d (.v x)) : a.tmps.getD t undef = x := by
  have := h.env t
  rw [ht] at this
  cases this with
  | d x v h => cases h with | v => rfl
theorem guard_ok {X : Cfg} {ops : Array Oper} {s : FS} {a : Act} {w : World} {o : Oper} {g : Bool} (h : Real X s a w) (hg : guardS ops s o = some g) : Region.wanted o (yielded ops a.tmps) = g := by
  obtain ⟨c, h⟩ := h
  unfold guardS at hg
  unfold Region.wanted
  split at hg
  · rename_i hn
    simp only [hn]
    exact Option.some.inj hg
  · rename_i j want hj
    simp only [hj]
    unfold yieldS at hg
    unfold yielded
    split at hg
    · rename_i hn
      rw [hn]
      simp at hg
      simpa using hg
    · rename_i t hn
      rw [hn]
      split at hg
      · rename_i b hb
        have := h.bool hb
        rw [Array.getD_eq_getD_getElem?] at this
        cases hx : a.tmps[t]? with
        | none => rw [hx] at this; simp [undef] at this
        | some y =>
          rw [hx] at this
          simp at this
          subst this
          simp only [Option.bind_some, hx]
          simpa using hg
      · rename_i vs hb
        have := h.bool hb
        rw [Array.getD_eq_getD_getElem?] at this
        cases hx : a.tmps[t]? with
        | none => simp only [Option.bind_some, hx]; simpa using hg
        | some y =>
          rw [hx] at this
          simp at this
          subst this
          simp only [Option.bind_some, hx]
          simpa using hg
      · simp at hg
/-- An operation that comes up, at a state that is alike where it looks. -/
theorem it_run {X : Cfg} {ops : Array Oper} {s s' : FS} {it : It} {i : Nat} {a : Act} {w : World} {K : Act → World → Prop} {Q : Exit → Act → World → Prop} (hi : ops[i]? = some it.o) (h : ItOK X ops s it)
    (he : ∀ t ∈ it.o.looksAt ops, s'.env t = s.env t) (hk : ∀ k ∈ it.res.touch, s'.heap k = s.heap k) (hr : Real X s' a w)
    (hK : ∀ v w', Real X (s'.app it.o.dst it.res) (a.put it.o.dst v) w' → K (a.put it.o.dst v) w') : wpOp X.P ops Q i K a w := by
  obtain ⟨h1, h2, h3⟩ := h
  have hg : guardS ops s' it.o = some it.want := by
    rw [← h1]
    unfold guardS
    split
    · rfl
    · rename_i j want hj
      unfold yieldS
      cases hd : (ops[j]?).bind (·.dst) with
      | none => rfl
      | some t =>
        have := he t (by simp [Oper.looksAt, hj, hd])
        simp only [this]
  have hw := guard_ok hr hg
  unfold wpOp
  simp only [hi, hw]
  cases hwant : it.want with
  | true =>
    simp only [if_true]
    exact .inl ((h2 hwant).2.2 s' he hk a w hr K Q hK)
  | false =>
    obtain ⟨hres, hdst⟩ := h3 hwant
    simp only [Bool.false_eq_true, if_false]
    refine hK undef w ?_
    rw [hres]
    obtain ⟨c, hc⟩ := hr
    exact ⟨c, hc.put (.d _ _ (.v _)) hdst⟩
def TraceOK (X : Cfg) (ops : Array Oper) : FS → Nat → List It → Prop
  | _, i, [] => i = ops.size
  | s, i, it :: its => ops[i]? = some it.o ∧ ItOK X ops s it ∧ TraceOK X ops (s.app it.o.dst it.res) (i + 1) its
def runS (s : FS) (its : List It) : FS := its.foldl (fun s it => s.app it.o.dst it.res) s
theorem trace_text {X : Cfg} {ops : Array Oper} {Q : Exit → Act → World → Prop} : ∀ (its : List It) (s : FS) (i : Nat) (a : Act) (w : World), TraceOK X ops s i its → Real X s a w →
    (∀ a' w', Real X (runS s its) a' w' → Q .normal a' w') → wpOps X.P ops Q (List.range' i its.length) a w
  | [], _, _, a, w, _, hr, hQ => hQ a w hr
  | it :: its, s, i, a, w, ⟨hi, hit, ht⟩, hr, hQ => by
    rw [List.length_cons, List.range'_succ, wpOps_cons]
    exact it_run hi hit (fun _ _ => rfl) (fun _ _ => rfl) hr fun v w' hr' => trace_text its _ _ _ _ ht hr' hQ
theorem trace_at {X : Cfg} {ops : Array Oper} : ∀ (its : List It) (s : FS) (i : Nat), TraceOK X ops s i its → i + its.length = ops.size ∧ ∀ j it, its[j]? = some it → ops[i + j]? = some it.o ∧ ItOK X ops (runS s (its.take j)) it
  | [], _, _, h => ⟨by simpa [TraceOK] using h, fun j it h => by simp at h⟩
  | it :: its, s, i, ⟨h1, h2, h3⟩ => by
    obtain ⟨ih1, ih2⟩ := trace_at its _ _ h3
    refine ⟨by simp only [List.length_cons]; omega, fun j x hj => ?_⟩
    cases j with
    | zero =>
      simp at hj
      subst hj
      exact ⟨h1, h2⟩
    | succ j =>
      have := ih2 j x (by simpa using hj)
      refine ⟨by rw [show i + (j + 1) = i + 1 + j by omega]; exact this.1, this.2⟩
/-- Ancestors by the edges, as sets of bits. -/
def ancRow (l : List Nat) (es : List Edge) : Nat := es.foldl (fun s e => if Region.binds .any e then s ||| 2 ^ e.on ||| l.getD e.on 0 else s) 0
def ancL (ops : Array Oper) : Nat → List Nat
  | 0 => []
  | n + 1 => let l := ancL ops n; l ++ [ancRow l (((ops[n]?).map (·.after.toList)).getD [])]
/-- What is listed holds what is ahead of it. -/
def Closed (ops : Array Oper) (L : Nat → Bool) : Prop := ∀ j o, ops[j]? = some o → L j = true → ∀ e ∈ o.after.toList, Region.binds .any e = true → L e.on = true
theorem ancRow_bit (l : List Nat) (i : Nat) : ∀ (es : List Edge) (s : Nat), (es.foldl (fun s e => if Region.binds .any e then s ||| 2 ^ e.on ||| l.getD e.on 0 else s) s).testBit i = true →
    s.testBit i = true ∨ ∃ e ∈ es, Region.binds .any e = true ∧ (e.on = i ∨ (l.getD e.on 0).testBit i = true)
  | [], s, h => .inl h
  | e :: es, s, h => by
    rw [List.foldl_cons] at h
    rcases ancRow_bit l i es _ h with h | ⟨e', h1, h2⟩
    · by_cases hb : Region.binds .any e = true
      · rw [if_pos hb, Nat.testBit_or, Nat.testBit_or, Nat.testBit_two_pow] at h
        simp only [Bool.or_eq_true, decide_eq_true_eq] at h
        rcases h with (h | h) | h
        · exact .inl h
        · exact .inr ⟨e, by simp, hb, .inl h⟩
        · exact .inr ⟨e, by simp, hb, .inr h⟩
      · rw [if_neg hb] at h
        exact .inl h
    · exact .inr ⟨e', List.mem_cons_of_mem _ h1, h2⟩
theorem ancL_length (ops : Array Oper) : ∀ n, (ancL ops n).length = n
  | 0 => rfl
  | n + 1 => by simp [ancL, ancL_length ops n]
theorem anc_listed {ops : Array Oper} {L : Nat → Bool} (hc : Closed ops L) : ∀ n j i, ((ancL ops n).getD j 0).testBit i = true → L j = true → L i = true
  | 0, j, i, h, _ => by simp [ancL] at h
  | n + 1, j, i, h, hj => by
    have hlen := ancL_length ops n
    simp only [ancL, List.getD_eq_getElem?_getD, List.getElem?_append] at h
    split at h
    · exact anc_listed hc n j i (by simpa [List.getD_eq_getElem?_getD] using h) hj
    · rename_i hge
      rcases Nat.lt_or_ge n j with hnj | hnj
      · rw [hlen] at h
        rw [show ([ancRow (ancL ops n) (((ops[n]?).map (·.after.toList)).getD [])] : List Nat)[j - n]? = none by simp; omega] at h
        simp at h
      · obtain rfl : j = n := by omega
        rw [hlen, Nat.sub_self] at h
        simp only [List.getElem?_cons_zero, Option.getD_some] at h
        unfold ancRow at h
        cases ho : ops[j]? with
        | none => simp [ho] at h
        | some o =>
          rw [ho] at h
          rcases ancRow_bit _ _ _ _ h with h | ⟨e, h1, h2, h3⟩
          · simp at h
          · have he := hc j o ho hj e (by simpa using h1) h2
            rcases h3 with h3 | h3
            · rw [← h3]; exact he
            · exact anc_listed hc j e.on i (by simpa [List.getD_eq_getElem?_getD] using h3) he
/-- Two operations that may change places. -/
def noConf (ops : Array Oper) (x y : Oper) (kx ky tx ty : List Nat) : Bool := x.apart ops y && kx.all (fun k => !ty.contains k) && ky.all (fun k => !tx.contains k)
def indepB (ops : Array Oper) (sm : List (List Nat × List Nat)) : Bool :=
  let l := ancL ops ops.size
  (List.range ops.size).all fun j => (List.range j).all fun i => (l.getD j 0).testBit i ||
    (match ops[i]?, ops[j]? with
     | some x, some y => noConf ops x y (sm.getD i ([], [])).1 (sm.getD j ([], [])).1 (sm.getD i ([], [])).2 (sm.getD j ([], [])).2
     | _, _ => false)
/-- The state behind those that are listed, in the order of the text. -/
def apI (its : List It) (s : FS) (i : Nat) : FS := match its[i]? with | some it => s.app it.o.dst it.res | none => s
def runL (s : FS) (its : List It) (L : Nat → Bool) : FS := ((List.range its.length).filter L).foldl (apI its) s
def writesT (its : List It) (t : Nat) (i : Nat) : Bool := match its[i]? with | some it => it.o.dst == some t | none => false
def writesK (its : List It) (k : Nat) (i : Nat) : Bool := match its[i]? with | some it => (it.res.eff.map (·.1)).contains k | none => false
theorem effH_ne {k : Nat} {h : Nat → Chunk} : ∀ {l : List (Nat × Chunk)}, (l.map (·.1)).contains k = false → effH l h k = h k
  | [], _ => rfl
  | (k', c) :: l, hn => by
    simp only [List.map_cons, List.contains_cons, Bool.or_eq_false_iff, beq_eq_false_iff_ne, ne_eq] at hn
    simp only [effH, if_neg hn.1]
    exact effH_ne hn.2
theorem effH_in {k : Nat} {h h' : Nat → Chunk} : ∀ {l : List (Nat × Chunk)}, (l.map (·.1)).contains k = true → effH l h k = effH l h' k
  | [], hn => by simp at hn
  | (k', c) :: l, hn => by
    simp only [effH]
    split
    · rfl
    · rename_i hne
      refine effH_in ?_
      simpa [hne] using hn
theorem app_env {s : FS} {dst : Option Nat} {r : Res} {t : Nat} : (s.app dst r).env t = if dst = some t then r.pv else s.env t := by
  cases dst with
  | none => simp [FS.app, FS.put]
  | some d =>
    simp only [FS.app, FS.put, Option.some.injEq]
    by_cases h : t = d
    · subst h; simp
    · rw [if_neg h, if_neg (fun e => h e.symm)]
theorem app_heap {s : FS} {dst : Option Nat} {r : Res} {k : Nat} : (s.app dst r).heap k = effH r.eff s.heap k := by
  cases dst <;> rfl
theorem fold_env (its : List It) (t : Nat) : ∀ (l : List Nat) (s : FS), (l.foldl (apI its) s).env t = ((l.filter (writesT its t)).foldl (apI its) s).env t := by
  have key : ∀ (l : List Nat) (s s' : FS), s.env t = s'.env t → (l.foldl (apI its) s).env t = ((l.filter (writesT its t)).foldl (apI its) s').env t := by
    intro l
    induction l with
    | nil => intro s s' h; exact h
    | cons i l ih =>
      intro s s' h
      rw [List.foldl_cons, List.filter_cons]
      by_cases hw : writesT its t i = true
      · rw [if_pos hw, List.foldl_cons]
        refine ih _ _ ?_
        unfold apI
        unfold writesT at hw
        split <;> rename_i hi <;> rw [hi] at hw
        · rw [app_env, app_env, if_pos (by simpa using hw), if_pos (by simpa using hw)]
        · cases hw
      · rw [if_neg hw]
        refine ih _ _ ?_
        unfold apI
        unfold writesT at hw
        split <;> rename_i hi <;> rw [hi] at hw
        · rw [app_env, if_neg (by simpa using hw), h]
        · exact h
  intro l s
  exact key l s s rfl
theorem fold_heap (its : List It) (k : Nat) : ∀ (l : List Nat) (s : FS), (l.foldl (apI its) s).heap k = ((l.filter (writesK its k)).foldl (apI its) s).heap k := by
  have key : ∀ (l : List Nat) (s s' : FS), s.heap k = s'.heap k → (l.foldl (apI its) s).heap k = ((l.filter (writesK its k)).foldl (apI its) s').heap k := by
    intro l
    induction l with
    | nil => intro s s' h; exact h
    | cons i l ih =>
      intro s s' h
      rw [List.foldl_cons, List.filter_cons]
      by_cases hw : writesK its k i = true
      · rw [if_pos hw, List.foldl_cons]
        refine ih _ _ ?_
        unfold apI
        unfold writesK at hw
        split <;> rename_i hi <;> rw [hi] at hw
        · rw [app_heap, app_heap, effH_in hw]
        · cases hw
      · rw [if_neg hw]
        refine ih _ _ ?_
        unfold apI
        unfold writesK at hw
        split <;> rename_i hi <;> rw [hi] at hw
        · rw [app_heap, effH_ne (by simpa using hw), h]
        · exact h
  intro l s
  exact key l s s rfl
theorem run_take (s : FS) (its : List It) : ∀ i, i ≤ its.length → runS s (its.take i) = (List.range i).foldl (apI its) s
  | 0, _ => rfl
  | i + 1, h => by
    rw [List.range_succ, List.foldl_append, ← run_take s its i (by omega)]
    have hi : its[i]? = some its[i] := List.getElem?_eq_getElem (by omega)
    simp only [List.foldl_cons, List.foldl_nil, apI, hi, runS]
    rw [List.take_succ_eq_append_getElem (by omega), List.foldl_append]
    rfl
theorem filter_cut {n i : Nat} (hi : i ≤ n) {p q : Nat → Bool} (h1 : ∀ j, j < i → p j = q j) (h2 : ∀ j, i ≤ j → j < n → p j = false) : (List.range n).filter p = (List.range i).filter q := by
  obtain ⟨m, rfl⟩ : ∃ m, n = i + m := ⟨n - i, by omega⟩
  rw [List.range_add, List.filter_append]
  have e1 : (List.range i).filter p = (List.range i).filter q := List.filter_congr fun j hj => h1 j (List.mem_range.1 hj)
  have e2 : (List.map (fun x => i + x) (List.range m)).filter p = [] := by
    rw [List.filter_eq_nil_iff]
    intro j hj
    obtain ⟨x, hx, rfl⟩ := List.mem_map.1 hj
    have := List.mem_range.1 hx
    rw [h2 _ (by omega) (by omega)]
    simp
  rw [e1, e2, List.append_nil]
end Go.Proofs.Ytflbpkgnadjokaa
namespace Go.Proofs.Ytflbpkgnadjokaa
open Go Go.RowKit
def smOf (its : List It) : List (List Nat × List Nat) := its.map fun it => (it.res.eff.map (·.1), it.res.touch)
/-- Edges lead back. -/
def edgesB (ops : Array Oper) : Bool := (List.range ops.size).all fun i => ((ops[i]?).map fun o => o.after.toList.all fun e => !Region.binds .any e || decide (e.on < i)).getD true
section
variable {X : Cfg} {ops : Array Oper} {s : FS} {its : List It}
structure Plan (X : Cfg) (ops : Array Oper) (s : FS) (its : List It) : Prop where
  len : its.length = ops.size
  at_ : ∀ (j : Nat) (it : It), its[j]? = some it → ops[j]? = some it.o ∧ ItOK X ops (runS s (its.take j)) it
  ind : ∀ (i j : Nat) (x y : It), i < j → its[i]? = some x → its[j]? = some y → ((ancL ops ops.size).getD j 0).testBit i = true ∨ noConf ops x.o y.o (x.res.eff.map (·.1)) (y.res.eff.map (·.1)) x.res.touch y.res.touch = true
  sub : ∀ (j : Nat) (it : It), its[j]? = some it → ∀ kc ∈ it.res.eff, kc.1 ∈ it.res.touch
  back : ∀ (i : Nat) (o : Oper), ops[i]? = some o → ∀ e ∈ o.after.toList, Region.binds .any e = true → e.on < i
theorem plan_of (ht : TraceOK X ops s 0 its) (hi : indepB ops (smOf its) = true) (hb : edgesB ops = true) : Plan X ops s its := by
  obtain ⟨h1, h2⟩ := trace_at its s 0 ht
  simp only [Nat.zero_add] at h1 h2
  refine ⟨h1, h2, fun i j x y hij hx hy => ?_, fun j it hj kc hkc => ?_, fun i o ho e he hbi => ?_⟩
  · have hjn : j < ops.size := by rw [← h1]; exact (List.getElem?_eq_some_iff.1 hy).1
    unfold indepB at hi
    simp only [List.all_eq_true, List.mem_range] at hi
    have := hi j hjn i hij
    rw [(h2 i x hx).1, (h2 j y hy).1] at this
    simp only [smOf, List.getD_eq_getElem?_getD, List.getElem?_map, hx, hy, Option.map_some, Option.getD_some, Bool.or_eq_true] at this
    simpa [List.getD_eq_getElem?_getD] using this
  · obtain ⟨_, h3, h4, h5⟩ := h2 j it hj
    cases hw : it.want with
    | true => exact (h4 hw).2.1 kc hkc
    | false => rw [(h5 hw).1] at hkc; simp [undefR] at hkc
  · unfold edgesB at hb
    simp only [List.all_eq_true, List.mem_range] at hb
    have := hb i (Array.getElem?_eq_some_iff.1 ho).1
    rw [ho] at this
    simp only [Option.map_some, Option.getD_some, List.all_eq_true] at this
    have := this e he
    simpa [hbi] using this
def Lof (listed : Array Bool) : Nat → Bool := fun j => listed.getD j false
theorem noConf_spec {x y : Oper} {kx ky tx ty : List Nat} (h : noConf ops x y kx ky tx ty = true) : x.apart ops y = true ∧ (∀ k ∈ kx, k ∉ ty) ∧ (∀ k ∈ ky, k ∉ tx) := by
  simp only [noConf, Bool.and_eq_true, List.all_eq_true, Bool.not_eq_true', List.contains_eq_mem, decide_eq_false_iff_not] at h
  exact ⟨h.1.1, h.1.2, h.2⟩
/-- Closed with one more that is ready. -/
theorem closed_more {L : Nat → Bool} (hc : Closed ops L) {i : Nat} {o : Oper} (ho : ops[i]? = some o) (hr : ∀ e ∈ o.after, Region.binds .any e = true → L e.on = true) : Closed ops (fun j => L j || j == i) := by
  intro j o' ho' hj e he hb
  simp only [Bool.or_eq_true, beq_iff_eq] at hj ⊢
  rcases hj with hj | hj
  · exact .inl (hc j o' ho' hj e he hb)
  · subst hj
    rw [ho] at ho'
    cases ho'
    exact .inl (hr e (by simpa using he) hb)
theorem ahead_listed {L : Nat → Bool} (hc : Closed ops L) {i j : Nat} {o : Oper} (ho : ops[i]? = some o) (hr : ∀ e ∈ o.after, Region.binds .any e = true → L e.on = true)
    (hij : j ≠ i) (hb : ((ancL ops ops.size).getD i 0).testBit j = true) : L j = true := by
  have := anc_listed (closed_more hc ho hr) ops.size i j hb (by simp)
  simpa [hij] using this
variable (hp : Plan X ops s its)
include hp
/-- Where operation i looks, the state is as in the order of the text. -/
theorem agree_env {L : Nat → Bool} (hc : Closed ops L) {i : Nat} {it : It} (hi : its[i]? = some it) (hL : L i = false) (hr : ∀ e ∈ it.o.after, Region.binds .any e = true → L e.on = true) (t : Nat) (ht : t ∈ it.o.looksAt ops) :
    (runL s its L).env t = (runS s (its.take i)).env t := by
  have hin : i < its.length := (List.getElem?_eq_some_iff.1 hi).1
  have hoi := (hp.at_ i it hi).1
  unfold runL
  rw [fold_env its t ((List.range its.length).filter L), run_take s its i (by omega), fold_env its t (List.range i), List.filter_filter]
  rw [filter_cut (i := i) (q := writesT its t) (by omega)]
  · intro j hj
    by_cases hw : writesT its t j = true
    · have hLj : L j = true := by
        unfold writesT at hw
        split at hw
        · rename_i x hx
          rcases hp.ind j i x it hj hx hi with hb | hn
          · exact ahead_listed hc hoi hr (by omega) hb
          · exact absurd ht ((Oper.apart_spec (noConf_spec hn).1).1 t (by simpa using hw))
        · cases hw
      simp [hw, hLj]
    · simp at hw
      simp [hw]
  · intro j hj hjn
    by_cases hw : writesT its t j = true
    · rcases Nat.lt_or_ge i j with hij | hij
      · cases hLj : L j with
        | false => simp
        | true =>
          unfold writesT at hw
          split at hw
          · rename_i x hx
            rcases hp.ind i j it x hij hi hx with hb | hn
            · rw [anc_listed hc ops.size j i hb hLj] at hL; cases hL
            · exact absurd ht ((Oper.apart_spec (noConf_spec hn).1).2.2 t (by simpa using hw))
          · cases hw
      · obtain rfl : j = i := by omega
        simp [hL]
    · simp at hw
      simp [hw]
theorem agree_heap {L : Nat → Bool} (hc : Closed ops L) {i : Nat} {it : It} (hi : its[i]? = some it) (hL : L i = false) (hr : ∀ e ∈ it.o.after, Region.binds .any e = true → L e.on = true) (k : Nat) (ht : k ∈ it.res.touch) :
    (runL s its L).heap k = (runS s (its.take i)).heap k := by
  have hin : i < its.length := (List.getElem?_eq_some_iff.1 hi).1
  have hoi := (hp.at_ i it hi).1
  unfold runL
  rw [fold_heap its k ((List.range its.length).filter L), run_take s its i (by omega), fold_heap its k (List.range i), List.filter_filter]
  rw [filter_cut (i := i) (q := writesK its k) (by omega)]
  · intro j hj
    by_cases hw : writesK its k j = true
    · have hLj : L j = true := by
        unfold writesK at hw
        split at hw
        · rename_i x hx
          rcases hp.ind j i x it hj hx hi with hb | hn
          · exact ahead_listed hc hoi hr (by omega) hb
          · exact absurd ht ((noConf_spec hn).2.1 k (by simpa using hw))
        · cases hw
      simp [hw, hLj]
    · simp at hw
      simp [hw]
  · intro j hj hjn
    by_cases hw : writesK its k j = true
    · rcases Nat.lt_or_ge i j with hij | hij
      · cases hLj : L j with
        | false => simp
        | true =>
          unfold writesK at hw
          split at hw
          · rename_i x hx
            rcases hp.ind i j it x hij hi hx with hb | hn
            · rw [anc_listed hc ops.size j i hb hLj] at hL; cases hL
            · exact absurd ht ((noConf_spec hn).2.2 k (by simpa using hw))
          · cases hw
      · obtain rfl : j = i := by omega
        simp [hL]
    · simp at hw
      simp [hw]
theorem run_more {L : Nat → Bool} (hc : Closed ops L) {i : Nat} {it : It} (hi : its[i]? = some it) (hL : L i = false) :
    runL s its (fun j => L j || j == i) = (runL s its L).app it.o.dst it.res := by
  have hin : i < its.length := (List.getElem?_eq_some_iff.1 hi).1
  have late : ∀ (j : Nat) (x : It), i < j → its[j]? = some x → L j = true → noConf ops it.o x.o (it.res.eff.map (·.1)) (x.res.eff.map (·.1)) it.res.touch x.res.touch = true := by
    intro j x hij hx hLj
    rcases hp.ind i j it x hij hi hx with hb | hn
    · rw [anc_listed hc ops.size j i hb hLj] at hL; cases hL
    · exact hn
  have henv : ∀ t, (runL s its (fun j => L j || j == i)).env t = ((runL s its L).app it.o.dst it.res).env t := by
    intro t
    rw [app_env]
    unfold runL
    rw [fold_env, List.filter_filter]
    by_cases hw : it.o.dst = some t
    · rw [if_pos hw]
      rw [filter_cut (i := i + 1) (q := fun j => writesT its t j && (L j || j == i)) (by omega) (fun _ _ => rfl), List.range_succ, List.filter_append, List.foldl_append]
      · have : (fun j => writesT its t j && (L j || j == i)) i = true := by simp [writesT, hi, hw]
        rw [List.filter_cons, if_pos this, List.filter_nil, List.foldl_cons, List.foldl_nil]
        simp only [apI, hi]
        rw [app_env, if_pos hw]
      · intro j hj hjn
        cases hLj : L j with
        | false =>
          have hji : (j == i) = false := by rw [beq_eq_false_iff_ne]; omega
          simp only [hji, hLj, Bool.or_self, Bool.and_false]
        | true =>
          cases hx : its[j]? with
          | none => simp [writesT, hx]
          | some x =>
            have h2 := (Oper.apart_spec (noConf_spec (late j x (by omega) hx hLj)).1).2.1 t hw
            simp [writesT, hx, h2]
    · rw [if_neg hw, fold_env its t ((List.range its.length).filter L), List.filter_filter]
      rw [List.filter_congr (p := fun j => writesT its t j && (L j || j == i)) (q := fun j => writesT its t j && L j)]
      intro j _
      by_cases hji : j = i
      · subst hji
        simp [writesT, hi, hw]
      · have hji2 : (j == i) = false := by rw [beq_eq_false_iff_ne]; exact hji
        simp only [hji2, Bool.or_false]
  have hheap : ∀ k, (runL s its (fun j => L j || j == i)).heap k = ((runL s its L).app it.o.dst it.res).heap k := by
    intro k
    rw [app_heap]
    unfold runL
    rw [fold_heap, List.filter_filter]
    by_cases hw : (it.res.eff.map (·.1)).contains k = true
    · rw [filter_cut (i := i + 1) (q := fun j => writesK its k j && (L j || j == i)) (by omega) (fun _ _ => rfl), List.range_succ, List.filter_append, List.foldl_append]
      · have : (fun j => writesK its k j && (L j || j == i)) i = true := by
          simp only [writesK, hi, hw]
          simp
        rw [List.filter_cons, if_pos this, List.filter_nil, List.foldl_cons, List.foldl_nil]
        simp only [apI, hi]
        rw [app_heap]
        exact effH_in hw
      · intro j hj hjn
        cases hLj : L j with
        | false =>
          have hji : (j == i) = false := by rw [beq_eq_false_iff_ne]; omega
          simp only [hji, hLj, Bool.or_self, Bool.and_false]
        | true =>
          cases hx : its[j]? with
          | none => simp [writesK, hx]
          | some x =>
            have h2 := (noConf_spec (late j x (by omega) hx hLj)).2.1 k (by simpa using hw)
            have h3 : (x.res.eff.map (·.1)).contains k = false := by
              cases hcx : (x.res.eff.map (·.1)).contains k with
              | false => rfl
              | true =>
                obtain ⟨kc, h4, h5⟩ := List.mem_map.1 (by simpa using hcx : k ∈ x.res.eff.map (·.1))
                exact absurd (h5 ▸ hp.sub j x hx kc h4) h2
            simp only [writesK, hx, h3, Bool.false_and]
    · rw [effH_ne (by simpa using hw), fold_heap its k ((List.range its.length).filter L), List.filter_filter]
      rw [List.filter_congr (p := fun j => writesK its k j && (L j || j == i)) (q := fun j => writesK its k j && L j)]
      intro j _
      by_cases hji : j = i
      · subst hji
        have : writesK its k j = false := by simp only [writesK, hi]; simpa using hw
        simp [this]
      · have hji2 : (j == i) = false := by rw [beq_eq_false_iff_ne]; exact hji
        simp only [hji2, Bool.or_false]
  generalize e1 : runL s its (fun j => L j || j == i) = x at *
  generalize e2 : (runL s its L).app it.o.dst it.res = y at *
  cases x; cases y
  simp only [FS.mk.injEq]
  exact ⟨funext henv, funext hheap⟩
theorem all_listed {listed : Array Bool} (hs : listed.size = ops.size) (hr : Region.ready .any ops listed = []) : ∀ j, j < ops.size → Lof listed j = true := by
  intro j
  induction j using Nat.strongRecOn with
  | _ j ih =>
    intro hj
    cases hl : Lof listed j with
    | true => rfl
    | false =>
      obtain ⟨o, ho⟩ : ∃ o, ops[j]? = some o := ⟨ops[j], Array.getElem?_eq_getElem hj⟩
      have : j ∈ Region.ready .any ops listed := by
        rw [mem_ready]
        refine ⟨?_, o, ho, fun e he hb => ?_⟩
        · unfold Lof at hl
          rw [Array.getD_eq_getD_getElem?, Array.getElem?_eq_getElem (by omega)] at hl ⊢
          simpa using hl
        · have hlt := hp.back j o ho e (by simpa using he) hb
          exact ih e.on hlt (by omega)
      rw [hr] at this
      cases this
theorem draw_any {Q : Exit → Act → World → Prop} (hQ : ∀ a' w', Real X (runS s its) a' w' → Q .normal a' w') : ∀ (fuel : Nat) (listed : Array Bool) (a : Act) (w : World), listed.size = ops.size → Closed ops (Lof listed) →
    Real X (runL s its (Lof listed)) a w → ((List.range ops.size).filter fun j => !Lof listed j).length ≤ fuel → wpAny X.P .any ops Q fuel listed a w := by
  have fin : ∀ (listed : Array Bool) (a : Act) (w : World), listed.size = ops.size → Real X (runL s its (Lof listed)) a w → Region.ready .any ops listed = [] → Q .normal a w := by
    intro listed a w hs hr he
    have hall := all_listed hp hs he
    have : runL s its (Lof listed) = runS s its := by
      have h1 := run_take s its its.length (Nat.le_refl _)
      rw [List.take_length] at h1
      rw [h1]
      unfold runL
      congr 1
      rw [List.filter_eq_self]
      intro j hj
      exact hall j (by rw [← hp.len]; exact List.mem_range.1 hj)
    rw [this] at hr
    exact hQ a w hr
  intro fuel
  induction fuel with
  | zero =>
    intro listed a w hs hc hr hn
    have hall : ∀ j, j < ops.size → Lof listed j = true := by
      intro j hj
      have h0 := List.eq_nil_of_length_eq_zero (Nat.le_zero.1 hn)
      rw [List.filter_eq_nil_iff] at h0
      have := h0 j (List.mem_range.2 hj)
      simpa using this
    have he : Region.ready .any ops listed = [] := by
      rw [List.eq_nil_iff_forall_not_mem]
      intro j hj
      rw [mem_ready] at hj
      obtain ⟨h1, o, ho, _⟩ := hj
      have hlt := (Array.getElem?_eq_some_iff.1 ho).1
      have := hall j hlt
      unfold Lof at this
      rw [Array.getD_eq_getD_getElem?, Array.getElem?_eq_getElem (by omega)] at this h1
      simp at this h1
      rw [this] at h1
      cases h1
    exact ⟨he, fin listed a w hs hr he⟩
  | succ fuel ih =>
    intro listed a w hs hc hr hn
    refine ⟨fin listed a w hs hr, fun i hi => ?_⟩
    rw [mem_ready] at hi
    obtain ⟨h1, o, ho, hall⟩ := hi
    have hlt := (Array.getElem?_eq_some_iff.1 ho).1
    have hL : Lof listed i = false := by
      unfold Lof
      rw [Array.getD_eq_getD_getElem?, Array.getElem?_eq_getElem (by omega)] at h1 ⊢
      simpa using h1
    obtain ⟨it, hit⟩ : ∃ it, its[i]? = some it := ⟨its[i]'(by rw [hp.len]; exact hlt), List.getElem?_eq_getElem _⟩
    obtain ⟨hoi, hok⟩ := hp.at_ i it hit
    rw [ho] at hoi
    cases hoi
    have hLn : Lof (listed.setIfInBounds i true) = fun j => Lof listed j || j == i := by
      funext j
      unfold Lof
      by_cases hji : j = i
      · subst hji
        simp [Array.getD_eq_getD_getElem?, hs, hlt]
      · rw [getD_set_ne false (fun e => hji e.symm)]
        simp [hji]
    refine it_run ho hok (agree_env hp hc hit hL hall) (agree_heap hp hc hit hL hall) hr fun v w' hr' => ?_
    refine ih _ _ _ (by simpa using hs) ?_ ?_ ?_
    · rw [hLn]; exact closed_more hc ho hall
    · rw [hLn, run_more hp hc hit hL]; exact hr'
    · rw [hLn]
      have hsplit : ((List.range ops.size).filter fun j => !(Lof listed j || j == i)).length < ((List.range ops.size).filter fun j => !Lof listed j).length := by
        have hsub : ((List.range ops.size).filter fun j => !(Lof listed j || j == i)) = ((List.range ops.size).filter fun j => !Lof listed j).filter (fun j => !(j == i)) := by
          rw [List.filter_filter]
          exact List.filter_congr fun j _ => by cases Lof listed j <;> simp
        rw [hsub]
        refine List.length_filter_lt_length_iff_exists.2 ⟨i, ?_, by simp⟩
        rw [List.mem_filter]
        exact ⟨List.mem_range.2 hlt, by simp [hL]⟩
      show ((List.range ops.size).filter fun j => !(Lof listed j || j == i)).length ≤ fuel
      omega
end
theorem lof_false (n j : Nat) : Lof (Array.replicate n false) j = false := by
  unfold Lof
  rw [Array.getD_eq_getD_getElem?, Array.getElem?_replicate]
  split <;> rfl
/-- A region, drawn or not. -/
theorem region_real {X : Cfg} {ops : Array Oper} {s : FS} {its : List It} {Q : Exit → Act → World → Prop} {a : Act} {w : World} (hm : X.P.follows .mixedOrders = true) (id : Nat) (draw : Bool) (ht : TraceOK X ops s 0 its) (hd : draw = true → indepB ops (smOf its) = true ∧ edgesB ops = true)
    (hr : Real X s a w) (hQ : ∀ a' w', Real X (runS s its) a' w' → Q .normal a' w') : (Code.region id ops draw).wp X.P Q a w := by
  cases draw with
  | false =>
    refine wp_region ?_
    have h1 := (trace_at its s 0 ht).1
    have := trace_text its s 0 a w ht hr hQ
    rw [List.range_eq_range', ← h1, Nat.zero_add]
    exact this
  | true =>
    obtain ⟨hi, hb⟩ := hd rfl
    refine wp_region_any hm (draw_any (plan_of ht hi hb) hQ _ _ _ _ (by simp) ?_ ?_ ?_)
    · intro j o ho hj
      rw [lof_false] at hj
      cases hj
    · have : runL s its (Lof (Array.replicate ops.size false)) = s := by
        unfold runL
        have : (List.range its.length).filter (Lof (Array.replicate ops.size false)) = [] := by
          rw [List.filter_eq_nil_iff]
          intro j _
          simp [lof_false]
        rw [this]
        rfl
      rw [this]
      obtain ⟨c, hc⟩ := hr
      refine ⟨c, hc.size, hc.defers, hc.ext.drew, hc.fresh, hc.mu, hc.new, hc.apart, fun t => ?_, fun k => ?_⟩
      · have hk : Keep c.M w c.M { w with drawn := w.drawn + 1 } := ⟨Nat.le_refl _, fun _ _ _ => rfl, fun _ _ h => h⟩
        exact (hc.env t).keep c.le_refl hk
      · have hk : Keep c.M w c.M { w with drawn := w.drawn + 1 } := ⟨Nat.le_refl _, fun _ _ _ => rfl, fun _ _ h => h⟩
        cases hck : s.heap k with
        | none => have := hc.chunk k; rw [hck] at this; cases this with | none h1 h2 => exact .none h1 h2
        | gone => exact .gone
        | box T cells => have := hc.chunk k; rw [hck] at this; cases this with | box _ _ b vs hb hh hr h1 => exact .box T cells b vs hb hh (hr.keep c.le_refl hk) h1
        | row E sz g rows => have := hc.chunk k; rw [hck] at this; cases this with | row _ _ _ _ v xs hv hown hr hsz h1 hg => exact .row E sz g rows v xs hv hown (hr.keep hk) hsz h1 hg
    · refine Nat.le_trans (List.length_filter_le _ _) ?_
      simp
end Go.Proofs.Ytflbpkgnadjokaa
namespace Go.Proofs.Ytflbpkgnadjokaa
open Go Go.RowKit
theorem ChunkOK.keep {base k : Nat} {c c' : Cx} {w w' : World} {ch : Chunk} (h : ChunkOK base c w k ch) (hle : c.le c') (hk : Keep c.M w c'.M w') (hb : ∀ b, c.block k ch = some b → w'.heap[b]? = w.heap[b]?)
    (hbl : c'.bl k = c.bl k) (hov : c'.ov k = c.ov k) : ChunkOK base c' w' k ch := by
  cases h with
  | none h1 h2 => exact .none (by rw [hbl]; exact h1) (fun g => by rw [hov]; exact h2 g)
  | gone => exact .gone
  | box T cells b vs hbk hh hr h1 => exact .box T cells b vs (by rw [hbl]; exact hbk) (by rw [hb b hbk]; exact hh) (hr.keep hle hk) h1
  | row E sz g rows v xs hv hown hr hsz h1 hg =>
    refine .row E sz g rows v xs (by rw [hov]; exact hv) ⟨hown.1, ?_⟩ (hr.keep hk) hsz h1 (by rw [hov]; exact hg)
    rcases hown.2 with h | ⟨gb, cap, cur, e1, e2, e3, e4⟩
    · exact .inl h
    · refine .inr ⟨gb, cap, cur, e1, e2, ?_, e4⟩
      rw [hb gb (by simp [Cx.block, hv, e1, Value.ownBlock])]
      exact e3
theorem RealC.lt {X : Cfg} {s : FS} {a : Act} {w : World} {c : Cx} (h : RealC X s a w c) {b : Nat} (hb : c.M b) : b < w.heap.size := by
  rcases (h.mu b).1 hb with h0 | ⟨k, hk⟩
  · exact Nat.lt_of_lt_of_le (h.fresh b h0) h.ext.size
  · exact (h.new k b hk).2
/-- The world grows; no old block is turned. -/
theorem RealC.grow {X : Cfg} {s : FS} {a : Act} {w w' : World} {c : Cx} (h : RealC X s a w c) (hx : Ext w w') : RealC X s a w' c := by
  have hk : Keep c.M w c.M w' := Keep.ext hx fun b hb => h.lt hb
  exact ⟨h.size, h.defers, h.ext.trans (hx.mono h.ext.size), h.fresh, h.mu, fun k b hb => ⟨(h.new k b hb).1, Nat.lt_of_lt_of_le (h.new k b hb).2 hx.size⟩, h.apart, fun t => (h.env t).keep c.le_refl hk,
    fun k => (h.chunk k).keep c.le_refl hk (fun b hb => hx.block b (h.new k b hb).2) rfl rfl⟩
theorem alloc_ext (w : World) (o : Obj) : Ext w (w.alloc o) := (Below.refl _ _).alloc (Nat.le_refl _) o
theorem alloc_at (w : World) (o : Obj) : (w.alloc o).heap[w.heap.size]? = some o := by
  show (w.heap.push o)[w.heap.size]? = some o
  simp
theorem size_alloc (w : World) (o : Obj) : (w.alloc o).heap.size = w.heap.size + 1 := by
  show (w.heap.push o).size = _
  simp
theorem effH1 (k : Nat) (c : Chunk) (h : Nat → Chunk) : effH [(k, c)] h = fun k' => if k' = k then c else h k' := rfl
/-- A chunk that lies in a block of its own comes. -/
theorem RealC.new_chunk {X : Cfg} {s : FS} {a : Act} {w w' : World} {c c' : Cx} (h : RealC X s a w c) {k : Nat} {ch : Chunk} (hk : s.heap k = .none) (hx : Ext w w') (hle : c.le c') (hbl : ∀ k', k' ≠ k → c'.bl k' = c.bl k') (hov : ∀ k', k' ≠ k → c'.ov k' = c.ov k')
    (hM : ∀ b, c'.M b ↔ c.M b ∨ c'.block k ch = some b) (hfresh : ∀ b, c'.block k ch = some b → w.heap.size ≤ b ∧ b < w'.heap.size)
    (hch : Keep c.M w c'.M w' → ChunkOK X.w0.heap.size c' w' k ch) : RealC X { s with heap := effH [(k, ch)] s.heap } a w' c' := by
  have hkp : Keep c.M w c'.M w' := ⟨hx.size, fun b hb _ => hx.block b hb, fun b hb hm => by
    rcases (hM b).1 hm with h1 | h1
    · exact h1
    · have := (hfresh b h1).1; omega⟩
  have hblk : ∀ k' ch', k' ≠ k → c'.block k' ch' = c.block k' ch' := by
    intro k' ch' hne
    cases ch' <;> simp [Cx.block, hbl k' hne, hov k' hne]
  have hat : ∀ k', effH [(k, ch)] s.heap k' = if k' = k then ch else s.heap k' := fun _ => rfl
  refine ⟨h.size, h.defers, h.ext.trans (hx.mono h.ext.size), h.fresh, fun b => ?_, fun k' b hb => ?_, fun k' k'' b hb hb' => ?_, fun t => (h.env t).keep hle hkp, fun k' => ?_⟩
  · rw [hM b, h.mu b]
    constructor
    · rintro ((h0 | ⟨k', h1⟩) | h1)
      · exact .inl h0
      · refine .inr ⟨k', ?_⟩
        have hne : k' ≠ k := fun e => by subst e; rw [hk] at h1; simp [Cx.block] at h1
        show c'.block k' (effH [(k, ch)] s.heap k') = _
        rw [hat, if_neg hne, hblk k' _ hne]; exact h1
      · refine .inr ⟨k, ?_⟩
        show c'.block k (effH [(k, ch)] s.heap k) = _
        rw [hat, if_pos rfl]; exact h1
    · rintro (h0 | ⟨k', h1⟩)
      · exact .inl (.inl h0)
      · simp only [hat] at h1
        by_cases hne : k' = k
        · subst hne; rw [if_pos rfl] at h1; exact .inr h1
        · rw [if_neg hne, hblk k' _ hne] at h1; exact .inl (.inr ⟨k', h1⟩)
  · simp only [hat] at hb
    by_cases hne : k' = k
    · subst hne; rw [if_pos rfl] at hb
      exact ⟨Nat.le_trans h.ext.size (hfresh b hb).1, (hfresh b hb).2⟩
    · rw [if_neg hne, hblk k' _ hne] at hb
      exact ⟨(h.new k' b hb).1, Nat.lt_of_lt_of_le (h.new k' b hb).2 hx.size⟩
  · simp only [hat] at hb hb'
    by_cases h1 : k' = k
    · by_cases h2 : k'' = k
      · omega
      · subst h1
        rw [if_pos rfl] at hb
        rw [if_neg h2, hblk k'' _ h2] at hb'
        have := (hfresh b hb).1
        have := (h.new k'' b hb').2
        omega
    · by_cases h2 : k'' = k
      · subst h2
        rw [if_pos rfl] at hb'
        rw [if_neg h1, hblk k' _ h1] at hb
        have := (hfresh b hb').1
        have := (h.new k' b hb).2
        omega
      · rw [if_neg h1, hblk k' _ h1] at hb
        rw [if_neg h2, hblk k'' _ h2] at hb'
        exact h.apart k' k'' b hb hb'
  · simp only [hat]
    by_cases hne : k' = k
    · subst hne; rw [if_pos rfl]; exact hch hkp
    · rw [if_neg hne]
      exact (h.chunk k').keep hle hkp (fun b hb => hx.block b (h.new k' b hb).2) (hbl k' hne) (hov k' hne)
/-- A box is made. -/
theorem RealC.new_box {X : Cfg} {s : FS} {a : Act} {w : World} {c : Cx} (h : RealC X s a w c) {k : Nat} (hk : s.heap k = .none) (T : Nat) (cells : List PV) (vs : List Value) (hr : RepPs c w cells vs) (h1 : ∀ d ∈ cells, d.one = true) :
    ∃ c', RealC X { s with heap := effH [(k, .box T cells)] s.heap } a (w.alloc (.cells vs.toArray T)) c' ∧ RepP c' (w.alloc (.cells vs.toArray T)) (.ptr k 0) (.pointer (some ⟨w.heap.size, 0, none⟩)) := by
  have hck := h.chunk k
  rw [hk] at hck
  cases hck with
  | none hb0 ho0 =>
    have hx := alloc_ext w (.cells vs.toArray T)
    have hbk : (fun k' => if k' = k then some w.heap.size else c.bl k') k = some w.heap.size := if_pos rfl
    refine ⟨{ M := fun b => c.M b ∨ b = w.heap.size, bl := fun k' => if k' = k then some w.heap.size else c.bl k', ov := c.ov }, ?_, .ptr k 0 _ hbk⟩
    have hle : c.le { M := fun b => c.M b ∨ b = w.heap.size, bl := fun k' => if k' = k then some w.heap.size else c.bl k', ov := c.ov } :=
      ⟨fun k' b hb => by
        have : k' ≠ k := fun e => by subst e; rw [hb0] at hb; cases hb
        show (if k' = k then some w.heap.size else c.bl k') = some b
        rw [if_neg this]; exact hb, fun _ _ _ h => h⟩
    refine h.new_chunk hk hx hle (fun k' hne => if_neg hne) (fun _ _ => rfl) (fun b => ?_) (fun b hb => ?_) (fun hkp => ?_)
    · simp only [Cx.block, if_true, Option.some.injEq]
      exact ⟨fun h => h.imp id Eq.symm, fun h => h.imp id Eq.symm⟩
    · simp only [Cx.block, if_true, Option.some.injEq] at hb
      rw [size_alloc]; omega
    · exact .box T cells w.heap.size vs hbk (alloc_at w _) (hr.keep hle hkp) h1
/-- A row is made. -/
theorem RealC.new_row {X : Cfg} {s : FS} {a : Act} {w w' : World} {c : Cx} (h : RealC X s a w c) {k : Nat} (hk : s.heap k = .none) (E sz : Nat) (rows : List (List D)) (v : Value) (xs : List Value) (hx : Ext w w')
    (hown : w'.ownsRow w.heap.size E sz v rows.length xs) (hr : RepDs c.M w rows.flatten xs) (hsz : ∀ r ∈ rows, r.length = sz) (h1 : ∀ r ∈ rows, ∀ d ∈ r, d.one = true) :
    ∃ c', RealC X { s with heap := effH [(k, .row E sz 0 rows)] s.heap } a w' c' ∧ RepP c' w' (.own k 0) v := by
  have hck := h.chunk k
  rw [hk] at hck
  have hv1 : v.oneCell' = true := by
    rcases hown.2 with ⟨e, _⟩ | ⟨_, _, _, e, _⟩ <;> rw [e] <;> rfl
  cases hck with
  | none hb0 ho0 =>
    have hok : (fun k' g => if k' = k ∧ g = 0 then some v else c.ov k' g) k 0 = some v := if_pos ⟨rfl, rfl⟩
    have hle : c.le { M := fun b => c.M b ∨ v.ownBlock = some b, bl := c.bl, ov := fun k' g => if k' = k ∧ g = 0 then some v else c.ov k' g } :=
      ⟨fun _ _ h => h, fun k' g u hu => by
        have : k' ≠ k := fun e => by subst e; rw [ho0] at hu; cases hu
        show (if k' = k ∧ g = 0 then some v else c.ov k' g) = some u
        rw [if_neg (fun e => this e.1)]; exact hu⟩
    have hblk : ∀ b, (Cx.block { M := fun b => c.M b ∨ v.ownBlock = some b, bl := c.bl, ov := fun k' g => if k' = k ∧ g = 0 then some v else c.ov k' g } k (.row E sz 0 rows) = some b) ↔ v.ownBlock = some b := by
      intro b
      simp [Cx.block]
    refine ⟨{ M := fun b => c.M b ∨ v.ownBlock = some b, bl := c.bl, ov := fun k' g => if k' = k ∧ g = 0 then some v else c.ov k' g }, ?_, .own k 0 v hok hv1⟩
    refine h.new_chunk hk hx hle (fun _ _ => rfl) (fun k' hne => ?_) (fun b => ?_) (fun b hb => ?_) (fun hkp => ?_)
    · funext g
      exact if_neg (fun e => hne e.1)
    · rw [hblk b]
    · rw [hblk b] at hb
      exact hown.lt b hb
    · refine .row E sz 0 rows v xs hok ⟨hown.1, ?_⟩ (hr.keep hkp) hsz h1 (fun g' hg => ?_)
      · rcases hown.2 with h2 | ⟨gb, cap, cur, e1, e2, e3⟩
        · exact .inl h2
        · exact .inr ⟨gb, cap, cur, e1, Nat.le_trans h.ext.size e2, e3⟩
      · show (if k = k ∧ g' = 0 then some v else c.ov k g') = none
        rw [if_neg (by omega)]; exact ho0 g'
/-- A chunk is turned: its block alone is written, or left for a new one. -/
theorem RealC.turn {X : Cfg} {s : FS} {a : Act} {w w' : World} {c c' : Cx} (h : RealC X s a w c) {k : Nat} {ch : Chunk} (hle : c.le c') (hbl : ∀ k', k' ≠ k → c'.bl k' = c.bl k') (hov : ∀ k', k' ≠ k → c'.ov k' = c.ov k')
    (hos : w'.os = w.os) (ht : w'.tape = w.tape) (ho : w'.output = w.output) (hs : w.heap.size ≤ w'.heap.size) (hblock : ∀ b, b < w.heap.size → c.block k (s.heap k) ≠ some b → w'.heap[b]? = w.heap[b]?)
    (hM : ∀ b, c'.M b ↔ (c.M b ∧ c.block k (s.heap k) ≠ some b) ∨ c'.block k ch = some b)
    (hfresh : ∀ b, c'.block k ch = some b → (c.block k (s.heap k) = some b ∨ w.heap.size ≤ b) ∧ b < w'.heap.size)
    (hch : Keep c.M w c'.M w' → ChunkOK X.w0.heap.size c' w' k ch) : RealC X { s with heap := effH [(k, ch)] s.heap } a w' c' := by
  have own : ∀ b, c.block k (s.heap k) = some b → c.M b := fun b hb => (h.mu b).2 (.inr ⟨k, hb⟩)
  have hkp : Keep c.M w c'.M w' := ⟨hs, fun b hb hm => hblock b hb (fun e => hm (own b e)), fun b hb hm => by
    rcases (hM b).1 hm with h1 | h1
    · exact h1.1
    · rcases (hfresh b h1).1 with h2 | h2
      · exact own b h2
      · omega⟩
  have hblk : ∀ k' ch', k' ≠ k → c'.block k' ch' = c.block k' ch' := by
    intro k' ch' hne
    cases ch' <;> simp [Cx.block, hbl k' hne, hov k' hne]
  have hat : ∀ k', effH [(k, ch)] s.heap k' = if k' = k then ch else s.heap k' := fun _ => rfl
  have oldNe : ∀ k' b, k' ≠ k → c.block k' (s.heap k') = some b → c.block k (s.heap k) ≠ some b := fun k' b hne hb e => hne (h.apart k' k b hb e)
  refine ⟨h.size, h.defers, ⟨hos.trans h.ext.os, ht.trans h.ext.tape, ho.trans h.ext.output, Nat.le_trans h.ext.size hs, fun b hb => ?_⟩, h.fresh, fun b => ?_, fun k' b hb => ?_, fun k' k'' b hb hb' => ?_, fun t => (h.env t).keep hle hkp, fun k' => ?_⟩
  · refine (hblock b (Nat.lt_of_lt_of_le hb h.ext.size) (fun e => ?_)).trans (h.ext.block b hb)
    have := (h.new k b e).1
    omega
  · rw [hM b]
    constructor
    · rintro (⟨h0, hne⟩ | h1)
      · rcases (h.mu b).1 h0 with h0 | ⟨k', h1⟩
        · exact .inl h0
        · refine .inr ⟨k', ?_⟩
          have hkk : k' ≠ k := fun e => by subst e; exact hne h1
          show c'.block k' (effH [(k, ch)] s.heap k') = _
          rw [hat, if_neg hkk, hblk k' _ hkk]; exact h1
      · refine .inr ⟨k, ?_⟩
        show c'.block k (effH [(k, ch)] s.heap k) = _
        rw [hat, if_pos rfl]; exact h1
    · rintro (h0 | ⟨k', h1⟩)
      · refine .inl ⟨(h.mu b).2 (.inl h0), fun e => ?_⟩
        have := (h.new k b e).1
        have := h.fresh b h0
        omega
      · simp only [hat] at h1
        by_cases hne : k' = k
        · subst hne; rw [if_pos rfl] at h1; exact .inr h1
        · rw [if_neg hne, hblk k' _ hne] at h1
          exact .inl ⟨(h.mu b).2 (.inr ⟨k', h1⟩), oldNe k' b hne h1⟩
  · simp only [hat] at hb
    by_cases hne : k' = k
    · subst hne; rw [if_pos rfl] at hb
      refine ⟨?_, (hfresh b hb).2⟩
      rcases (hfresh b hb).1 with h2 | h2
      · exact (h.new _ b h2).1
      · exact Nat.le_trans h.ext.size h2
    · rw [if_neg hne, hblk k' _ hne] at hb
      exact ⟨(h.new k' b hb).1, Nat.lt_of_lt_of_le (h.new k' b hb).2 hs⟩
  · simp only [hat] at hb hb'
    by_cases h1 : k' = k
    · by_cases h2 : k'' = k
      · omega
      · subst h1
        rw [if_pos rfl] at hb
        rw [if_neg h2, hblk k'' _ h2] at hb'
        rcases (hfresh b hb).1 with h3 | h3
        · exact absurd h3 (oldNe k'' b h2 hb')
        · have := (h.new k'' b hb').2; omega
    · by_cases h2 : k'' = k
      · subst h2
        rw [if_pos rfl] at hb'
        rw [if_neg h1, hblk k' _ h1] at hb
        rcases (hfresh b hb').1 with h3 | h3
        · exact absurd h3 (oldNe k' b h1 hb)
        · have := (h.new k' b hb).2; omega
      · rw [if_neg h1, hblk k' _ h1] at hb
        rw [if_neg h2, hblk k'' _ h2] at hb'
        exact h.apart k' k'' b hb hb'
  · simp only [hat]
    by_cases hne : k' = k
    · subst hne; rw [if_pos rfl]; exact hch hkp
    · rw [if_neg hne]
      exact (h.chunk k').keep hle hkp (fun b hb => hblock b (h.new k' b hb).2 (oldNe k' b hne hb)) (hbl k' hne) (hov k' hne)
/-- A box's cells are turned. -/
theorem RealC.set_box {X : Cfg} {s : FS} {a : Act} {w : World} {c : Cx} (h : RealC X s a w c) {k T b : Nat} {cells cells' : List PV} {vs vs' : List Value} (hk : s.heap k = .box T cells) (hb : c.bl k = some b) (hh : w.heap[b]? = some (.cells vs.toArray T (0, 0)))
    (hr : RepPs c w cells' vs') (h1 : ∀ d ∈ cells', d.one = true) : RealC X { s with heap := effH [(k, .box T cells')] s.heap } a (w.setRow b vs'.toArray) c := by
  have hsz : (w.setRow b vs'.toArray).heap.size = w.heap.size := by simp [World.setRow]
  have hne : ∀ b', b' ≠ b → (w.setRow b vs'.toArray).heap[b']? = w.heap[b']? := by
    intro b' hb'
    simp only [World.setRow, Array.getElem?_modify]
    rw [if_neg (fun e => hb' e.symm)]
  have hblk : c.block k (s.heap k) = some b := by rw [hk]; exact hb
  refine h.turn c.le_refl (fun _ _ => rfl) (fun _ _ => rfl) rfl rfl rfl (by omega) (fun b' _ hb' => hne b' (fun e => hb' (by rw [e]; exact hblk))) (fun b' => ?_) (fun b' hb' => ?_) (fun hkp => ?_)
  · show c.M b' ↔ (c.M b' ∧ c.block k (s.heap k) ≠ some b') ∨ c.bl k = some b'
    rw [hblk, hb]
    constructor
    · intro hm
      by_cases e : b = b'
      · exact .inr (by rw [e])
      · exact .inl ⟨hm, fun h => e (Option.some.inj h)⟩
    · rintro (⟨hm, _⟩ | e)
      · exact hm
      · exact (h.mu b').2 (.inr ⟨k, by rw [hblk]; exact e⟩)
  · have e : c.bl k = some b' := hb'
    refine ⟨.inl (by rw [hblk, ← hb]; exact e), ?_⟩
    rw [hsz]
    exact (h.new k b' (by rw [hblk, ← hb]; exact e)).2
  · exact .box T cells' b vs' hb (setRow_heap w b _ _ T _ hh) (hr.keep c.le_refl hkp) h1
/-- An own row has grown. -/
theorem RealC.set_row {X : Cfg} {s : FS} {a : Act} {w w' : World} {c : Cx} (h : RealC X s a w c) {k E sz g : Nat} {rows rows' : List (List D)} {v v' : Value} {xs' : List Value} (hk : s.heap k = .row E sz g rows) (hv : c.ov k g = some v)
    (hg : w.grownBy w' v.ownBlock) (hown : w'.ownsRow X.w0.heap.size E sz v' rows'.length xs') (hnew : v'.ownBlock = v.ownBlock ∨ ∀ b, v'.ownBlock = some b → w.heap.size ≤ b) (hr : RepDs c.M w rows'.flatten xs') (hsz : ∀ r ∈ rows', r.length = sz)
    (h1 : ∀ r ∈ rows', ∀ d ∈ r, d.one = true) :
    ∃ c', RealC X { s with heap := effH [(k, .row E sz (g + 1) rows')] s.heap } a w' c' ∧ RepP c' w' (.own k (g + 1)) v' := by
  have hck := h.chunk k
  rw [hk] at hck
  have hv1 : v'.oneCell' = true := by
    rcases hown.2 with ⟨e, _⟩ | ⟨_, _, _, e, _⟩ <;> rw [e] <;> rfl
  cases hck with
  | row _ _ _ _ u xs hu howno hro hszo h1o hgo =>
    rw [hv] at hu
    cases hu
    have hblk : c.block k (s.heap k) = v.ownBlock := by rw [hk]; simp [Cx.block, hv]
    have hok : (fun k' g' => if k' = k ∧ g' = g + 1 then some v' else c.ov k' g') k (g + 1) = some v' := if_pos ⟨rfl, rfl⟩
    have hle : c.le { M := fun b => (c.M b ∧ v.ownBlock ≠ some b) ∨ v'.ownBlock = some b, bl := c.bl, ov := fun k' g' => if k' = k ∧ g' = g + 1 then some v' else c.ov k' g' } :=
      ⟨fun _ _ h => h, fun k' g' u hu => by
        have : ¬ (k' = k ∧ g' = g + 1) := by
          rintro ⟨rfl, rfl⟩
          rw [hgo (g + 1) (by omega)] at hu
          cases hu
        show (if k' = k ∧ g' = g + 1 then some v' else c.ov k' g') = some u
        rw [if_neg this]; exact hu⟩
    have hblk' : ∀ b, (Cx.block { M := fun b => (c.M b ∧ v.ownBlock ≠ some b) ∨ v'.ownBlock = some b, bl := c.bl, ov := fun k' g' => if k' = k ∧ g' = g + 1 then some v' else c.ov k' g' } k (.row E sz (g + 1) rows') = some b) ↔ v'.ownBlock = some b := by
      intro b
      simp [Cx.block]
    refine ⟨{ M := fun b => (c.M b ∧ v.ownBlock ≠ some b) ∨ v'.ownBlock = some b, bl := c.bl, ov := fun k' g' => if k' = k ∧ g' = g + 1 then some v' else c.ov k' g' }, ?_, .own k (g + 1) v' hok hv1⟩
    refine h.turn hle (fun _ _ => rfl) (fun k' hne => ?_) hg.os hg.tape hg.output hg.size (fun b hb hne => hg.block b hb (fun e => hne (by rw [hblk]; exact e.symm))) (fun b => ?_) (fun b hb => ?_) (fun hkp => ?_)
    · funext g'
      exact if_neg (fun e => hne e.1)
    · rw [hblk', hblk]
    · rw [hblk'] at hb
      refine ⟨?_, (hown.lt b hb).2⟩
      rw [hblk]
      rcases hnew with e | e
      · exact .inl (e ▸ hb)
      · exact .inr (e b hb)
    · refine .row E sz (g + 1) rows' v' xs' hok hown (hr.keep hkp) hsz h1 (fun g' hg' => ?_)
      show (if k = k ∧ g' = g + 1 then some v' else c.ov k g') = none
      rw [if_neg (by omega)]
      exact hgo g' (by omega)
end Go.Proofs.Ytflbpkgnadjokaa
namespace Go.Proofs.Ytflbpkgnadjokaa
open Go Go.RowKit
/-- What the program's type table says of a type. -/
structure TI where
  agg : Bool
  size : Nat
  bytes : Nat
  zero : List Value
  fields : List (Nat × Nat)
  elem : Option Nat
  int : Option IntKind
  kind : Nat
def placesOf (P : Program) (fs : List Field) : Option (List (Nat × Nat)) := fs.mapM fun f => (P.info? f.type).map fun i => (f.offset, i.size)
def fieldsIn (P : Program) : TypeDesc → List (Nat × Nat)
  | .struct fs => (placesOf P fs.toList).getD []
  | _ => []
def aggD : TypeDesc → Bool
  | .struct _ => true
  | .array _ _ => true
  | _ => false
def elemD : TypeDesc → Option Nat
  | .slice e => some e
  | _ => none
def intD : TypeDesc → Option IntKind
  | .int k => some k
  | _ => none
def kindD : TypeDesc → Nat
  | .bool => 1
  | .string => 2
  | .pointer _ => 3
  | .map _ _ => 4
  | _ => 0
def tcheck (P : Program) (t : Nat) : Option TI :=
  match P.info? t, P.underlying t with
  | some i, some d =>
    match i.zero with
    | some z =>
      if z.cells.all (·.oneCell') && (z.cells.size == i.size) then
        some { agg := aggD d, size := i.size, bytes := i.bytes, zero := z.cells.toList, fields := fieldsIn P d, elem := elemD d, int := intD d, kind := kindD d }
      else none
    | none => none
  | _, _ => none
structure TCk (P : Program) (t : Nat) (ti : TI) (i : TypeInfo) (d : TypeDesc) (z : Value) : Prop where
  info : P.info? t = some i
  und : P.underlying t = some d
  zero : i.zero = some z
  zcells : z.cells.toList = ti.zero
  one : ∀ x ∈ ti.zero, x.oneCell' = true
  zsize : ti.zero.length = ti.size
  size : i.size = ti.size
  bytes : i.bytes = ti.bytes
  agg : aggD d = ti.agg
  elem : elemD d = ti.elem
  int : intD d = ti.int
  kind : kindD d = ti.kind
  fields : fieldsIn P d = ti.fields
theorem tck {P : Program} {t : Nat} {ti : TI} (h : tcheck P t = some ti) : ∃ i d z, TCk P t ti i d z := by
  unfold tcheck at h
  split at h
  · rename_i i d hi hd
    split at h
    · rename_i z hz
      split at h
      · rename_i hc
        simp only [Bool.and_eq_true, beq_iff_eq] at hc
        cases h
        refine ⟨i, d, z, hi, hd, hz, rfl, fun x hx => ?_, ?_, rfl, rfl, rfl, rfl, rfl, rfl, rfl⟩
        · exact (Array.all_eq_true_iff_forall_mem.1 hc.1) x (by simpa using hx)
        · simpa using hc.2
      · cases h
    · cases h
  · cases h
theorem places_at {P : Program} {off sz : Nat} : ∀ {l : List Field} {pl : List (Nat × Nat)}, placesOf P l = some pl → ∀ {f : Nat}, pl[f]? = some (off, sz) → ∃ (g : Field) (j : TypeInfo), l[f]? = some g ∧ P.info? g.type = some j ∧ g.offset = off ∧ j.size = sz
  | [], pl, h, f, hf => by simp [placesOf] at h; subst h; simp at hf
  | g :: l, pl, h, f, hf => by
    simp only [placesOf, List.mapM_cons, Option.bind_eq_bind, Option.pure_def] at h
    cases hi : P.info? g.type with
    | none => simp [hi] at h
    | some i =>
      cases hr : l.mapM (fun f => (P.info? f.type).map fun i => (f.offset, i.size)) with
      | none => simp [hi, hr] at h
      | some rest =>
        simp [hi, hr] at h
        subst h
        cases f with
        | zero => simp at hf; exact ⟨g, i, rfl, hi, hf.1, hf.2⟩
        | succ f => simpa using places_at (l := l) hr (f := f) (by simpa using hf)
theorem TCk.field {P : Program} {t : Nat} {ti : TI} {i : TypeInfo} {d : TypeDesc} {z : Value} (h : TCk P t ti i d z) {f off sz : Nat} (hf : ti.fields[f]? = some (off, sz)) :
    ∃ (fs : Array Field) (g : Field) (j : TypeInfo), d = .struct fs ∧ placesOf P fs.toList = some ti.fields ∧ fs[f]? = some g ∧ P.info? g.type = some j ∧ g.offset = off ∧ j.size = sz := by
  have hfl := h.fields
  cases d with
  | struct fs =>
    simp only [fieldsIn] at hfl
    cases hm : placesOf P fs.toList with
    | none => rw [hm] at hfl; simp at hfl; rw [hfl] at hf; simp at hf
    | some pl =>
      rw [hm] at hfl
      simp at hfl
      subst hfl
      obtain ⟨g, j, q1, q2⟩ := places_at hm hf
      exact ⟨fs, g, j, rfl, hm, by simpa using q1, q2⟩
  | _ => simp [fieldsIn] at hfl; rw [hfl] at hf; simp at hf
def ev (s : FS) : Operand → PV
  | .tmp t => s.env t
  | .const v => .d (.v v)
  | .func f => .d (.clo f [])
  | .global _ => .any
theorem ev_ok {X : Cfg} {s : FS} {a : Act} {w : World} {c : Cx} (h : RealC X s a w c) (x : Operand) : RepP c w (ev s x) (a.eval x) := by
  cases x with
  | tmp t => exact h.env t
  | const v => exact .d _ _ (.v v)
  | func f => exact .d _ _ (.clo f [] [] rfl (fun j d x h => by simp at h))
  | «global» g => exact .any _
theorem ev_same {ops : Array Oper} {o : Oper} {s s' : FS} (he : ∀ t ∈ o.looksAt ops, s'.env t = s.env t) (x : Operand) (hx : x ∈ o.op.operands) : ev s' x = ev s x := by
  cases x with
  | tmp t =>
    refine he t ?_
    unfold Oper.looksAt
    refine List.mem_append_left _ ?_
    rw [List.mem_filterMap]
    exact ⟨.tmp t, by simpa using hx, rfl⟩
  | _ => rfl
/-- An operation, by what running it does. -/
theorem opok_gen {X : Cfg} {ops : Array Oper} {s : FS} {o : Oper} {r : Res} (hd : ∀ d, o.dst = some d → d < X.n) (ht : ∀ kc ∈ r.eff, kc.1 ∈ r.touch)
    (h : ∀ s' : FS, (∀ x ∈ o.op.operands, ev s' x = ev s x) → (∀ k ∈ r.touch, s'.heap k = s.heap k) → ∀ a w c, RealC X s' a w c →
      ∃ n v w', (execOp a.eval o).run X.P w = .ok n w' ∧ (n = .value v ∨ (n = .skip ∧ v = undef)) ∧ ∃ c', RealC X { s' with heap := effH r.eff s'.heap } a w' c' ∧ RepP c' w' r.pv v) : OpOK X ops s o r := by
  refine ⟨hd, ht, fun s' he hk a w hr K Q hK => ?_⟩
  obtain ⟨c, hc⟩ := hr
  obtain ⟨n, v, w', hrun, hn, c', hc', hp⟩ := h s' (fun x hx => ev_same he x hx) hk a w c hc
  have := hK v w' ⟨c', hc'.put hp hd⟩
  unfold Oper.wp
  rw [hrun]
  rcases hn with rfl | ⟨rfl, rfl⟩
  · exact this
  · exact this
theorem opok_read {X : Cfg} {ops : Array Oper} {s : FS} {o : Oper} {p : PV} {touch : List Nat} (hd : ∀ d, o.dst = some d → d < X.n)
    (h : ∀ s' : FS, (∀ x ∈ o.op.operands, ev s' x = ev s x) → (∀ k ∈ touch, s'.heap k = s.heap k) → ∀ a w c, RealC X s' a w c → ∃ v, (execOp a.eval o).run X.P w = .ok (.value v) w ∧ RepP c w p v) :
    OpOK X ops s o { pv := p, touch := touch } :=
  opok_gen hd (fun _ h => by simp at h) fun s' he hk a w c hc => by
    obtain ⟨v, hrun, hp⟩ := h s' he hk a w c hc
    exact ⟨.value v, v, w, hrun, .inl rfl, c, hc, hp⟩
section
variable {X : Cfg} {ops : Array Oper} {s : FS} {o : Oper} (hd : ∀ d, o.dst = some d → d < X.n)
include hd
theorem op_move {x : Operand} (ho : o.op = .move x) : OpOK X ops s o { pv := ev s x } :=
  opok_read hd fun s' he _ a w c hc => ⟨a.eval x, by simp [execOp, ho], by rw [← he x (by simp [ho, Op.operands])]; exact ev_ok hc x⟩
theorem op_assign {x : Operand} (ho : o.op = .assign x) : OpOK X ops s o { pv := ev s x } :=
  opok_read hd fun s' he _ a w c hc => ⟨a.eval x, by simp [execOp, ho], by rw [← he x (by simp [ho, Op.operands])]; exact ev_ok hc x⟩
omit hd in
theorem ev_v' {s' : FS} {a : Act} {w : World} {c : Cx} (hc : RealC X s' a w c) {x : Operand} {v : Value} (h : ev s' x = .d (.v v)) : a.eval x = v := by
  have := ev_ok hc x
  rw [h] at this
  cases this with
  | d _ _ h => cases h with | v => rfl
theorem op_pick {x y z : Operand} {t : Bool} (ho : o.op = .pick x y z) (hx : ev s x = .d (.v (.bool t))) : OpOK X ops s o { pv := if t then ev s y else ev s z } :=
  opok_read hd fun s' he _ a w c hc => by
    have h1 := ev_v' hc ((he x (by simp [ho, Op.operands])).trans hx)
    refine ⟨if t then a.eval y else a.eval z, by simp [execOp, ho, h1, asBool], ?_⟩
    cases t with
    | true => rw [if_pos rfl, if_pos rfl, ← he y (by simp [ho, Op.operands])]; exact ev_ok hc y
    | false => rw [if_neg (by simp), if_neg (by simp), ← he z (by simp [ho, Op.operands])]; exact ev_ok hc z
theorem op_not {t : Nat} {x : Operand} {b : Bool} (ho : o.op = .unOp .not t x) (hx : ev s x = .d (.v (.bool b))) : OpOK X ops s o { pv := .d (.v (.bool (!b))) } :=
  opok_read hd fun s' he _ a w c hc => by
    have h1 := ev_v' hc ((he x (by simp [ho, Op.operands])).trans hx)
    exact ⟨.bool (!b), by simp [execOp, ho, h1, Op.unary], .d _ _ (.v _)⟩
theorem op_neg {t : Nat} {x : Operand} {k : IntKind} {n : Int} (ho : o.op = .unOp .neg t x) (hx : ev s x = .d (.v (.int k n))) : OpOK X ops s o { pv := .d (.v (.int k (k.wrap (0 - n)))) } :=
  opok_read hd fun s' he _ a w c hc => by
    have h1 := ev_v' hc ((he x (by simp [ho, Op.operands])).trans hx)
    exact ⟨.int k (k.wrap (0 - n)), by simp [execOp, ho, h1, Op.unary, Op.intArith], .d _ _ (.v _)⟩
theorem op_nilCheck {x : Operand} (ho : o.op = .nilCheck x) (hx : (∃ k off, ev s x = .ptr k off) ∨ ∃ cs, ev s x = .d (.ept cs)) : OpOK X ops s o { pv := ev s x } :=
  opok_read hd fun s' he _ a w c hc => by
    have h0 := he x (by simp [ho, Op.operands])
    have h1 := ev_ok hc x
    refine ⟨a.eval x, ?_, by rw [← h0]; exact h1⟩
    have : ∃ ad, a.eval x = .pointer (some ad) := by
      rcases hx with ⟨k, off, hx⟩ | ⟨cs, hx⟩
      · rw [h0, hx] at h1
        generalize a.eval x = u at h1
        cases h1
        exact ⟨_, rfl⟩
      · rw [h0, hx] at h1
        generalize a.eval x = u at h1
        cases h1 with
        | d _ _ h => cases h; exact ⟨_, rfl⟩
    obtain ⟨ad, h2⟩ := this
    simp [execOp, ho, h2]
/-- Integers: what a binary operator yields. -/
def intS (op : BinOp) (k : IntKind) (a b : Int) : Option Value :=
  match op with
  | .add => some (.int k (k.wrap (a + b)))
  | .sub => some (.int k (k.wrap (a - b)))
  | .mul => some (.int k (k.wrap (a * b)))
  | .eql => some (.bool (a == b))
  | .neq => some (.bool (a != b))
  | .lss => some (.bool (decide (a < b)))
  | .leq => some (.bool (decide (a ≤ b)))
  | .gtr => some (.bool (decide (a > b)))
  | .geq => some (.bool (decide (a ≥ b)))
  | _ => none
theorem op_int {op : BinOp} {t t' : Nat} {x y : Operand} {k : IntKind} {m n : Int} {r : Value} (ho : o.op = .binOp op t x y t') (hx : ev s x = .d (.v (.int k m))) (hy : ev s y = .d (.v (.int k n))) (hr : intS op k m n = some r) :
    OpOK X ops s o { pv := .d (.v r) } :=
  opok_read hd fun s' he _ a w c hc => by
    have h1 := ev_v' hc ((he x (by simp [ho, Op.operands])).trans hx)
    have h2 := ev_v' hc ((he y (by simp [ho, Op.operands])).trans hy)
    refine ⟨r, ?_, .d _ _ (.v _)⟩
    cases op <;> simp [intS] at hr <;> subst hr <;> simp [execOp, ho, h1, h2, eqGuard, binOp, Op.intArith, Op.intCmp]
theorem op_divrem {op : BinOp} {t t' : Nat} {x y : Operand} {k : IntKind} {m n : Int} (ho : o.op = .binOp op t x y t') (hx : ev s x = .d (.v (.int k m))) (hy : ev s y = .d (.v (.int k n))) (hn : n ≠ 0) {r : Value}
    (hr : (op = .quo ∧ r = .int k (k.wrap (m.tdiv n))) ∨ (op = .rem ∧ r = .int k (m.tmod n))) : OpOK X ops s o { pv := .d (.v r) } :=
  opok_read hd fun s' he _ a w c hc => by
    have h1 := ev_v' hc ((he x (by simp [ho, Op.operands])).trans hx)
    have h2 := ev_v' hc ((he y (by simp [ho, Op.operands])).trans hy)
    refine ⟨r, ?_, .d _ _ (.v _)⟩
    rcases hr with ⟨rfl, rfl⟩ | ⟨rfl, rfl⟩ <;> simp [execOp, ho, h1, h2, eqGuard, binOp, Op.intDiv, hn]
omit hd in
theorem run_equal_bool {P : Program} {t : Nat} (h : P.underlying t = some .bool) (m n : Bool) (w : World) : (Op.equal t (.bool m) (.bool n)).run P w = .ok (m == n) w := by
  unfold Op.equal
  show (Op.equalIn (9999 + 1) t (.bool m) (.bool n)).run P w = _
  rw [Op.equalIn, Sem.run_bind, run_underlying h]
  rfl
theorem op_boolEq {ti : TI} {op : BinOp} {t t' : Nat} {x y : Operand} {m n : Bool} {r : Bool} (ho : o.op = .binOp op t x y t') (ht : tcheck X.P t = some ti) (hb : ti.kind = 1) (hx : ev s x = .d (.v (.bool m))) (hy : ev s y = .d (.v (.bool n))) (hr : (op = .eql ∧ r = (m == n)) ∨ (op = .neq ∧ r = (m != n))) :
    OpOK X ops s o { pv := .d (.v (.bool r)) } :=
  opok_read hd fun s' he _ a w c hc => by
    have h1 := ev_v' hc ((he x (by simp [ho, Op.operands])).trans hx)
    have h2 := ev_v' hc ((he y (by simp [ho, Op.operands])).trans hy)
    obtain ⟨i, d, z, tk⟩ := tck ht
    have hd' : d = .bool := by
      have := tk.kind
      rw [hb] at this
      cases d <;> simp [kindD] at this
      rfl
    subst hd'
    refine ⟨.bool r, ?_, .d _ _ (.v _)⟩
    rcases hr with ⟨rfl, rfl⟩ | ⟨rfl, rfl⟩ <;> simp [execOp, ho, h1, h2, eqGuard, binOp, run_equal_bool tk.und, bne]
/-- Structs of numbers can be held against each other. -/
def EqOK (P : Program) (t n : Nat) : Prop := ∀ (w : World) (xs ys : List Int) (x y : Operand) (op : BinOp), xs.length = n → ys.length = n → op = .eql ∨ op = .neq →
  (do eqGuard op t x y (.agg (xs.map (Value.int .i64)).toArray) (.agg (ys.map (Value.int .i64)).toArray); binOp op t (.agg (xs.map (Value.int .i64)).toArray) (.agg (ys.map (Value.int .i64)).toArray) : Sem Value).run P w = .ok (.bool (if op = .eql then xs == ys else xs != ys)) w
def intsD : List D → Option (List Int)
  | [] => some []
  | .v (.int .i64 n) :: l => (intsD l).map (n :: ·)
  | _ => none
omit hd in
theorem ints_rep {M : Nat → Prop} {w : World} : ∀ {ds : List D} {vs : List Value} {xs : List Int}, RepDs M w ds vs → intsD ds = some xs → vs = xs.map (Value.int .i64)
  | [], [], xs, _, h => by cases h; rfl
  | [], _ :: _, xs, h, _ => by have := h.1; simp at this
  | d :: ds, [], xs, h, _ => by have := h.1; simp at this
  | d :: ds, v :: vs, xs, h, hx => by
    have h0 := h.2 0 d v rfl rfl
    have hr : RepDs M w ds vs := ⟨by simpa using h.1, fun j a b h1 h2 => h.2 (j + 1) a b (by simpa using h1) (by simpa using h2)⟩
    unfold intsD at hx
    split at hx
    · rename_i heq; cases heq
    · rename_i n l heq
      cases heq
      cases h0
      cases hl : intsD ds with
      | none => rw [hl] at hx; cases hx
      | some ys =>
        rw [hl] at hx
        cases hx
        rw [ints_rep hr hl]
        rfl
    · cases hx
theorem op_eqAgg {op : BinOp} {t t' n : Nat} {x y : Operand} {ds es : List D} {xs ys : List Int} (ho : o.op = .binOp op t x y t') (hq : EqOK X.P t n) (hop : op = .eql ∨ op = .neq) (hx : ev s x = .d (.agg ds)) (hy : ev s y = .d (.agg es))
    (h1 : intsD ds = some xs) (h2 : intsD es = some ys) (h3 : xs.length = n) (h4 : ys.length = n) : OpOK X ops s o { pv := .d (.v (.bool (if op = .eql then xs == ys else xs != ys))) } :=
  opok_read hd fun s' he _ a w c hc => by
    have e1 := ev_ok hc x
    have e2 := ev_ok hc y
    rw [he x (by simp [ho, Op.operands]), hx] at e1
    rw [he y (by simp [ho, Op.operands]), hy] at e2
    refine ⟨_, ?_, .d _ _ (.v _)⟩
    generalize hu : a.eval x = u at e1
    generalize hv : a.eval y = v at e2
    cases e1 with
    | d _ _ e1 =>
      cases e2 with
      | d _ _ e2 =>
        cases e1 with
        | agg _ vs hl _ hrep =>
          cases e2 with
          | agg _ vs' hl' _ hrep' =>
            have g1 := ints_rep (xs := xs) ⟨hl, hrep⟩ h1
            have g2 := ints_rep (xs := ys) ⟨hl', hrep'⟩ h2
            subst g1
            subst g2
            have := hq w xs ys x y op h3 h4 hop
            simp only [execOp, ho, hu, hv]
            rw [Sem.run_bind, this]
            rfl
theorem op_field {t f off sz : Nat} {x : Operand} {ds : List D} {ti : TI} (ho : o.op = .fieldAddr t x f) (ht : tcheck X.P t = some ti) (hf : ti.fields[f]? = some (off, sz)) (hs : sz ≠ 0) (hx : ev s x = .d (.ept ds)) :
    OpOK X ops s o { pv := .d (.ept (ds.drop off)) } :=
  opok_read hd fun s' he _ a w c hc => by
    have e1 := ev_ok hc x
    rw [he x (by simp [ho, Op.operands]), hx] at e1
    generalize hu : a.eval x = u at e1
    cases e1 with
    | d _ _ e1 =>
      cases e1 with
      | ept _ b o' fv hM hb h1 hcell hrep =>
        have hrun : ((execOp a.eval o).run X.P w) = .ok (.value (.pointer (some ⟨b, o' + off, none⟩))) w := by
          obtain ⟨i, d, z, tk⟩ := tck ht
          obtain ⟨fs, g, j, rfl, -, q1, q2, q3, q4⟩ := tk.field hf
          have hss : j.size ≠ 0 := by omega
          simp [execOp, ho, hu, Instr.fieldAt, run_underlying tk.und, q1, Instr.sureAddr, fieldPlace, sizeOf, typeInfo, q2, hss, q3, Addr.add_lit]
        refine ⟨_, hrun, .d _ _ (.ept _ b (o' + off) (fun j => fv (off + j)) hM hb (fun d hd => h1 d (List.mem_of_mem_drop hd)) (fun j hj => ?_) (fun j d hj => ?_))⟩
        · rw [Nat.add_assoc]
          exact hcell (off + j) (by rw [List.length_drop] at hj; omega)
        · exact hrep (off + j) d (by rwa [List.getElem?_drop] at hj)
end
end Go.Proofs.Ytflbpkgnadjokaa
namespace Go.Proofs.Ytflbpkgnadjokaa
open Go Go.RowKit
/-- Cells of a list, from off on. -/
def setAt {α : Type} (l : List α) (off : Nat) (xs : List α) : List α := l.take off ++ xs ++ l.drop (off + xs.length)
theorem setAt_get {α : Type} {l xs : List α} {off : Nat} (h : off + xs.length ≤ l.length) (k : Nat) : (setAt l off xs)[k]? = if off ≤ k ∧ k < off + xs.length then xs[k - off]? else l[k]? := by
  unfold setAt
  have h1 : (l.take off).length = off := by rw [List.length_take]; omega
  by_cases hk : k < off
  · rw [List.append_assoc, List.getElem?_append_left (by omega), if_neg (by omega), List.getElem?_take_of_lt hk]
  · by_cases hk2 : k < off + xs.length
    · rw [List.append_assoc, List.getElem?_append_right (by omega), h1, List.getElem?_append_left (by omega), if_pos (by omega)]
    · rw [List.getElem?_append_right (by rw [List.length_append, h1]; omega), List.length_append, h1, List.getElem?_drop, if_neg (by omega)]
      congr 1
      omega
theorem setAt_length {α : Type} {l xs : List α} {off : Nat} (h : off + xs.length ≤ l.length) : (setAt l off xs).length = l.length := by
  simp only [setAt, List.length_append, List.length_take, List.length_drop]
  omega
def foldSet (off : Nat) (l : List Value) (i : Nat) (cs : Array Value) : Array Value := (l.zipIdx i).foldl (fun cs (c, j) => cs.setIfInBounds (off + j) c) cs
theorem foldSet_size (off : Nat) : ∀ (l : List Value) (i : Nat) (cs : Array Value), (foldSet off l i cs).size = cs.size
  | [], _, _ => rfl
  | v :: l, i, cs => by
    have := foldSet_size off l (i + 1) (cs.setIfInBounds (off + i) v)
    simpa [foldSet, List.zipIdx_cons] using this
theorem foldSet_get (off : Nat) : ∀ (l : List Value) (i : Nat) (cs : Array Value) (k : Nat), off + i + l.length ≤ cs.size → (foldSet off l i cs)[k]? = if off + i ≤ k ∧ k < off + i + l.length then l[k - (off + i)]? else cs[k]?
  | [], i, cs, k, _ => by rw [if_neg (by simp)]; rfl
  | v :: l, i, cs, k, h => by
    have h' : off + i < cs.size := by simp at h; omega
    have := foldSet_get off l (i + 1) (cs.setIfInBounds (off + i) v) k (by simp at h ⊢; omega)
    have e : foldSet off (v :: l) i cs = foldSet off l (i + 1) (cs.setIfInBounds (off + i) v) := by simp [foldSet, List.zipIdx_cons]
    rw [e, this]
    by_cases hk : k = off + i
    · subst hk
      rw [if_neg (by omega), if_pos ⟨Nat.le_refl _, by simp⟩]
      simp [h']
    · rw [Array.getElem?_setIfInBounds_ne (fun e => hk e.symm)]
      by_cases hk2 : off + (i + 1) ≤ k ∧ k < off + (i + 1) + l.length
      · rw [if_pos hk2, if_pos ⟨by omega, by simp; omega⟩]
        rw [show k - (off + i) = (k - (off + (i + 1))) + 1 by omega, List.getElem?_cons_succ]
      · rw [if_neg hk2, if_neg (by simp; omega)]
theorem foldSet_list (off : Nat) (l : List Value) (cs : Array Value) (h : off + l.length ≤ cs.size) : (foldSet off l 0 cs).toList = setAt cs.toList off l := by
  apply List.ext_getElem?
  intro k
  rw [setAt_get (by simpa using h), Array.getElem?_toList, foldSet_get off l 0 cs k (by simpa using h)]
  simp
theorem fill_step (place : Nat → Option (Nat × Nat)) (cells : Array Value) (i off size : Nat) (v : Value) (rest : List (Nat × Value)) (hp : place i = some (off, size)) (hs : v.cells.size = size) (ho : off + size ≤ cells.size) :
    Instr.fill place cells ((i, v) :: rest) = Instr.fill place (setAt cells.toList off v.cells.toList).toArray rest := by
  have e : (v.cells.zipIdx.foldl (fun cs (c, j) => cs.setIfInBounds (off + j) c) cells) = (setAt cells.toList off v.cells.toList).toArray := by
    have h1 := foldSet_list off v.cells.toList cells (by simp; omega)
    rw [← h1, Array.toArray_toList]
    unfold foldSet
    rw [← Array.foldl_toList, Array.toList_zipIdx]
  rw [Instr.fill]
  simp only [hp]
  rw [if_neg (by simp [hs]; omega), e]
/-- The cells of a value. -/
def cellsP : PV → List PV
  | .d (.agg ds) => ds.map .d
  | p => [p]
def okP : PV → Bool
  | .d (.agg _) => true
  | p => p.one
theorem RepPs.one {c : Cx} {w : World} {ds : List PV} {vs : List Value} (h : RepPs c w ds vs) (h1 : ∀ d ∈ ds, d.one = true) : ∀ x ∈ vs, x.oneCell' = true := by
  intro x hx
  obtain ⟨j, hj, e⟩ := List.getElem_of_mem hx
  have hj' : j < ds.length := by rw [h.1]; exact hj
  exact (h.2 j ds[j] x (List.getElem?_eq_getElem hj') (by rw [← e]; exact List.getElem?_eq_getElem hj)).one (h1 _ (List.getElem_mem hj'))
theorem RepDs.one {M : Nat → Prop} {w : World} {ds : List D} {vs : List Value} (h : RepDs M w ds vs) (h1 : ∀ d ∈ ds, d.one = true) : ∀ x ∈ vs, x.oneCell' = true := by
  intro x hx
  obtain ⟨j, hj, e⟩ := List.getElem_of_mem hx
  have hj' : j < ds.length := by rw [h.1]; exact hj
  exact (h.2 j ds[j] x (List.getElem?_eq_getElem hj') (by rw [← e]; exact List.getElem?_eq_getElem hj)).one (h1 _ (List.getElem_mem hj'))
theorem cells_one {v : Value} (h : v.oneCell' = true) : v.cells = #[v] := by
  cases v <;> first | rfl | cases h
theorem cells_rep {c : Cx} {w : World} {p : PV} {v : Value} (h : RepP c w p v) (hok : okP p = true) : RepPs c w (cellsP p) v.cells.toList ∧ ∀ d ∈ cellsP p, d.one = true := by
  have single : p.one = true → cellsP p = [p] → RepPs c w (cellsP p) v.cells.toList ∧ ∀ d ∈ cellsP p, d.one = true := by
    intro h1 e
    rw [e, cells_one (h.one h1)]
    refine ⟨⟨rfl, fun j d x hj hx => ?_⟩, fun d hd => by simp at hd; subst hd; exact h1⟩
    cases j with
    | zero => simp at hj hx; subst hj; subst hx; exact h
    | succ j => simp at hj
  cases p with
  | d x =>
    cases x with
    | agg ds =>
      cases h with
      | d _ _ h =>
        cases h with
        | agg _ vs hl h1 hrep =>
          refine ⟨⟨by simpa [cellsP, Value.cells] using hl, fun j d x hj hx => ?_⟩, fun d hd => ?_⟩
          · simp only [cellsP, List.getElem?_map, Option.map_eq_some_iff] at hj
            obtain ⟨y, hy, rfl⟩ := hj
            exact .d _ _ (hrep j y x hy (by simpa [Value.cells] using hx))
          · simp only [cellsP, List.mem_map] at hd
            obtain ⟨y, hy, rfl⟩ := hd
            exact h1 y hy
    | tup ds => simp [okP, PV.one, D.one] at hok
    | _ => exact single hok rfl
  | any => simp [okP, PV.one] at hok
  | _ => exact single hok rfl
theorem repDs_app {M : Nat → Prop} {w : World} {ds es : List D} {vs us : List Value} (h : RepDs M w ds vs) (g : RepDs M w es us) : RepDs M w (ds ++ es) (vs ++ us) := by
  refine ⟨by simp [h.1, g.1], fun j d x hj hx => ?_⟩
  by_cases hlt : j < ds.length
  · rw [List.getElem?_append_left hlt] at hj
    rw [List.getElem?_append_left (by rw [← h.1]; exact hlt)] at hx
    exact h.2 j d x hj hx
  · rw [List.getElem?_append_right (by omega)] at hj
    rw [List.getElem?_append_right (by rw [← h.1]; omega), ← h.1] at hx
    exact g.2 _ d x hj hx
theorem repPs_set {c : Cx} {w : World} {ds es : List PV} {vs us : List Value} {off : Nat} (h : RepPs c w ds vs) (g : RepPs c w es us) (ho : off + es.length ≤ ds.length) : RepPs c w (setAt ds off es) (setAt vs off us) := by
  have ho' : off + us.length ≤ vs.length := by rw [← g.1, ← h.1]; exact ho
  refine ⟨by rw [setAt_length ho, setAt_length ho', h.1], fun j d x hj hx => ?_⟩
  rw [setAt_get ho] at hj
  rw [setAt_get ho', ← g.1] at hx
  by_cases hc : off ≤ j ∧ j < off + es.length
  · rw [if_pos hc] at hj hx
    exact g.2 _ d x hj hx
  · rw [if_neg hc] at hj hx
    exact h.2 _ d x hj hx
theorem repDs_set {M : Nat → Prop} {w : World} {ds es : List D} {vs us : List Value} {off : Nat} (h : RepDs M w ds vs) (g : RepDs M w es us) (ho : off + es.length ≤ ds.length) : RepDs M w (setAt ds off es) (setAt vs off us) := by
  have ho' : off + us.length ≤ vs.length := by rw [← g.1, ← h.1]; exact ho
  refine ⟨by rw [setAt_length ho, setAt_length ho', h.1], fun j d x hj hx => ?_⟩
  rw [setAt_get ho] at hj
  rw [setAt_get ho', ← g.1] at hx
  by_cases hc : off ≤ j ∧ j < off + es.length
  · rw [if_pos hc] at hj hx
    exact g.2 _ d x hj hx
  · rw [if_neg hc] at hj hx
    exact h.2 _ d x hj hx
theorem mem_setAt {α : Type} {l xs : List α} {off : Nat} {d : α} (h : d ∈ setAt l off xs) : d ∈ l ∨ d ∈ xs := by
  simp only [setAt, List.mem_append] at h
  rcases h with (h | h) | h
  · exact .inl (List.mem_of_mem_take h)
  · exact .inr h
  · exact .inl (List.mem_of_mem_drop h)
theorem repDs_v {M : Nat → Prop} {w : World} (vs : List Value) : RepDs M w (vs.map .v) vs := ⟨by simp, fun j d x hj hx => by
  simp only [List.getElem?_map, hx, Option.map_some, Option.some.injEq] at hj
  subst hj
  exact .v x⟩
theorem repPs_d {c : Cx} {w : World} {ds : List D} {vs : List Value} (h : RepDs c.M w ds vs) : RepPs c w (ds.map .d) vs := ⟨by simpa using h.1, fun j d x hj hx => by
  simp only [List.getElem?_map, Option.map_eq_some_iff] at hj
  obtain ⟨y, hy, rfl⟩ := hj
  exact .d _ _ (h.2 j y x hy hx)⟩
/-- The parts of a struct that is built. -/
def fillD (pl : List (Nat × Nat)) : List D → List (Nat × List D) → Option (List D)
  | cells, [] => some cells
  | cells, (i, xs) :: rest =>
    match pl[i]? with
    | none => none
    | some (off, size) => if xs.length = size ∧ off + size ≤ cells.length then fillD pl (setAt cells off xs) rest else none
theorem fill_rep {M : Nat → Prop} {w : World} (pl : List (Nat × Nat)) (place : Nat → Option (Nat × Nat)) (hpl : ∀ i, place i = pl[i]?) : ∀ (pd : List (Nat × List D)) (pv : List (Nat × Value)) (cells : List D) (vs : List Value) (out : List D), RepDs M w cells vs →
    pd.map (·.1) = pv.map (·.1) → (∀ (j : Nat) (d : Nat × List D) (x : Nat × Value), pd[j]? = some d → pv[j]? = some x → RepDs M w d.2 x.2.cells.toList) → fillD pl cells pd = some out → (∀ d ∈ cells, d.one = true) → (∀ q ∈ pd, ∀ d ∈ q.2, d.one = true) →
    ∃ vs' : List Value, Instr.fill place vs.toArray pv = some vs'.toArray ∧ RepDs M w out vs' ∧ (∀ d ∈ out, d.one = true) ∧ out.length = cells.length
  | [], [], cells, vs, out, h, _, _, hf, h1, _ => by
    simp [fillD] at hf
    subst hf
    exact ⟨vs, rfl, h, h1, rfl⟩
  | [], _ :: _, _, _, _, _, hm, _, _, _, _ => by simp at hm
  | _ :: _, [], _, _, _, _, hm, _, _, _, _ => by simp at hm
  | (i, xs) :: pd, (i', v) :: pv, cells, vs, out, h, hm, hr, hf, h1, h2 => by
    simp only [List.map_cons, List.cons.injEq] at hm
    obtain ⟨rfl, hm⟩ := hm
    have hx := hr 0 (i, xs) (i, v) rfl rfl
    unfold fillD at hf
    split at hf
    · cases hf
    · rename_i off size hp
      split at hf
      · rename_i hc
        have hvs : v.cells.size = size := by have := hx.1; simp at this; omega
        have hlen : off + xs.length ≤ cells.length := by omega
        rw [fill_step place vs.toArray i off size v pv ((hpl i).trans hp) hvs (by have := h.1; simp; omega)]
        obtain ⟨vs', q1, q2, q3, q4⟩ := fill_rep pl place hpl pd pv (setAt cells off xs) (setAt vs off v.cells.toList) out (repDs_set h hx hlen) hm (fun j d x hj hx => hr (j + 1) d x (by simpa using hj) (by simpa using hx)) hf
          (fun d hd => (mem_setAt hd).elim (h1 d) (h2 (i, xs) (by simp) d)) (fun q hq => h2 q (by simp [hq]))
        exact ⟨vs', q1, q2, q3, by rw [q4, setAt_length hlen]⟩
      · cases hf
end Go.Proofs.Ytflbpkgnadjokaa
namespace Go.Proofs.Ytflbpkgnadjokaa
open Go Go.RowKit
theorem repD_inv {c : Cx} {w : World} {d : D} {v : Value} (h : RepP c w (.d d) v) : RepD c.M w d v := by
  cases h with | d _ _ h => exact h
theorem flatten_atG {α : Type} {sz : Nat} : ∀ {rows : List (List α)}, (∀ r ∈ rows, r.length = sz) → ∀ i j, j < sz → rows.flatten[i * sz + j]? = (rows[i]?).bind (·[j]?)
  | [], _, i, j, _ => by simp
  | r :: rows, h, 0, j, hj => by
    rw [List.flatten_cons, List.getElem?_append_left (by rw [h r (by simp)]; omega)]
    simp
  | r :: rows, h, i + 1, j, hj => by
    have hr := h r (by simp)
    rw [List.flatten_cons, List.getElem?_append_right (by rw [hr, Nat.succ_mul]; omega), hr, show (i + 1) * sz + j - sz = i * sz + j by rw [Nat.succ_mul]; omega, flatten_atG (fun r hr => h r (by simp [hr])) i j hj]
    simp
section
variable {X : Cfg} {ops : Array Oper} {s : FS} {o : Oper} (hd : ∀ d, o.dst = some d → d < X.n)
include hd
theorem op_fieldPtr {t f off sz k o' : Nat} {x : Operand} {ti : TI} (ho : o.op = .fieldAddr t x f) (ht : tcheck X.P t = some ti) (hf : ti.fields[f]? = some (off, sz)) (hs : sz ≠ 0) (hx : ev s x = .ptr k o') :
    OpOK X ops s o { pv := .ptr k (o' + off) } :=
  opok_read hd fun s' he _ a w c hc => by
    have e1 := ev_ok hc x
    rw [he x (by simp [ho, Op.operands]), hx] at e1
    generalize hu : a.eval x = u at e1
    cases e1 with
    | ptr _ _ b hb =>
      obtain ⟨i, d, z, tk⟩ := tck ht
      obtain ⟨fs, g, j, rfl, -, q1, q2, q3, q4⟩ := tk.field hf
      have hss : j.size ≠ 0 := by omega
      exact ⟨.pointer (some ⟨b, o' + off, none⟩), by simp [execOp, ho, hu, Instr.fieldAt, run_underlying tk.und, q1, Instr.sureAddr, fieldPlace, sizeOf, typeInfo, q2, hss, q3, Addr.add_lit], .ptr k _ b hb⟩
omit hd in
/-- What a load yields. -/
theorem run_loadAt {P : Program} {t : Nat} {ti : TI} (ht : tcheck P t = some ti) (w : World) (b off : Nat) (cs : List Value) (hl : cs.length = ti.size) (hcs : ∀ j v, cs[j]? = some v → w.cell? ⟨b, off + j, none⟩ = some v) (h0 : ti.agg = false → ∃ v, cs = [v]) :
    (Instr.loadAt t (.pointer (some ⟨b, off, none⟩))).run P w = .ok (if ti.agg then .agg cs.toArray else cs.headD undef) w := by
  obtain ⟨i, d, z, tk⟩ := tck ht
  have hagg : (isAgg t).run P w = .ok ti.agg w := by
    unfold isAgg
    rw [Sem.run_bind, run_underlying tk.und w, ← tk.agg]
    cases d <;> simp [aggD]
  have hcell : ∀ j v, cs[j]? = some v → w.cell? ((⟨b, off, none⟩ : Addr).add j) = some v := fun j v hv => by rw [Addr.add_lit]; exact hcs j v hv
  cases hg : ti.agg with
  | true =>
    have hl' := run_loadCells_list (P := P) w ⟨b, off, none⟩ cs hcell
    rw [hl, ← tk.size] at hl'
    rw [hg] at hagg
    simp [Instr.loadAt, Instr.sureAddr, loadVar, Sem.run_bind, hagg, sizeOf, typeInfo, tk.info, hl']
  | false =>
    obtain ⟨v, rfl⟩ := h0 hg
    rw [hg] at hagg
    have := hcs 0 v rfl
    simp only [Nat.add_zero] at this
    simp [Instr.loadAt, Instr.sureAddr, loadVar, Sem.run_bind, hagg, this]
theorem op_loadE {t : Nat} {x : Operand} {ti : TI} {ds : List D} {p : D} (ho : o.op = .load t x) (ht : tcheck X.P t = some ti) (hx : ev s x = .d (.ept ds)) (hsz : ti.size ≤ ds.length) (hp : (ti.agg = true ∧ p = .agg (ds.take ti.size)) ∨ (ti.agg = false ∧ ti.size = 1 ∧ ds[0]? = some p)) :
    OpOK X ops s o { pv := .d p } :=
  opok_read hd fun s' he _ a w c hc => by
    have e1 := ev_ok hc x
    rw [he x (by simp [ho, Op.operands]), hx] at e1
    generalize hu : a.eval x = u at e1
    cases e1 with
    | d _ _ e1 =>
      cases e1 with
      | ept _ b off f hM hb h1 hcell hrep =>
        have hrun := run_loadAt ht w b off ((List.range ti.size).map f) (by simp) (fun j v hj => by
          simp only [List.getElem?_map, Option.map_eq_some_iff] at hj
          obtain ⟨y, hy, rfl⟩ := hj
          have := List.getElem?_range (n := ti.size) (i := j)
          have hj' : j < ti.size := by
            rcases Nat.lt_or_ge j ti.size with h | h
            · exact h
            · rw [List.getElem?_eq_none (by simpa using h)] at hy; cases hy
          rw [List.getElem?_range hj'] at hy
          cases hy
          exact hcell j (by omega))
        rcases hp with ⟨hag, rfl⟩ | ⟨hag, hs1, hp⟩
        · refine ⟨.agg ((List.range ti.size).map f).toArray, ?_, .d _ _ (.agg _ _ (by simp; omega) (fun d hd => h1 d (List.mem_of_mem_take hd)) (fun j d v hj hv => ?_))⟩
          · have := hrun (fun h => by rw [hag] at h; cases h)
            rw [hag, if_pos rfl] at this
            simp only [execOp, ho, hu]
            rw [Sem.run_bind, this]
            rfl
          · rw [List.getElem?_take] at hj
            split at hj
            · rename_i hlt
              simp only [List.getElem?_map, List.getElem?_range hlt, Option.map_some, Option.some.injEq] at hv
              subst hv
              exact hrep j d hj
            · cases hj
        · refine ⟨f 0, ?_, .d _ _ (hrep 0 p hp)⟩
          have := hrun (fun _ => ⟨f 0, by rw [hs1]; rfl⟩)
          rw [hag, hs1] at this
          simp only [execOp, ho, hu]
          rw [Sem.run_bind, this]
          rfl
/-- Cells of a box as data. -/
def dsOf : List PV → Option (List D)
  | [] => some []
  | .d x :: l => (dsOf l).map (x :: ·)
  | _ => none
omit hd in
theorem dsOf_eq : ∀ {l : List PV} {ds : List D}, dsOf l = some ds → l = ds.map .d
  | [], ds, h => by simp [dsOf] at h; subst h; rfl
  | p :: l, ds, h => by
    unfold dsOf at h
    split at h
    · rename_i heq; cases heq
    · rename_i x l' heq
      cases heq
      cases hl : dsOf l with
      | none => rw [hl] at h; cases h
      | some es =>
        rw [hl] at h
        cases h
        rw [dsOf_eq hl]
        rfl
    · cases h
theorem op_loadP {t k off T : Nat} {x : Operand} {ti : TI} {cells : List PV} {p : PV} (ho : o.op = .load t x) (ht : tcheck X.P t = some ti) (hx : ev s x = .ptr k off) (hk : s.heap k = .box T cells) (hsz : off + ti.size ≤ cells.length)
    (hp : (ti.agg = true ∧ ∃ ds, dsOf ((cells.drop off).take ti.size) = some ds ∧ p = .d (.agg ds)) ∨ (ti.agg = false ∧ ti.size = 1 ∧ cells[off]? = some p)) : OpOK X ops s o { pv := p, touch := [k] } :=
  opok_read hd fun s' he hkk a w c hc => by
    have e1 := ev_ok hc x
    rw [he x (by simp [ho, Op.operands]), hx] at e1
    generalize hu : a.eval x = u at e1
    have hck := hc.chunk k
    rw [hkk k (by simp), hk] at hck
    cases e1 with
    | ptr _ _ b hb =>
      cases hck with
      | box _ _ b' vs hb' hh hr h1 =>
        rw [hb] at hb'
        cases hb'
        have hvl : vs.length = cells.length := hr.1.symm
        have hrun := run_loadAt ht w b off ((vs.drop off).take ti.size) (by rw [List.length_take, List.length_drop]; omega) (fun j v hj => by
          rw [List.getElem?_take] at hj
          split at hj
          · rw [List.getElem?_drop] at hj
            simp [World.cell?, hh, hj]
          · cases hj)
        rcases hp with ⟨hag, ds, hds, rfl⟩ | ⟨hag, hs1, hp⟩
        · have hcl := dsOf_eq hds
          have hdl : ds.length = ti.size := by
            have := congrArg List.length hcl
            rw [List.length_map, List.length_take, List.length_drop] at this
            omega
          have hget : ∀ j d, ds[j]? = some d → cells[off + j]? = some (.d d) := by
            intro j d hj
            have hlt : j < ti.size := by rw [← hdl]; exact (List.getElem?_eq_some_iff.1 hj).1
            have h2 : ((cells.drop off).take ti.size)[j]? = some (.d d) := by rw [hcl, List.getElem?_map, hj]; rfl
            rw [List.getElem?_take_of_lt hlt, List.getElem?_drop] at h2
            exact h2
          refine ⟨.agg ((vs.drop off).take ti.size).toArray, ?_, .d _ _ (.agg _ _ (by rw [hdl, List.length_take, List.length_drop]; omega) (fun d hd => ?_) (fun j d v hj hv => ?_))⟩
          · have := hrun (fun h => by rw [hag] at h; cases h)
            rw [hag, if_pos rfl] at this
            simp only [execOp, ho, hu]
            rw [Sem.run_bind, this]
            rfl
          · obtain ⟨j, hj, e⟩ := List.getElem_of_mem hd
            have := hget j d (by rw [← e]; exact List.getElem?_eq_getElem hj)
            exact h1 _ (List.mem_of_getElem? this)
          · have hlt : j < ti.size := by rw [← hdl]; exact (List.getElem?_eq_some_iff.1 hj).1
            rw [List.getElem?_take_of_lt hlt, List.getElem?_drop] at hv
            exact repD_inv (hr.2 (off + j) _ v (hget j d hj) hv)
        · obtain ⟨v, hv⟩ : ∃ v, vs[off]? = some v := ⟨vs[off]'(by omega), List.getElem?_eq_getElem _⟩
          have hone : (vs.drop off).take ti.size = [v] := by
            rw [hs1, List.drop_eq_getElem_cons (by omega)]
            simp only [List.take_succ_cons, List.take_zero]
            rw [List.getElem?_eq_getElem (by omega)] at hv
            simpa using hv
          refine ⟨v, ?_, hr.2 off p v hp hv⟩
          have := hrun (fun _ => ⟨v, hone⟩)
          rw [hag, hone] at this
          simp only [execOp, ho, hu]
          rw [Sem.run_bind, this]
          rfl
theorem op_index {t e sz : Nat} {x y : Operand} {ti te : TI} {rows : List (List D)} {row : List D} {kd : IntKind} {n : Int} (ho : o.op = .indexAddr t x y) (ht : tcheck X.P t = some ti) (he' : ti.elem = some e) (hte : tcheck X.P e = some te) (hsz : te.size = sz)
    (hx : ev s x = .d (.sl sz rows)) (hy : ev s y = .d (.v (.int kd n))) (hn : 0 ≤ n) (hrow : rows[n.toNat]? = some row) : OpOK X ops s o { pv := .d (.ept row) } :=
  opok_read hd fun s' he _ a w c hc => by
    have e1 := ev_ok hc x
    rw [he x (by simp [ho, Op.operands]), hx] at e1
    have e2 := ev_v' hc ((he y (by simp [ho, Op.operands])).trans hy)
    generalize hu : a.eval x = u at e1
    have hlt : n.toNat < rows.length := (List.getElem?_eq_some_iff.1 hrow).1
    have e1 := repD_inv e1
    cases e1 with
    | nil => simp at hlt
    | sl _ _ b off cap f hM hb hc' hm hr h1 hcell hrep =>
      obtain ⟨i, d, z, tk⟩ := tck ht
      obtain ⟨ie, de, ze, tke⟩ := tck hte
      have hde : d = .slice e := by
        have := tk.elem
        rw [he'] at this
        cases d <;> simp [elemD] at this
        rw [this]
      subst hde
      have hcond : 0 ≤ n ∧ n < (rows.length : Int) := ⟨hn, by omega⟩
      have hrl : row.length = sz := hr row (List.mem_of_getElem? hrow)
      refine ⟨.pointer (some ⟨b, off + n.toNat * sz, none⟩), ?_, .d _ _ (.ept row b _ (fun j => f n.toNat j) hM hb (fun d hd => h1 row (List.mem_of_getElem? hrow) d hd) (fun j hj => hcell _ j hlt (by omega)) (fun j d hj => hrep _ j row d hrow hj))⟩
      simp [execOp, ho, hu, e2, Instr.indexAt, asIntOf, run_underlying tk.und, hcond, sizeOf, typeInfo, tke.info, tke.size, hsz, Addr.add_lit]
theorem op_len {t ty : Nat} {x : Operand} {e : Nat} {ti : TI} {d : D} {n : Nat} (ho : o.op = .call { callee := .builtin .len, args := #[x], argTypes := #[t] }) (ht : tcheck X.P t = some ti) (he' : ti.elem = some e) (hx : ev s x = .d d)
    (hn : (∃ sz rows, d = .sl sz rows ∧ n = rows.length) ∨ (d = .v (.slice none 0 0) ∧ n = 0)) : OpOK X ops s o { pv := .d (.v (.int .i64 n)) } :=
  opok_read hd fun s' he _ a w c hc => by
    have e1 := ev_ok hc x
    rw [he x (by simp [ho, Op.operands, Call.operands]), hx] at e1
    generalize hu : a.eval x = u at e1
    obtain ⟨i, dd, z, tk⟩ := tck ht
    have hde : dd = .slice e := by
      have := tk.elem
      rw [he'] at this
      cases dd <;> simp [elemD] at this
      rw [this]
    subst hde
    have hsl : ∃ ao cap, u = .slice ao n cap := by
      have e1 := repD_inv e1
      rcases hn with ⟨sz, rows, rfl, rfl⟩ | ⟨rfl, rfl⟩
      · cases e1 with
        | nil _ ao cap => exact ⟨ao, cap, rfl⟩
        | sl _ _ b off cap => exact ⟨_, cap, rfl⟩
      · cases e1
        exact ⟨none, 0, rfl⟩
    obtain ⟨ao, cap, rfl⟩ := hsl
    refine ⟨.int .i64 n, ?_, .d _ _ (.v _)⟩
    simp [execOp, ho, hu, resolve, invoke, builtin, Builtin.len_, run_underlying tk.und, goInt]
theorem op_extract {x : Operand} {i : Nat} {ds : List D} {d : D} (ho : o.op = .extract x i) (hx : ev s x = .d (.tup ds)) (hi : ds[i]? = some d) : OpOK X ops s o { pv := .d d } :=
  opok_read hd fun s' he _ a w c hc => by
    have e1 := ev_ok hc x
    rw [he x (by simp [ho, Op.operands]), hx] at e1
    generalize hu : a.eval x = u at e1
    have e1 := repD_inv e1
    cases e1 with
    | tup _ vs hl hrep =>
      have hlt : i < vs.length := by rw [← hl]; exact (List.getElem?_eq_some_iff.1 hi).1
      have hv : vs[i]? = some vs[i] := List.getElem?_eq_getElem hlt
      exact ⟨vs[i], by simp [execOp, ho, hu, Instr.extract, hv], .d _ _ (hrep i d _ hi hv)⟩
theorem op_build {t : Nat} {parts : Array (Nat × Operand)} {ti : TI} {pd : List (Nat × List D)} {out : List D} (ho : o.op = .build t parts) (ht : tcheck X.P t = some ti) (hst : ti.fields ≠ [] ∧ elemD (((X.P.underlying t)).getD .bool) = none)
    (hp : pd.length = parts.size) (hq : ∀ (j : Nat) (i : Nat) (x : Operand), parts[j]? = some (i, x) → ∃ ds, pd[j]? = some (i, ds) ∧ dsOf (cellsP (ev s x)) = some ds ∧ okP (ev s x) = true) (hf : fillD ti.fields (ti.zero.map .v) pd = some out) :
    OpOK X ops s o { pv := .d (.agg out) } :=
  opok_read hd fun s' he _ a w c hc => by
    obtain ⟨i, d, z, tk⟩ := tck ht
    obtain ⟨⟨off, sz⟩, rest, hfl⟩ : ∃ p l, ti.fields = p :: l := by
      cases h : ti.fields with
      | nil => exact absurd h hst.1
      | cons p l => exact ⟨p, l, rfl⟩
    obtain ⟨fs, g, j, rfl, hpl, -⟩ := tk.field (f := 0) (off := off) (sz := sz) (by rw [hfl]; rfl)
    have hz0 : RepDs c.M w (ti.zero.map .v) ti.zero := repDs_v ti.zero
    have hone0 : ∀ d ∈ ti.zero.map D.v, d.one = true := by
      intro d hd
      obtain ⟨x, hx, rfl⟩ := List.mem_map.1 hd
      exact tk.one x hx
    have hpart : ∀ (j : Nat) (d : Nat × List D) (x : Nat × Value), pd[j]? = some d → (parts.toList.map fun (i, x) => (i, a.eval x))[j]? = some x → d.1 = x.1 ∧ RepDs c.M w d.2 x.2.cells.toList ∧ ∀ e ∈ d.2, e.one = true := by
      intro j d x hj hx
      simp only [List.getElem?_map, Array.getElem?_toList, Option.map_eq_some_iff] at hx
      obtain ⟨⟨i, y⟩, hy, rfl⟩ := hx
      obtain ⟨ds, h1, h2, h3⟩ := hq j i y hy
      rw [hj] at h1
      cases h1
      have hmem : y ∈ o.op.operands := by
        rw [ho]
        simp only [Op.operands, List.mem_toArray, List.mem_map]
        exact ⟨(i, y), by simpa using Array.mem_of_getElem? hy, rfl⟩
      have hrep := ev_ok hc y
      rw [he y hmem] at hrep
      obtain ⟨r1, r2⟩ := cells_rep hrep h3
      have hcl := dsOf_eq h2
      refine ⟨rfl, ⟨?_, fun k e v hk hv => ?_⟩, fun e he' => ?_⟩
      · have := r1.1
        rw [hcl, List.length_map] at this
        exact this
      · exact repD_inv (r1.2 k (.d e) v (by rw [hcl, List.getElem?_map, hk]; rfl) hv)
      · have := r2 (.d e) (by rw [hcl]; exact List.mem_map_of_mem he')
        exact this
    obtain ⟨vs', q1, q2, q3, q4⟩ := fill_rep (M := c.M) (w := w) ti.fields (ti.fields.toArray[·]?) (fun i => by simp) pd (parts.toList.map fun (i, x) => (i, a.eval x)) (ti.zero.map .v) ti.zero out hz0
      (by
        apply List.ext_getElem?
        intro j
        simp only [List.getElem?_map]
        cases hj : parts[j]? with
        | none =>
          have h1 : parts.size ≤ j := by simpa using hj
          rw [List.getElem?_eq_none (by omega)]
          simp [hj]
        | some ix =>
          obtain ⟨i, x⟩ := ix
          obtain ⟨ds, h1, -⟩ := hq j i x hj
          simp [hj, h1])
      (fun j d x h1 h2 => (hpart j d x h1 h2).2.1) hf hone0
      (fun q hq' e he' => by
        obtain ⟨j, hj, hjq⟩ := List.getElem_of_mem hq'
        have hjs : j < parts.toList.length := by simpa using hp ▸ hj
        exact (hpart j q _ (by rw [← hjq]; exact List.getElem?_eq_getElem hj) (by rw [List.getElem?_map, List.getElem?_eq_getElem hjs]; rfl)).2.2 e he')
    refine ⟨.agg vs'.toArray, ?_, .d _ _ (.agg _ _ q2.1 q3 q2.2)⟩
    have hb : X.P.built t (parts.map fun (i, x) => (i, a.eval x)).toList = some vs'.toArray := by
      unfold Program.built
      have hpl' : fs.toList.mapM (fun f => (X.P.info? f.type).map fun i => (f.offset, i.size)) = some ti.fields := hpl
      simp only [tk.info, tk.und, tk.zero, hpl']
      have : z.cells = ti.zero.toArray := by rw [← tk.zcells]
      rw [this, Array.toList_map]
      exact q1
    have := run_build w t (parts.map fun (i, x) => (i, a.eval x)) vs'.toArray hb
    simp only [execOp, ho]
    rw [Sem.run_bind, this]
    rfl
theorem op_makeFunc {g : Nat} {caps : Array Operand} (ho : o.op = .makeFunc (.func g) #[] caps) : OpOK X ops s o { pv := .clo g (caps.toList.map (ev s)) } :=
  opok_read hd fun s' he _ a w c hc => by
    refine ⟨.func (.func g) #[] (caps.toList.map a.eval).toArray, ?_, .clo g _ _ (by simp) (fun j d x hj hx => ?_)⟩
    · have : (caps.toList.map a.eval).toArray = caps.map a.eval := by rw [← Array.toList_map]
      rw [this]
      simp [execOp, ho, Instr.makeFunc]
    · simp only [List.getElem?_map, Array.getElem?_toList, Option.map_eq_some_iff] at hj hx
      obtain ⟨y, hy, rfl⟩ := hj
      obtain ⟨y', hy', rfl⟩ := hx
      rw [hy] at hy'
      cases hy'
      have := ev_ok hc y
      rwa [he y (by rw [ho]; simp [Op.operands, Array.mem_of_getElem? hy])] at this
theorem op_fieldRp {t f off sz k g sz' i j : Nat} {x : Operand} {ti : TI} (ho : o.op = .fieldAddr t x f) (ht : tcheck X.P t = some ti) (hf : ti.fields[f]? = some (off, sz)) (hs : sz ≠ 0) (hx : ev s x = .rp k g sz' i j) :
    OpOK X ops s o { pv := .rp k g sz' i (j + off) } :=
  opok_read hd fun s' he _ a w c hc => by
    have e1 := ev_ok hc x
    rw [he x (by simp [ho, Op.operands]), hx] at e1
    generalize hu : a.eval x = u at e1
    cases e1 with
    | rp _ _ _ _ _ b n cap hb =>
      obtain ⟨ii, d, z, tk⟩ := tck ht
      obtain ⟨fs, g, jj, rfl, -, q1, q2, q3, q4⟩ := tk.field hf
      have hss : jj.size ≠ 0 := by omega
      exact ⟨.pointer (some ⟨b, i * sz' + (j + off), none⟩), by simp [execOp, ho, hu, Instr.fieldAt, run_underlying tk.und, q1, Instr.sureAddr, fieldPlace, sizeOf, typeInfo, q2, hss, q3, Addr.add_lit, Nat.add_assoc], .rp k _ _ _ _ b n cap hb⟩
omit hd in
/-- The cells of a row of one's own. -/
theorem row_cells {base k E sz g : Nat} {rows : List (List D)} {c : Cx} {w : World} {b n cap : Nat} (hck : ChunkOK base c w k (.row E sz g rows)) (hb : c.ov k g = some (.slice (some ⟨b, 0, none⟩) n cap)) :
    ∃ (cur : Array Value) (xs : List Value), w.heap[b]? = some (.cells cur E (0, 0)) ∧ RepDs c.M w rows.flatten xs ∧ xs.length = rows.length * sz ∧ (∀ j, j < rows.length * sz → cur[j]? = xs[j]?) ∧ (∀ r ∈ rows, r.length = sz) ∧ (∀ r ∈ rows, ∀ d ∈ r, d.one = true) ∧ n = rows.length ∧ rows.length * sz ≤ cur.size := by
  cases hck with
  | row _ _ _ _ u xs hu hown hr hsz h1 hg =>
    rw [hb] at hu
    cases hu
    rcases hown.2 with ⟨h0, _⟩ | ⟨gb, cap', cur, e1, e2, e3, e4, e5, e6, e7⟩
    · cases h0
    · cases e1
      refine ⟨cur, xs, e3, hr, hown.1, fun j hj => ?_, hsz, h1, rfl, ?_⟩
      · rw [← e7, List.getElem?_take_of_lt hj, Array.getElem?_toList]
      · rw [e6]; exact Nat.mul_le_mul_right sz e4
theorem op_indexOwn {t e k g sz : Nat} {x y : Operand} {ti te : TI} {rows : List (List D)} {kd : IntKind} {n : Int} (ho : o.op = .indexAddr t x y) (ht : tcheck X.P t = some ti) (he' : ti.elem = some e) (hte : tcheck X.P e = some te) (hsz : te.size = sz)
    (hx : ev s x = .own k g) (hk : s.heap k = .row e sz g rows) (hy : ev s y = .d (.v (.int kd n))) (hn : 0 ≤ n) (hlt : n.toNat < rows.length) : OpOK X ops s o { pv := .rp k g sz n.toNat 0, touch := [k] } :=
  opok_read hd fun s' he hkk a w c hc => by
    have e1 := ev_ok hc x
    rw [he x (by simp [ho, Op.operands]), hx] at e1
    have e2 := ev_v' hc ((he y (by simp [ho, Op.operands])).trans hy)
    have hck := hc.chunk k
    rw [hkk k (by simp), hk] at hck
    generalize hu : a.eval x = u at e1
    obtain ⟨i, d, z, tk⟩ := tck ht
    obtain ⟨ie, de, ze, tke⟩ := tck hte
    have hde : d = .slice e := by
      have := tk.elem
      rw [he'] at this
      cases d <;> simp [elemD] at this
      rw [this]
    subst hde
    cases e1 with
    | own _ _ _ hov h1 =>
      cases hck with
      | row _ _ _ _ u' xs hu' hown hr hszr h1 hg =>
        rw [hov] at hu'
        cases hu'
        rcases hown.2 with ⟨_, h0⟩ | ⟨gb, cap, cur, rfl, e2', e3, e4, e5, e6, e7⟩
        · omega
        · have hcond : 0 ≤ n ∧ n < (rows.length : Int) := ⟨hn, by omega⟩
          refine ⟨.pointer (some ⟨gb, n.toNat * sz + 0, none⟩), ?_, .rp k g sz _ _ gb _ cap hov⟩
          simp [execOp, ho, hu, e2, Instr.indexAt, asIntOf, run_underlying tk.und, hcond, sizeOf, typeInfo, tke.info, tke.size, hsz, Addr.add_lit]
theorem op_loadRp {t k g sz i j E : Nat} {x : Operand} {ti : TI} {rows : List (List D)} {row : List D} {p : D} (ho : o.op = .load t x) (ht : tcheck X.P t = some ti) (hx : ev s x = .rp k g sz i j) (hk : s.heap k = .row E sz g rows) (hrow : rows[i]? = some row) (hsz : j + ti.size ≤ sz)
    (hp : (ti.agg = true ∧ p = .agg ((row.drop j).take ti.size)) ∨ (ti.agg = false ∧ ti.size = 1 ∧ row[j]? = some p)) : OpOK X ops s o { pv := .d p, touch := [k] } :=
  opok_read hd fun s' he hkk a w c hc => by
    have e1 := ev_ok hc x
    rw [he x (by simp [ho, Op.operands]), hx] at e1
    have hck := hc.chunk k
    rw [hkk k (by simp), hk] at hck
    generalize hu : a.eval x = u at e1
    cases e1 with
    | rp _ _ _ _ _ b n cap hb =>
      obtain ⟨cur, xs, q1, q2, q3, q4, q5, q6, q7, q8⟩ := row_cells hck hb
      have hi : i < rows.length := (List.getElem?_eq_some_iff.1 hrow).1
      have hrl : row.length = sz := q5 row (List.mem_of_getElem? hrow)
      have hlim : (i + 1) * sz ≤ rows.length * sz := Nat.mul_le_mul_right sz hi
      rw [Nat.succ_mul] at hlim
      have hcell : ∀ j', j' < sz → cur[i * sz + j']? = xs[i * sz + j']? := fun j' hj' => q4 _ (by omega)
      have hflat : ∀ j', j' < sz → rows.flatten[i * sz + j']? = row[j']? := fun j' hj' => by rw [flatten_atG q5 i j' hj', hrow]; rfl
      have hrun := run_loadAt ht w b (i * sz + j) ((xs.drop (i * sz + j)).take ti.size) (by rw [List.length_take, List.length_drop]; omega) (fun j' v hj' => by
        rw [List.getElem?_take] at hj'
        split at hj'
        · rw [List.getElem?_drop] at hj'
          simp only [World.cell?, q1]
          rw [Nat.add_assoc, hcell (j + j') (by omega), ← Nat.add_assoc, hj']
          simp
        · cases hj')
      rcases hp with ⟨hag, rfl⟩ | ⟨hag, hs1, hp⟩
      · refine ⟨.agg ((xs.drop (i * sz + j)).take ti.size).toArray, ?_, .d _ _ (.agg _ _ (by rw [List.length_take, List.length_take, List.length_drop, List.length_drop]; omega) (fun d hd => q6 row (List.mem_of_getElem? hrow) d (List.mem_of_mem_drop (List.mem_of_mem_take hd))) (fun j' d v hj' hv => ?_))⟩
        · have := hrun (fun h => by rw [hag] at h; cases h)
          rw [hag, if_pos rfl] at this
          simp only [execOp, ho, hu]
          rw [Sem.run_bind, this]
          rfl
        · rw [List.getElem?_take] at hj' hv
          split at hj'
          · rename_i hlt
            rw [if_pos hlt] at hv
            rw [List.getElem?_drop] at hj' hv
            exact q2.2 (i * sz + (j + j')) d v (by rw [hflat _ (by omega)]; exact hj') (by rw [← Nat.add_assoc]; exact hv)
          · cases hj'
      · obtain ⟨v, hv⟩ : ∃ v, xs[i * sz + j]? = some v := ⟨xs[i * sz + j]'(by omega), List.getElem?_eq_getElem _⟩
        have hone : (xs.drop (i * sz + j)).take ti.size = [v] := by
          rw [hs1, List.drop_eq_getElem_cons (by omega)]
          simp only [List.take_succ_cons, List.take_zero]
          rw [List.getElem?_eq_getElem (by omega)] at hv
          simpa using hv
        refine ⟨v, ?_, .d _ _ (q2.2 (i * sz + j) p v (by rw [hflat _ (by omega)]; exact hp) hv)⟩
        have := hrun (fun _ => ⟨v, hone⟩)
        rw [hag, hone] at this
        simp only [execOp, ho, hu]
        rw [Sem.run_bind, this]
        rfl
theorem op_lenOwn {t k g sz E : Nat} {x : Operand} {e : Nat} {ti : TI} {rows : List (List D)} (ho : o.op = .call { callee := .builtin .len, args := #[x], argTypes := #[t] }) (ht : tcheck X.P t = some ti) (he' : ti.elem = some e) (hx : ev s x = .own k g) (hk : s.heap k = .row E sz g rows) :
    OpOK X ops s o { pv := .d (.v (.int .i64 rows.length)), touch := [k] } :=
  opok_read hd fun s' he hkk a w c hc => by
    have e1 := ev_ok hc x
    rw [he x (by simp [ho, Op.operands, Call.operands]), hx] at e1
    have hck := hc.chunk k
    rw [hkk k (by simp), hk] at hck
    generalize hu : a.eval x = u at e1
    obtain ⟨i, dd, z, tk⟩ := tck ht
    have hde : dd = .slice e := by
      have := tk.elem
      rw [he'] at this
      cases dd <;> simp [elemD] at this
      rw [this]
    subst hde
    cases e1 with
    | own _ _ _ hov h1 =>
      cases hck with
      | row _ _ _ _ u' xs hu' hown hr hszr h1 hg =>
        rw [hov] at hu'
        cases hu'
        refine ⟨.int .i64 rows.length, ?_, .d _ _ (.v _)⟩
        rcases hown.2 with ⟨rfl, h0⟩ | ⟨gb, cap, cur, rfl, e2', e3, e4, e5, e6, e7⟩
        · simp [execOp, ho, hu, resolve, invoke, builtin, Builtin.len_, run_underlying tk.und, goInt, h0]
        · simp [execOp, ho, hu, resolve, invoke, builtin, Builtin.len_, run_underlying tk.und, goInt]
end
end Go.Proofs.Ytflbpkgnadjokaa
namespace Go.Proofs.Ytflbpkgnadjokaa
open Go Go.RowKit
section
variable {X : Cfg} {ops : Array Oper} {s : FS} {o : Oper} (hd : ∀ d, o.dst = some d → d < X.n)
include hd
theorem op_alloc {t nk : Nat} {ti : TI} (ho : o.op = .alloc t) (ht : tcheck X.P t = some ti) (hk : s.heap nk = .none) : OpOK X ops s o { pv := .ptr nk 0, eff := [(nk, .box t (ti.zero.map fun x => .d (.v x)))], touch := [nk] } :=
  opok_gen hd (fun kc h => by simp at h; subst h; simp) fun s' he hkk a w c hc => by
    obtain ⟨i, d, z, tk⟩ := tck ht
    have hr : RepPs c w (ti.zero.map fun x => .d (.v x)) ti.zero := by
      have := repPs_d (c := c) (repDs_v (M := c.M) (w := w) ti.zero)
      rwa [List.map_map] at this
    obtain ⟨c', h1, h2⟩ := hc.new_box (k := nk) (by rw [hkk nk (by simp)]; exact hk) t _ ti.zero hr (fun d hd => by
      obtain ⟨x, hx, rfl⟩ := List.mem_map.1 hd
      exact tk.one x hx)
    refine ⟨_, _, _, ?_, .inl rfl, c', h1, h2⟩
    have hz : z.cells = ti.zero.toArray := by rw [← tk.zcells]
    have hrun : (Instr.alloc t true (.tuple #[])).run X.P w = .ok (.pointer (some ⟨w.heap.size, 0, none⟩)) (w.alloc (.cells ti.zero.toArray t)) := by
      rw [← hz]
      have hnew : ∀ o : Obj, ({ w with heap := w.heap.push o } : World) = w.alloc o := fun o => (World.alloc_eq w o)
      simp [Instr.alloc, zeroValue, typeInfo, tk.info, tk.zero, newVar, newRow, newObj, Sem.run, hnew]
    simp only [execOp, ho]
    rw [Sem.run_bind, hrun]
    rfl
theorem op_box {t nk : Nat} {x : Operand} (ho : o.op = .box t x) (hk : s.heap nk = .none) (hx : okP (ev s x) = true) : OpOK X ops s o { pv := .ptr nk 0, eff := [(nk, .box t (cellsP (ev s x)))], touch := [nk] } :=
  opok_gen hd (fun kc h => by simp at h; subst h; simp) fun s' he hkk a w c hc => by
    have e1 := ev_ok hc x
    rw [he x (by simp [ho, Op.operands])] at e1
    obtain ⟨r1, r2⟩ := cells_rep e1 hx
    obtain ⟨c', h1, h2⟩ := hc.new_box (k := nk) (by rw [hkk nk (by simp)]; exact hk) t _ _ r1 r2
    refine ⟨_, _, _, ?_, .inl rfl, c', h1, h2⟩
    have hrun : (Instr.box t (a.eval x)).run X.P w = .ok (.pointer (some ⟨w.heap.size, 0, none⟩)) (w.alloc (.cells (a.eval x).cells.toList.toArray t)) := by
      have hnew : ∀ o : Obj, ({ w with heap := w.heap.push o } : World) = w.alloc o := fun o => (World.alloc_eq w o)
      simp [Instr.box, newVar, newRow, newObj, Sem.run, hnew]
    simp only [execOp, ho]
    rw [Sem.run_bind, hrun]
    rfl
theorem op_store {t k off T : Nat} {x y : Operand} {ti : TI} {cells : List PV} (ho : o.op = .store t x y) (hdst : o.dst = none) (ht : tcheck X.P t = some ti) (hx : ev s x = .ptr k off) (hk : s.heap k = .box T cells) (hy : okP (ev s y) = true)
    (hl : (cellsP (ev s y)).length = ti.size) (hsz : off + ti.size ≤ cells.length) : OpOK X ops s o { pv := .any, eff := [(k, .box T (setAt cells off (cellsP (ev s y))))], touch := [k] } :=
  opok_gen hd (fun kc h => by simp at h; subst h; simp) fun s' he hkk a w c hc => by
    have e1 := ev_ok hc x
    rw [he x (by simp [ho, Op.operands]), hx] at e1
    have e2 := ev_ok hc y
    rw [he y (by simp [ho, Op.operands])] at e2
    obtain ⟨r1, r2⟩ := cells_rep e2 hy
    have hone := RepPs.one r1 r2
    have hk' : s'.heap k = .box T cells := by rw [hkk k (by simp)]; exact hk
    have hck := hc.chunk k
    rw [hk'] at hck
    generalize hu : a.eval x = u at e1
    cases e1 with
    | ptr _ _ b hb =>
      cases hck with
      | box _ _ b' vs hb' hh hr h1 =>
        rw [hb] at hb'
        cases hb'
        obtain ⟨i, d, z, tk⟩ := tck ht
        have hvl : vs.length = cells.length := hr.1.symm
        have hyl : (a.eval y).cells.size = ti.size := by have := r1.1; simp at this; omega
        have hset := repPs_set (off := off) hr r1 (by omega)
        have h3 := hc.set_box hk' hb hh hset (fun d hd => (mem_setAt hd).elim (h1 d) (r2 d))
        refine ⟨.skip, undef, _, ?_, .inr ⟨rfl, rfl⟩, c, h3, .any _⟩
        have hst := run_storeCells_at X.P b off T (a.eval y).cells.toList 0 vs.toArray w hh (by simp; omega) hone
        have hst2 : (storeCells ⟨b, off, none⟩ (a.eval y).cells.toList).run X.P w = .ok () (w.setRow b (setAt vs off (a.eval y).cells.toList).toArray) := by
          rw [hst]
          simp [setAt]
        have hrun : (Instr.storeAt t (a.eval x) (a.eval y)).run X.P w = .ok () (w.setRow b (setAt vs off (a.eval y).cells.toList).toArray) := by
          rw [hu]
          simp [Instr.storeAt, Instr.sureAddr, storeVar, sizeOf, typeInfo, tk.info, tk.size, hyl, hst2]
        simp only [execOp, ho]
        rw [Sem.run_bind, hrun]
        rfl
omit hd in
theorem flatten_at {α : Type} {sz : Nat} : ∀ {rows : List (List α)}, (∀ r ∈ rows, r.length = sz) → ∀ i j, j < sz → rows.flatten[i * sz + j]? = (rows[i]?).bind (·[j]?)
  | [], _, i, j, _ => by simp
  | r :: rows, h, 0, j, hj => by
    rw [List.flatten_cons, List.getElem?_append_left (by rw [h r (by simp)]; omega)]
    simp
  | r :: rows, h, i + 1, j, hj => by
    have hr := h r (by simp)
    rw [List.flatten_cons, List.getElem?_append_right (by rw [hr, Nat.succ_mul]; omega), hr, show (i + 1) * sz + j - sz = i * sz + j by rw [Nat.succ_mul]; omega, flatten_at (fun r hr => h r (by simp [hr])) i j hj]
    simp
omit hd in
theorem flatten_len {α : Type} {sz : Nat} : ∀ {rows : List (List α)}, (∀ r ∈ rows, r.length = sz) → rows.flatten.length = rows.length * sz
  | [], _ => by simp
  | r :: rows, h => by
    rw [List.flatten_cons, List.length_append, h r (by simp), flatten_len (fun r hr => h r (by simp [hr])), List.length_cons, Nat.succ_mul]
    omega
omit hd in
/-- The cells of a slice that reads as rows. -/
theorem sl_cells {M : Nat → Prop} {w : World} {sz : Nat} {rows : List (List D)} {ad : Addr} {n cap : Nat} (hs : 0 < sz) (h : RepD M w (.sl sz rows) (.slice (some ad) n cap)) :
    ∃ xs : List Value, xs.length = n * sz ∧ n = rows.length ∧ RepDs M w rows.flatten xs ∧ (∀ j u, xs[j]? = some u → w.cell? (ad.add j) = some u) ∧ (∀ u ∈ xs, u.oneCell' = true) ∧ (∀ r ∈ rows, r.length = sz) ∧ (∀ r ∈ rows, ∀ d ∈ r, d.one = true) := by
  cases h with
  | nil _ _ _ hm => exact ⟨[], by simp, rfl, ⟨rfl, fun j d x h => by simp at h⟩, fun j u h => by simp at h, fun u h => by simp at h, fun r h => by simp at h, fun r h => by simp at h⟩
  | sl _ _ b off cap f hM hb hc hm hr h1 hcell hrep =>
    have hdm : ∀ j, j < rows.length * sz → j / sz < rows.length ∧ j % sz < sz ∧ j / sz * sz + j % sz = j := fun j hj =>
      ⟨Nat.div_lt_of_lt_mul (by rw [Nat.mul_comm]; exact hj), Nat.mod_lt _ hs, by rw [Nat.mul_comm]; exact Nat.div_add_mod j sz⟩
    have hget : ∀ j u, ((List.range (rows.length * sz)).map fun j => f (j / sz) (j % sz))[j]? = some u → j < rows.length * sz ∧ u = f (j / sz) (j % sz) := by
      intro j u hj
      simp only [List.getElem?_map, Option.map_eq_some_iff] at hj
      obtain ⟨y, hy, rfl⟩ := hj
      have hj' : j < rows.length * sz := by
        rcases Nat.lt_or_ge j (rows.length * sz) with h | h
        · exact h
        · rw [List.getElem?_eq_none (by simpa using h)] at hy; cases hy
      rw [List.getElem?_range hj'] at hy
      cases hy
      exact ⟨hj', rfl⟩
    have hrd : RepDs M w rows.flatten ((List.range (rows.length * sz)).map fun j => f (j / sz) (j % sz)) := by
      refine ⟨by rw [flatten_len hr]; simp, fun j d x hj hx => ?_⟩
      obtain ⟨hj', rfl⟩ := hget j x hx
      obtain ⟨q1, q2, q3⟩ := hdm j hj'
      rw [← q3, flatten_at hr _ _ q2] at hj
      cases hrow : rows[j / sz]? with
      | none => rw [hrow] at hj; cases hj
      | some row =>
        rw [hrow] at hj
        exact hrep _ _ row d hrow hj
    refine ⟨_, by simp, rfl, hrd, fun j u hj => ?_, RepDs.one hrd (fun d hd => ?_), hr, h1⟩
    · obtain ⟨hj', rfl⟩ := hget j u hj
      obtain ⟨q1, q2, q3⟩ := hdm j hj'
      rw [Addr.add_lit]
      have := hcell _ _ q1 q2
      rwa [Nat.add_assoc, q3] at this
    · obtain ⟨r, hr', hdr⟩ := List.mem_flatten.1 hd
      exact h1 r hr' d hdr
omit hd in
/-- Where an append to an own row leaves it. -/
theorem append_where {P : Program} {w : World} (base : Nat) (t ty e : TypeId) (i : TypeInfo) (z : Value) (size bytes : Nat) (ht : P.underlying t = some (.slice e)) (hi : P.info? e = some i) (hz : i.zero = some z)
    (hsize : i.size = size) (hby : i.bytes = bytes) (hzs : z.cells.size = size) (hsz : 0 < size) (v : Value) (n : Nat) (xs : List Value) (hown : w.ownsRow base e size v n xs)
    (a : Addr) (m c : Nat) (news : List Value) (hl : news.length = m * size) (hnews : ∀ j u, news[j]? = some u → w.cell? (a.add j) = some u) (h1 : ∀ u ∈ news, u.oneCell' = true)
    (h63 : n + m ≤ maxLen) (hbytes : (n + m) * bytes ≤ 140737488355328) {v' : Value} {w' : World} (hrun : (Builtin.append_ #[t, t] ty #[v, .slice (some a) m c]).run P w = .ok v' w') :
    v'.ownBlock = v.ownBlock ∨ ∀ b, v'.ownBlock = some b → w.heap.size ≤ b := by
  subst hsize
  subst hby
  simp only [maxLen] at h63
  rcases hown.2 with ⟨rfl, rfl⟩ | ⟨g, cap, cur, rfl, hbg, hg, hnc, hcm, hcs, htake⟩
  · by_cases hm : m = 0
    · subst hm
      have hn : news = [] := List.eq_nil_of_length_eq_zero (by simpa using hl)
      have : (Builtin.append_ #[t, t] ty #[.slice none 0 0, .slice (some a) 0 c]).run P w = .ok (.slice none 0 0) w := by
        simp [Builtin.append_, run_underlying ht, sizeOf, typeInfo, hi, Builtin.lenOf, Builtin.firstCells, loadCells, loadCellsFrom]
      rw [this] at hrun
      cases hrun
      exact .inl rfl
    · have hr := run_append_nil (P := P) w t ty e i z ht hi hz a m c news hl hnews (by omega) (by omega) (by have hb := hbytes; simp only [Nat.zero_add] at hb; omega)
      rw [hr] at hrun
      cases hrun
      refine .inr fun b hb => ?_
      simp [Value.ownBlock] at hb
      omega
  · by_cases hroom : n + m ≤ cap
    · have hfit : n * i.size + news.length ≤ cur.size := by rw [hl, hcs, ← Nat.add_mul]; exact Nat.mul_le_mul_right _ hroom
      have hr := run_append_room (P := P) w t ty e i ht hi g n cap cur hg a m c news hl hnews h1 hroom hfit
      rw [hr] at hrun
      cases hrun
      exact .inl rfl
    · have holds : ∀ j u, xs[j]? = some u → w.cell? ((⟨g, 0, none⟩ : Addr).add j) = some u := hown.cells (g := g) rfl
      have hr := run_append_grow (P := P) w t ty e i z ht hi hz ⟨g, 0, none⟩ n cap xs hown.1 holds a m c news hl hnews (by omega) (by omega) (growslice_fits (by omega) hbytes)
      rw [hr] at hrun
      cases hrun
      refine .inr fun b hb => ?_
      simp [Value.ownBlock] at hb
      omega
omit hd in
theorem run_append_none {P : Program} {w : World} (base : Nat) (t ty e : TypeId) (i : TypeInfo) (size : Nat) (ht : P.underlying t = some (.slice e)) (hi : P.info? e = some i) (v : Value) (n : Nat) (xs : List Value) (hown : w.ownsRow base e size v n xs) (c : Nat) :
    (Builtin.append_ #[t, t] ty #[v, .slice none 0 c]).run P w = .ok v w := by
  rcases hown.2 with ⟨rfl, rfl⟩ | ⟨g, cap, cur, rfl, hbg, hg, hnc, hcm, hcs, htake⟩
  · simp [Builtin.append_, run_underlying ht, sizeOf, typeInfo, hi, Builtin.lenOf, Builtin.firstCells]
  · simp [Builtin.append_, run_underlying ht, sizeOf, typeInfo, hi, Builtin.lenOf, Builtin.firstCells, hnc, storeCells]
/-- append to a row of one's own. -/
theorem op_append {t e k sz g : Nat} {x y : Operand} {ti te : TI} {rows news : List (List D)} (ho : o.op = .call { callee := .builtin .append, args := #[x, y], argTypes := #[t, t] }) (ht : tcheck X.P t = some ti) (he' : ti.elem = some e) (hte : tcheck X.P e = some te)
    (hsz : te.size = sz) (hs0 : 0 < sz) (hx : ev s x = .own k g) (hk : s.heap k = .row e sz g rows) (hy : ev s y = .d (.sl sz news) ∨ (ev s y = .d (.v (.slice none 0 0)) ∧ news = []))
    (hlen : rows.length + news.length ≤ 9223372036854775807) (hby : (rows.length + news.length) * te.bytes ≤ 140737488355328) :
    OpOK X ops s o { pv := .own k (g + 1), eff := [(k, .row e sz (g + 1) (rows ++ news))], touch := [k] } :=
  opok_gen hd (fun kc h => by simp at h; subst h; simp) fun s' he hkk a w c hc => by
    have e1 := ev_ok hc x
    rw [he x (by simp [ho, Op.operands, Call.operands]), hx] at e1
    have e2 := ev_ok hc y
    rw [he y (by simp [ho, Op.operands, Call.operands])] at e2
    have hk' : s'.heap k = .row e sz g rows := by rw [hkk k (by simp)]; exact hk
    have hck := hc.chunk k
    rw [hk'] at hck
    obtain ⟨i, d, z, tk⟩ := tck ht
    obtain ⟨ie, de, ze, tke⟩ := tck hte
    have hde : d = .slice e := by
      have := tk.elem
      rw [he'] at this
      cases d <;> simp [elemD] at this
      rw [this]
    subst hde
    have hzs : ze.cells.size = sz := by rw [← hsz, ← tke.zsize, ← tke.zcells]; simp
    have hexec : ∀ u v, a.eval x = u → a.eval y = v → ∀ v' w', (Builtin.append_ #[t, t] o.type #[u, v]).run X.P w = .ok v' w' → (execOp a.eval o).run X.P w = .ok (.value v') w' := by
      intro u v hu hv v' w' hr
      simp [execOp, ho, resolve, hu, hv, invoke, builtin, hr]
    generalize hu : a.eval x = u at e1
    generalize hv : a.eval y = v at e2
    cases e1 with
    | own _ _ _ hov hv1 =>
      cases hck with
      | row _ _ _ _ u' xs hu' hown hr hszr h1 hg =>
        rw [hov] at hu'
        cases hu'
        have hsrc : (∃ c0, v = .slice none 0 c0 ∧ news = []) ∨ ∃ ad m cap, v = .slice (some ad) m cap ∧ RepD c.M w (.sl sz news) v := by
          rcases hy with hy | ⟨hy, hn⟩
          · rw [hy] at e2
            have e2 := repD_inv e2
            cases e2 with
            | nil _ ao cap hm =>
              cases ao with
              | none => exact .inl ⟨cap, rfl, rfl⟩
              | some ad => exact .inr ⟨_, _, _, rfl, .nil _ _ _ hm⟩
            | sl _ _ b off cap f a1 a2 a3 a4 a5 a6 a7 a8 => exact .inr ⟨_, _, _, rfl, .sl _ _ b off cap f a1 a2 a3 a4 a5 a6 a7 a8⟩
          · rw [hy] at e2
            have e2 := repD_inv e2
            cases e2
            exact .inl ⟨0, rfl, hn⟩
        rcases hsrc with ⟨c0, rfl, rfl⟩ | ⟨ad, m, cap, rfl, hrep⟩
        · have hrun := run_append_none (P := X.P) X.w0.heap.size t o.type e ie sz tk.und tke.info u rows.length xs hown c0
          obtain ⟨c', q1, q2⟩ := hc.set_row (w' := w) (rows' := rows ++ []) (v' := u) (xs' := xs) hk' hov ⟨rfl, rfl, rfl, Nat.le_refl _, fun _ _ _ => rfl⟩ (by rw [List.append_nil]; exact hown) (.inl rfl) (by rw [List.append_nil]; exact hr)
            (by rw [List.append_nil]; exact hszr) (by rw [List.append_nil]; exact h1)
          exact ⟨_, _, _, hexec _ _ hu hv _ _ hrun, .inl rfl, c', q1, q2⟩
        · obtain ⟨ys, y1, rfl, y2, y3, y4, y5, y6⟩ := sl_cells hs0 hrep
          obtain ⟨v', w', hrun, hown', hgr, -⟩ := run_append_own (P := X.P) w X.w0.heap.size t o.type e ie ze sz te.bytes tk.und tke.info tke.zero (tke.size.trans hsz) tke.bytes hzs hs0 u rows.length xs hown ad news.length cap ys y1 y3 y4 (by unfold maxLen; exact hlen) hby hc.ext.size
          have hwh := append_where (P := X.P) (w := w) X.w0.heap.size t o.type e ie ze sz te.bytes tk.und tke.info tke.zero (tke.size.trans hsz) tke.bytes hzs hs0 u rows.length xs hown ad news.length cap ys y1 y3 y4 (by unfold maxLen; exact hlen) hby hrun
          obtain ⟨c', q1, q2⟩ := hc.set_row (w' := w') (rows' := rows ++ news) (v' := v') (xs' := xs ++ ys) hk' hov hgr (by rw [List.length_append]; exact hown') hwh (by rw [List.flatten_append]; exact repDs_app hr y2)
            (fun r hr' => (List.mem_append.1 hr').elim (hszr r) (y5 r)) (fun r hr' => (List.mem_append.1 hr').elim (h1 r) (y6 r))
          exact ⟨_, _, _, hexec _ _ hu hv _ _ hrun, .inl rfl, c', q1, q2⟩
/-- append to nothing: a row of one's own begins. -/
theorem op_appendNil {t e nk sz : Nat} {x y : Operand} {ti te : TI} {news : List (List D)} (ho : o.op = .call { callee := .builtin .append, args := #[x, y], argTypes := #[t, t] }) (ht : tcheck X.P t = some ti) (he' : ti.elem = some e) (hte : tcheck X.P e = some te)
    (hsz : te.size = sz) (hs0 : 0 < sz) (hx : ev s x = .d (.v (.slice none 0 0))) (hk : s.heap nk = .none) (hy : ev s y = .d (.sl sz news))
    (hlen : news.length ≤ 9223372036854775807) (hby : news.length * te.bytes ≤ 140737488355328) :
    OpOK X ops s o { pv := .own nk 0, eff := [(nk, .row e sz 0 news)], touch := [nk] } :=
  opok_gen hd (fun kc h => by simp at h; subst h; simp) fun s' he hkk a w c hc => by
    have e2 := ev_ok hc y
    rw [he y (by simp [ho, Op.operands, Call.operands]), hy] at e2
    have hk' : s'.heap nk = .none := by rw [hkk nk (by simp)]; exact hk
    have hu := ev_v' hc ((he x (by simp [ho, Op.operands, Call.operands])).trans hx)
    obtain ⟨i, d, z, tk⟩ := tck ht
    obtain ⟨ie, de, ze, tke⟩ := tck hte
    have hde : d = .slice e := by
      have := tk.elem
      rw [he'] at this
      cases d <;> simp [elemD] at this
      rw [this]
    subst hde
    have hzs : ze.cells.size = sz := by rw [← hsz, ← tke.zsize, ← tke.zcells]; simp
    generalize hv : a.eval y = v at e2
    have hexec : ∀ v' w', (Builtin.append_ #[t, t] o.type #[.slice none 0 0, v]).run X.P w = .ok v' w' → (execOp a.eval o).run X.P w = .ok (.value v') w' := by
      intro v' w' hr
      simp [execOp, ho, resolve, hu, hv, invoke, builtin, hr]
    have e2 := repD_inv e2
    have hnil := World.ownsRow_nil w w.heap.size e sz
    have some_case : ∀ (ad : Addr) (n cap : Nat), RepD c.M w (.sl sz news) (.slice (some ad) n cap) → v = .slice (some ad) n cap →
        ∃ n v w', (execOp a.eval o).run X.P w = .ok n w' ∧ (n = .value v ∨ (n = .skip ∧ v = undef)) ∧ ∃ c', RealC X { s' with heap := effH [(nk, .row e sz 0 news)] s'.heap } a w' c' ∧ RepP c' w' (.own nk 0) v := by
      intro ad n cap hrep hvv
      subst hvv
      obtain ⟨ys, y1, rfl, y2, y3, y4, y5, y6⟩ := sl_cells hs0 hrep
      obtain ⟨v', w', hrun, hown', hgr, -⟩ := run_append_own (P := X.P) w w.heap.size t o.type e ie ze sz te.bytes tk.und tke.info tke.zero (tke.size.trans hsz) tke.bytes hzs hs0 (.slice none 0 0) 0 [] hnil _ news.length cap ys y1 y3 y4 (by unfold maxLen; omega) (by rw [Nat.zero_add]; exact hby) (Nat.le_refl _)
      have hx' : Ext w w' := (Below.refl w.heap.size w).grown hgr (Nat.le_refl _) (fun k hk => by simp [Value.ownBlock] at hk)
      obtain ⟨c', q1, q2⟩ := hc.new_row (w' := w') hk' e sz news v' ys hx' (by rw [Nat.zero_add, List.nil_append] at hown'; exact hown') y2 y5 y6
      exact ⟨_, _, _, hexec _ _ hrun, .inl rfl, c', q1, q2⟩
    cases e2 with
    | nil _ ao cap hm =>
      cases ao with
      | some ad => exact some_case ad 0 cap (.nil _ _ _ hm) rfl
      | none =>
        have hrun := run_append_none (P := X.P) w.heap.size t o.type e ie sz tk.und tke.info (.slice none 0 0) 0 [] hnil cap
        obtain ⟨c', q1, q2⟩ := hc.new_row (w' := w) hk' e sz [] (.slice none 0 0) [] (Below.refl _ _) hnil ⟨rfl, fun j d x h => by simp at h⟩ (by simp) (by simp)
        exact ⟨_, _, _, hexec _ _ hrun, .inl rfl, c', q1, q2⟩
    | sl _ _ b off cap f a1 a2 a3 a4 a5 a6 a7 a8 => exact some_case _ _ _ (.sl _ _ b off cap f a1 a2 a3 a4 a5 a6 a7 a8) rfl
end
end Go.Proofs.Ytflbpkgnadjokaa
namespace Go.Proofs.Ytflbpkgnadjokaa
open Go Go.RowKit
/-- A call of the function is a call. -/
def FnOK (P : Program) (f : Nat) : Prop := ∀ (args : Array Value) (w : World), (callFunc f args).run P w = .ok (.enter f args) w
/-- What is proved of a function: handed values that read as these data, it returns one that reads as this; no old block is turned. -/
def PSpec (P : Program) (f : Nat) (args : List D) (r : D) : Prop :=
  FnOK P f ∧ ∀ (M : Nat → Prop) (w : World) (vs : List Value), (∀ b, M b → b < w.heap.size) → RepDs M w args vs → Calls P f vs.toArray w fun e w' => ∃ v, e = .returned v ∧ RepD M w' r v ∧ Ext w w'
def D.isV : D → Bool
  | .v _ => true
  | _ => false
/-- No memory is behind it. -/
def D.flat : D → Bool
  | .v _ => true
  | .agg l => l.all D.isV
  | .tup l => l.all fun d => match d with | .v _ => true | .agg l => l.all D.isV | _ => false
  | _ => false
theorem isV_rep {M M' : Nat → Prop} {w w' : World} {d : D} {v : Value} (h : RepD M w d v) (hf : d.isV = true) : RepD M' w' d v := by
  cases d <;> simp [D.isV] at hf
  cases h
  exact .v _
theorem flat_rep {M M' : Nat → Prop} {w w' : World} {d : D} {v : Value} (h : RepD M w d v) (hf : d.flat = true) : RepD M' w' d v := by
  cases h with
  | v => exact .v _
  | agg cells vs hl h1 hrep =>
    simp only [D.flat, List.all_eq_true] at hf
    exact .agg cells vs hl h1 fun j d x hj hx => isV_rep (hrep j d x hj hx) (hf d (List.mem_of_getElem? hj))
  | tup ds vs hl hrep =>
    simp only [D.flat, List.all_eq_true] at hf
    refine .tup ds vs hl fun j d x hj hx => ?_
    have h0 := hrep j d x hj hx
    have h1 := hf d (List.mem_of_getElem? hj)
    cases h0 with
    | v => exact .v _
    | agg cells us hl' h1' hrep' =>
      simp only [List.all_eq_true] at h1
      exact .agg cells us hl' h1' fun j d x hj hx => isV_rep (hrep' j d x hj hx) (h1 d (List.mem_of_getElem? hj))
    | _ => simp at h1
  | _ => simp [D.flat] at hf
def view0 (h : Nat → Chunk) : PV → Option D
  | .d x => some x
  | .own k g => match h k with | .row _ sz g' rows => if g = g' then some (.sl sz rows) else none | _ => none
  | _ => none
def viewL (f : PV → Option D) : List PV → Option (List D)
  | [] => some []
  | p :: l => match f p, viewL f l with | some d, some ds => some (d :: ds) | _, _ => none
def view1 (h : Nat → Chunk) : PV → Option D
  | .ptr k off => match h k with | .box _ cells => (viewL (view0 h) (cells.drop off)).map .ept | _ => none
  | p => view0 h p
def view2 (h : Nat → Chunk) : PV → Option D
  | .clo g caps => (viewL (view1 h) caps).map (.clo g)
  | p => view1 h p
def tch0 : PV → List Nat
  | .own k _ => [k]
  | _ => []
def tchL (f : PV → List Nat) : List PV → List Nat
  | [] => []
  | p :: l => f p ++ tchL f l
def tch1 (h : Nat → Chunk) : PV → List Nat
  | .ptr k _ => k :: (match h k with | .box _ cells => tchL tch0 cells | _ => [])
  | p => tch0 p
def tch2 (h : Nat → Chunk) : PV → List Nat
  | .clo _ caps => tchL (tch1 h) caps
  | p => tch1 h p
theorem view0_same {h h' : Nat → Chunk} {p : PV} (e : ∀ k ∈ tch0 p, h' k = h k) : view0 h' p = view0 h p := by
  cases p with
  | own k g => simp only [view0, e k (by simp [tch0])]
  | _ => rfl
theorem tchL_mem {f : PV → List Nat} : ∀ {l : List PV} {p : PV}, p ∈ l → ∀ k ∈ f p, k ∈ tchL f l
  | q :: l, p, h, k, hk => by
    rcases List.mem_cons.1 h with rfl | h
    · exact List.mem_append_left _ hk
    · exact List.mem_append_right _ (tchL_mem h k hk)
theorem viewL_same {f f' : PV → Option D} : ∀ {l : List PV}, (∀ p ∈ l, f' p = f p) → viewL f' l = viewL f l
  | [], _ => rfl
  | p :: l, e => by simp only [viewL, e p (by simp), viewL_same (l := l) fun q hq => e q (by simp [hq])]
theorem view1_same {h h' : Nat → Chunk} {p : PV} (e : ∀ k ∈ tch1 h p, h' k = h k) : view1 h' p = view1 h p := by
  cases p with
  | ptr k off =>
    have hk := e k (by simp [tch1])
    simp only [view1, hk]
    cases hb : h k with
    | box T cells =>
      simp only
      rw [viewL_same fun q hq => view0_same fun k' hk' => e k' ?_]
      simp only [tch1, hb, List.mem_cons]
      exact .inr (tchL_mem (List.mem_of_mem_drop hq) k' hk')
    | _ => rfl
  | own k g => exact view0_same (p := .own k g) e
  | _ => rfl
theorem tch1_same {h h' : Nat → Chunk} {p : PV} (e : ∀ k ∈ tch1 h p, h' k = h k) : tch1 h' p = tch1 h p := by
  cases p with
  | ptr k off => simp only [tch1, e k (by simp [tch1])]
  | _ => rfl
theorem view2_same {h h' : Nat → Chunk} {p : PV} (e : ∀ k ∈ tch2 h p, h' k = h k) : view2 h' p = view2 h p := by
  cases p with
  | clo g caps => simp only [view2]; rw [viewL_same fun q hq => view1_same fun k hk => e k (tchL_mem hq k hk)]
  | ptr k off => exact view1_same (p := .ptr k off) e
  | own k g => exact view1_same (p := .own k g) e
  | _ => rfl
/-- The blocks that stay closed while these chunks are shown. -/
def lessM (c : Cx) (h : Nat → Chunk) (T : List Nat) (b : Nat) : Prop := c.M b ∧ ∀ k ∈ T, c.block k (h k) ≠ some b
theorem less_keep (c : Cx) (h : Nat → Chunk) (T : List Nat) (w : World) : Keep c.M w (lessM c h T) w := ⟨Nat.le_refl _, fun _ _ _ => rfl, fun _ _ h => h.1⟩
theorem own_sl {c : Cx} {w : World} {h : Nat → Chunk} {T : List Nat} {base k E sz g : Nat} {rows : List (List D)} {v : Value} (hk : h k = .row E sz g rows) (hck : ChunkOK base c w k (h k)) (hv : c.ov k g = some v) (hT : k ∈ T) : RepD (lessM c h T) w (.sl sz rows) v := by
  rw [hk] at hck
  cases hck with
  | row _ _ _ _ u xs hu hown hr hsz h1 hg =>
    rw [hv] at hu
    cases hu
    rcases hown.2 with ⟨rfl, hn⟩ | ⟨gb, cap, cur, rfl, e2, e3, e4, e5, e6, e7⟩
    · have : rows = [] := List.eq_nil_of_length_eq_zero hn
      subst this
      exact .nil sz none 0 (by omega)
    · have hlt : gb < w.heap.size := by
        rcases Nat.lt_or_ge gb w.heap.size with hl | hl
        · exact hl
        · rw [Array.getElem?_eq_none hl] at e3; cases e3
      have hxs : ∀ j, j < rows.length * sz → cur[j]? = xs[j]? := by
        intro j hj
        rw [← e7, List.getElem?_take_of_lt hj, Array.getElem?_toList]
      have hr' := RepDs.keep (less_keep c h T w) hr
      have hlen : xs.length = rows.length * sz := by rw [← hr.1, flatten_len hsz]
      refine .sl sz rows gb 0 cap (fun i j => xs.getD (i * sz + j) undef) (fun hm => hm.2 k hT (by rw [hk]; simp [Cx.block, hv, Value.ownBlock])) hlt e4 e5 hsz h1 (fun i j hi hj => ?_) (fun i j row d hi hj => ?_)
      · have hij : i * sz + j < rows.length * sz := by
          have : (i + 1) * sz ≤ rows.length * sz := Nat.mul_le_mul_right sz hi
          rw [Nat.succ_mul] at this; omega
        rw [Nat.zero_add]
        simp only [World.cell?, e3, hxs _ hij]
        simp [List.getD_eq_getElem?_getD, List.getElem?_eq_getElem (show i * sz + j < xs.length by omega)]
      · have hi' : i < rows.length := (List.getElem?_eq_some_iff.1 hi).1
        have hj' : j < sz := by rw [← hsz row (List.mem_of_getElem? hi)]; exact (List.getElem?_eq_some_iff.1 hj).1
        have hij : i * sz + j < rows.length * sz := by
          have : (i + 1) * sz ≤ rows.length * sz := Nat.mul_le_mul_right sz hi'
          rw [Nat.succ_mul] at this; omega
        have hx : xs[i * sz + j]? = some xs[i * sz + j] := List.getElem?_eq_getElem (by omega)
        have := hr'.2 (i * sz + j) d _ (by rw [flatten_at hsz i j hj', hi]; exact hj) hx
        simpa [List.getD_eq_getElem?_getD, hx] using this
section
variable {X : Cfg} {s : FS} {a : Act} {w : World} {c : Cx} (hc : RealC X s a w c) {T : List Nat}
include hc
theorem view0_ok {p : PV} {d : D} {v : Value} (hv : view0 s.heap p = some d) (ht : ∀ k ∈ tch0 p, k ∈ T) (hr : RepP c w p v) : RepD (lessM c s.heap T) w d v := by
  cases p with
  | d x =>
    cases hv
    exact (repD_inv hr).keep (less_keep c s.heap T w)
  | own k g =>
    simp only [view0] at hv
    split at hv
    · rename_i E sz g' rows hk
      split at hv
      · rename_i e
        subst e
        cases hv
        cases hr with
        | own _ _ _ hov _ => exact own_sl hk (hc.chunk k) hov (ht k (by simp [tch0]))
      · cases hv
    · cases hv
  | _ => cases hv
omit hc in
theorem view0_one {p : PV} {d : D} (hv : view0 s.heap p = some d) (h1 : p.one = true) : d.one = true := by
  cases p with
  | d x => cases hv; exact h1
  | own k g =>
    simp only [view0] at hv
    split at hv
    · split at hv
      · cases hv; rfl
      · cases hv
    · cases hv
  | _ => cases hv
omit hc in
theorem viewL_at {f : PV → Option D} : ∀ {l : List PV} {ds : List D}, viewL f l = some ds → l.length = ds.length ∧ ∀ (j : Nat) (d : D), ds[j]? = some d → ∃ p, l[j]? = some p ∧ f p = some d
  | [], ds, h => by simp [viewL] at h; subst h; simp
  | p :: l, ds, h => by
    simp only [viewL] at h
    split at h
    · rename_i d es h1 h2
      cases h
      obtain ⟨q1, q2⟩ := viewL_at h2
      refine ⟨by simp [q1], fun j e hj => ?_⟩
      cases j with
      | zero => simp at hj; subst hj; exact ⟨p, rfl, h1⟩
      | succ j => simpa using q2 j e (by simpa using hj)
    · cases h
theorem view1_ok {p : PV} {d : D} {v : Value} (hv : view1 s.heap p = some d) (ht : ∀ k ∈ tch1 s.heap p, k ∈ T) (hr : RepP c w p v) : RepD (lessM c s.heap T) w d v := by
  cases p with
  | ptr k off =>
    simp only [view1] at hv
    split at hv
    · rename_i TT cells hk
      simp only [Option.map_eq_some_iff] at hv
      obtain ⟨ds, hds, rfl⟩ := hv
      obtain ⟨q1, q2⟩ := viewL_at hds
      have hck := hc.chunk k
      rw [hk] at hck
      cases hr with
      | ptr _ _ b hb =>
        cases hck with
        | box _ _ b' vs hb' hh hrr h1 =>
          rw [hb] at hb'
          cases hb'
          have hlt : b < w.heap.size := by
            rcases Nat.lt_or_ge b w.heap.size with hl | hl
            · exact hl
            · rw [Array.getElem?_eq_none hl] at hh; cases hh
          have hcl : ∀ j d, ds[j]? = some d → ∃ p v, cells[off + j]? = some p ∧ vs[off + j]? = some v ∧ view0 s.heap p = some d := by
            intro j d hj
            obtain ⟨p, hp, hpd⟩ := q2 j d hj
            rw [List.getElem?_drop] at hp
            have hl2 : off + j < vs.length := by rw [← hrr.1]; exact (List.getElem?_eq_some_iff.1 hp).1
            exact ⟨p, vs[off + j], hp, List.getElem?_eq_getElem hl2, hpd⟩
          refine .ept ds b off (fun j => vs.getD (off + j) undef) (fun hm => hm.2 k (ht k (by simp [tch1])) (by rw [hk]; exact hb)) hlt (fun d hd => ?_) (fun j hj => ?_) (fun j d hj => ?_)
          · obtain ⟨j, hj, e⟩ := List.getElem_of_mem hd
            obtain ⟨p, v, h2, h3, h4⟩ := hcl j d (by rw [← e]; exact List.getElem?_eq_getElem hj)
            exact view0_one h4 (h1 p (List.mem_of_getElem? h2))
          · obtain ⟨p, v, h2, h3, h4⟩ := hcl j _ (List.getElem?_eq_getElem hj)
            simp [World.cell?, hh, h3, List.getD_eq_getElem?_getD]
          · obtain ⟨p, v, h2, h3, h4⟩ := hcl j d hj
            simp only [List.getD_eq_getElem?_getD, h3, Option.getD_some]
            refine view0_ok hc h4 (fun k' hk' => ht k' ?_) (hrr.2 _ p v h2 h3)
            simp only [tch1, hk, List.mem_cons]
            exact .inr (tchL_mem (List.mem_of_getElem? h2) k' hk')
    · cases hv
  | d x => exact view0_ok hc (p := .d x) hv ht hr
  | own k g => exact view0_ok hc (p := .own k g) hv ht hr
  | _ => cases hv
theorem view2_ok {p : PV} {d : D} {v : Value} (hv : view2 s.heap p = some d) (ht : ∀ k ∈ tch2 s.heap p, k ∈ T) (hr : RepP c w p v) : RepD (lessM c s.heap T) w d v := by
  cases p with
  | clo g caps =>
    simp only [view2, Option.map_eq_some_iff] at hv
    obtain ⟨ds, hds, rfl⟩ := hv
    obtain ⟨q1, q2⟩ := viewL_at hds
    cases hr with
    | clo _ _ vs hl hrep =>
      refine .clo g ds vs (by omega) fun j d x hj hx => ?_
      obtain ⟨p, hp, hpd⟩ := q2 j d hj
      exact view1_ok hc hpd (fun k hk => ht k (tchL_mem (f := tch1 s.heap) (List.mem_of_getElem? hp) k hk)) (hrep j p x hp hx)
  | d x => exact view1_ok hc (p := .d x) hv ht hr
  | own k g => exact view1_ok hc (p := .own k g) hv ht hr
  | ptr k off => exact view1_ok hc (p := .ptr k off) hv ht hr
  | rp => cases hv
  | any => cases hv
end
section
variable {X : Cfg} {ops : Array Oper} {s : FS} {o : Oper} (hd : ∀ d, o.dst = some d → d < X.n)
include hd
theorem op_call {fo : Operand} {args : Array Operand} {tys : Array Nat} {g : Nat} {caps : List PV} {ds : List D} {r : D} (ho : o.op = .call { callee := .value fo, args := args, argTypes := tys })
    (hf : ev s fo = .clo g caps ∨ ∃ cd : List D, ev s fo = .d (.clo g cd) ∧ caps = cd.map .d)
    (hv : viewL (view2 s.heap) (args.toList.map (ev s) ++ caps) = some ds) (hp : PSpec X.P g ds r) (hfl : tchL (tch2 s.heap) (args.toList.map (ev s) ++ caps) = [] ∨ r.flat = true) :
    OpOK X ops s o { pv := .d r, touch := tchL (tch2 s.heap) (args.toList.map (ev s) ++ caps) } := by
  refine ⟨hd, fun kc h => by simp at h, fun s' he hkk a w hr K Q hK => ?_⟩
  obtain ⟨c, hc⟩ := hr
  have hopers : ∀ x, (x = fo ∨ x ∈ args) → ev s' x = ev s x := fun x hx => ev_same he x (by
    rw [ho]
    simp only [Op.operands, Call.operands]
    rcases hx with rfl | hx
    · simp
    · simp [hx])
  have hargs : args.toList.map (ev s') = args.toList.map (ev s) := List.map_congr_left fun x hx => hopers x (.inr (by simpa using hx))
  have hviews : viewL (view2 s'.heap) (args.toList.map (ev s) ++ caps) = some ds := by
    rw [← hv]
    exact viewL_same fun p hp => view2_same fun k hk => hkk k (tchL_mem hp k hk)
  have htch : ∀ p ∈ args.toList.map (ev s) ++ caps, ∀ k ∈ tch2 s'.heap p, k ∈ tchL (tch2 s.heap) (args.toList.map (ev s) ++ caps) := by
    intro p hp k hk
    refine tchL_mem hp k ?_
    have key : tch2 s'.heap p = tch2 s.heap p := by
      cases p with
      | clo g' cs =>
        simp only [tch2]
        have : ∀ l : List PV, (∀ q ∈ l, q ∈ cs) → tchL (tch1 s'.heap) l = tchL (tch1 s.heap) l := by
          intro l
          induction l with
          | nil => intro _; rfl
          | cons q l ih =>
            intro hl
            simp only [tchL]
            rw [ih fun q' hq' => hl q' (by simp [hq']), tch1_same fun k hk => hkk k (tchL_mem hp k (tchL_mem (f := tch1 s.heap) (hl q (by simp)) k hk))]
        exact this cs fun _ h => h
      | ptr k' off => exact tch1_same (p := .ptr k' off) fun k hk => hkk k (tchL_mem hp k hk)
      | own k' g' => rfl
      | _ => rfl
    rw [← key]; exact hk
  obtain ⟨q1, q2⟩ := viewL_at hviews
  obtain ⟨fvs, hfo, hfl2, hfr⟩ : ∃ fvs : List Value, a.eval fo = .func (.func g) #[] fvs.toArray ∧ caps.length = fvs.length ∧ ∀ (j : Nat) (p : PV) (x : Value), caps[j]? = some p → fvs[j]? = some x → RepP c w p x := by
    have h0 := ev_ok hc fo
    rw [hopers fo (.inl rfl)] at h0
    rcases hf with hf | ⟨cd, hf, rfl⟩
    · rw [hf] at h0
      generalize a.eval fo = u at h0
      cases h0 with
      | clo _ _ vs hl hrep => exact ⟨vs, rfl, hl, hrep⟩
    · rw [hf] at h0
      generalize a.eval fo = u at h0
      have h0 := repD_inv h0
      cases h0 with
      | clo _ _ vs hl hrep =>
        refine ⟨vs, rfl, by simpa using hl, fun j p x hj hx => ?_⟩
        simp only [List.getElem?_map, Option.map_eq_some_iff] at hj
        obtain ⟨y, hy, rfl⟩ := hj
        exact .d _ _ (hrep j y x hy hx)
  have hrep : RepDs (lessM c s'.heap (tchL (tch2 s.heap) (args.toList.map (ev s) ++ caps))) w ds (args.toList.map a.eval ++ fvs) := by
    refine ⟨by rw [← q1]; simp [hfl2], fun j d x hj hx => ?_⟩
    obtain ⟨p, hp, hpd⟩ := q2 j d hj
    refine view2_ok hc hpd (htch p (List.mem_of_getElem? hp)) ?_
    by_cases hlt : j < args.toList.length
    · rw [List.getElem?_append_left (by simpa using hlt)] at hp hx
      simp only [List.getElem?_map, Option.map_eq_some_iff] at hp hx
      obtain ⟨y, hy, rfl⟩ := hp
      obtain ⟨y', hy', rfl⟩ := hx
      rw [hy] at hy'
      cases hy'
      have := ev_ok hc y
      rwa [hopers y (.inr (by simpa using List.mem_of_getElem? hy))] at this
    · rw [List.getElem?_append_right (by simpa using hlt)] at hp hx
      simp only [List.length_map] at hp hx
      exact hfr _ p x hp hx
  have hcall := hp.2 _ w (args.toList.map a.eval ++ fvs) (fun b hb => hc.lt hb.1) hrep
  have hrun : (execOp a.eval o).run X.P w = .ok (.enter g (args.toList.map a.eval ++ fvs).toArray) w := by
    have e : (args.toList.map a.eval ++ fvs).toArray = args.map a.eval ++ fvs.toArray := by
      apply Array.ext'
      simp
    rw [e]
    simp [execOp, ho, resolve, hfo, Deferred.ofValue, invoke]
    exact hp.1 _ _
  unfold Oper.wp
  rw [hrun, Oper.upon_enter]
  refine hcall.mono ?_
  rintro e w' ⟨v, rfl, hv', hx⟩
  have hgrow := hc.grow hx
  refine hK v w' ⟨c, hgrow.put (.d _ _ ?_) hd⟩
  rcases hfl with h0 | hflat
  · refine hv'.keep ⟨Nat.le_refl _, fun _ _ _ => rfl, fun b _ hb => ⟨hb, fun k hk => ?_⟩⟩
    rw [h0] at hk
    simp at hk
  · exact flat_rep hv' hflat
end
end Go.Proofs.Ytflbpkgnadjokaa
namespace Go.Proofs.Ytflbpkgnadjokaa
open Go Go.RowKit
/-- Building a slice whose parts are all named, in order. -/
theorem fill_rows {size : Nat} (place : Nat → Option (Nat × Nat)) (hpl : ∀ i, place i = some (i * size, size)) : ∀ (vs : List Value) (i : Nat) (done rest : List Value), (∀ v ∈ vs, v.cells.size = size) → done.length = i * size → rest.length = vs.length * size →
    Instr.fill place (done ++ rest).toArray ((vs.zipIdx i).map fun (v, j) => (j, v)) = some (done ++ (vs.map fun v => v.cells.toList).flatten).toArray
  | [], i, done, rest, _, _, hr => by
    have : rest = [] := List.eq_nil_of_length_eq_zero (by simpa using hr)
    subst this
    simp [Instr.fill]
  | v :: vs, i, done, rest, hv, hdn, hr => by
    have h0 := hv v (by simp)
    rw [List.length_cons, Nat.succ_mul] at hr
    simp only [List.zipIdx_cons, List.map_cons]
    rw [fill_step place _ i (i * size) size v _ (hpl i) h0 (by simp; omega)]
    have e : setAt (done ++ rest) (i * size) v.cells.toList = (done ++ v.cells.toList) ++ rest.drop size := by
      unfold setAt
      have hl : v.cells.toList.length = size := by simpa using h0
      rw [← hdn, List.take_left, hl, List.drop_append, List.drop_of_length_le (by omega), List.nil_append]
      congr 1
      congr 1
      omega
    simp only [List.toList_toArray]
    rw [e, fill_rows place hpl vs (i + 1) (done ++ v.cells.toList) (rest.drop size) (fun x hx => hv x (by simp [hx])) (by rw [List.length_append, hdn, Nat.succ_mul]; simp; omega) (by rw [List.length_drop]; omega)]
    simp
section
variable {X : Cfg} {ops : Array Oper} {s : FS} {o : Oper} (hd : ∀ d, o.dst = some d → d < X.n)
include hd
theorem op_buildSlice {t e n sz : Nat} {parts : Array (Nat × Operand)} {ti te : TI} {rows : List (List D)} (ho : o.op = .buildSlice t n parts) (ht : tcheck X.P t = some ti) (he' : ti.elem = some e) (hte : tcheck X.P e = some te)
    (hsz : te.size = sz) (hs0 : 0 < sz) (hn0 : 0 < n) (hsmall : n * sz ≤ 16777216) (hnl : rows.length = n) (hps : parts.size = n) (hp : ∀ (j : Nat) (i : Nat) (x : Operand), parts[j]? = some (i, x) → i = j ∧ ∃ ds, rows[j]? = some ds ∧ dsOf (cellsP (ev s x)) = some ds ∧ okP (ev s x) = true ∧ ds.length = sz) :
    OpOK X ops s o { pv := .d (.sl sz rows) } :=
  opok_gen hd (fun kc h => by simp at h) fun s' he _ a w c hc => by
    obtain ⟨i, d, z, tk⟩ := tck ht
    obtain ⟨ie, de, ze, tke⟩ := tck hte
    have hde : d = .slice e := by
      have := tk.elem
      rw [he'] at this
      cases d <;> simp [elemD] at this
      rw [this]
    subst hde
    obtain ⟨vs, hvs⟩ : ∃ vs : List Value, vs = parts.toList.map fun p => a.eval p.2 := ⟨_, rfl⟩
    have hvl : vs.length = n := by rw [hvs]; simpa using hps
    have hrow : ∀ (j : Nat) (ds : List D) (v : Value), rows[j]? = some ds → vs[j]? = some v → RepDs c.M w ds v.cells.toList ∧ (∀ e ∈ ds, e.one = true) ∧ ds.length = sz := by
      intro j ds v hj hv
      rw [hvs] at hv
      simp only [List.getElem?_map, Array.getElem?_toList, Option.map_eq_some_iff] at hv
      obtain ⟨⟨i, y⟩, hy, rfl⟩ := hv
      obtain ⟨-, ds', g1, g2, g3, g4⟩ := hp j i y hy
      rw [hj] at g1
      cases g1
      have hmem : y ∈ o.op.operands := by
        rw [ho]
        simp only [Op.operands, List.mem_toArray, List.mem_map]
        exact ⟨(i, y), by simpa using Array.mem_of_getElem? hy, rfl⟩
      have hrep := ev_ok hc y
      rw [he y hmem] at hrep
      obtain ⟨r1, r2⟩ := cells_rep hrep g3
      have hcl := dsOf_eq g2
      refine ⟨⟨?_, fun k e v hk hv => ?_⟩, fun e he' => ?_, g4⟩
      · have := r1.1
        rw [hcl, List.length_map] at this
        exact this
      · exact repD_inv (r1.2 k (.d e) v (by rw [hcl, List.getElem?_map, hk]; rfl) hv)
      · have := r2 (.d e) (by rw [hcl]; exact List.mem_map_of_mem he')
        exact this
    have hvsz : ∀ v ∈ vs, v.cells.size = sz := by
      intro v hv
      obtain ⟨j, hj, e⟩ := List.getElem_of_mem hv
      have hjr : j < rows.length := by omega
      have := (hrow j rows[j] v (List.getElem?_eq_getElem hjr) (by rw [← e]; exact List.getElem?_eq_getElem hj))
      have h2 := this.1.1
      simp at h2
      omega
    have hparts : (parts.map fun (i, x) => (i, a.eval x)).toList = ((vs.zipIdx 0).map fun (v, j) => (j, v)) := by
      apply List.ext_getElem?
      intro j
      simp only [Array.toList_map, List.getElem?_map, List.getElem?_zipIdx, hvs, Array.getElem?_toList]
      cases hj : parts[j]? with
      | none => rfl
      | some ix =>
        obtain ⟨i, x⟩ := ix
        obtain ⟨rfl, -⟩ := hp j i x hj
        simp
    have hzc : ze.cells.size = sz := by rw [← hsz, ← tke.zsize, ← tke.zcells]; simp
    have hfill : Instr.fill (fun i => some (i * sz, sz)) ((Array.range (n * sz)).map (ze.cells[· % ze.cells.size]!)) (parts.map fun (i, x) => (i, a.eval x)).toList = some ((vs.map fun v => v.cells.toList).flatten).toArray := by
      have := fill_rows (size := sz) (fun i => some (i * sz, sz)) (fun _ => rfl) vs 0 [] ((Array.range (n * sz)).map (ze.cells[· % ze.cells.size]!)).toList hvsz (by simp) (by simp [hvl])
      rw [hparts]
      rw [List.nil_append, List.nil_append, Array.toArray_toList] at this
      exact this
    have hfl : ∀ r ∈ vs.map fun v => v.cells.toList, r.length = sz := by
      intro r hr
      obtain ⟨v, hv, rfl⟩ := List.mem_map.1 hr
      simpa using hvsz v hv
    have hx := alloc_ext w (.cells ((vs.map fun v => v.cells.toList).flatten).toArray e)
    refine ⟨.value (.slice (some ⟨w.heap.size, 0, none⟩) n n), _, w.alloc (.cells ((vs.map fun v => v.cells.toList).flatten).toArray e), ?_, .inl rfl, c, hc.grow hx, .d _ _ ?_⟩
    · have hnew : ∀ o : Obj, ({ w with heap := w.heap.push o } : World) = w.alloc o := fun o => (World.alloc_eq w o)
      have hrun : (Instr.buildSlice t n (parts.map fun (i, x) => (i, a.eval x))).run X.P w = .ok (.slice (some ⟨w.heap.size, 0, none⟩) n n) (w.alloc (.cells ((vs.map fun v => v.cells.toList).flatten).toArray e)) := by
        have hne : ¬ (n * sz = 0) := Nat.ne_of_gt (Nat.mul_pos hn0 hs0)
        unfold Instr.buildSlice
        simp only [Sem.run_bind, run_underlying tk.und, Result.andThen_ok, sizeOf, typeInfo, run_program, tke.info, Sem.run_pure, tke.size, hsz]
        rw [if_neg (by omega), if_neg hne]
        simp only [Sem.run_bind, zeroValue, typeInfo, run_program, tke.info, Result.andThen_ok, Sem.run_pure, tke.zero, hfill]
        simp [newRow, newObj, Sem.run, hnew]
      simp only [execOp, ho]
      rw [Sem.run_bind, hrun]
      rfl
    · have hM : ∀ b, c.M b → b < w.heap.size := fun b hb => hc.lt hb
      have hk : Keep c.M w c.M (w.alloc (.cells ((vs.map fun v => v.cells.toList).flatten).toArray e)) := Keep.ext hx hM
      subst hnl
      refine .sl sz rows w.heap.size 0 rows.length (fun i j => ((vs[i]?.map fun v => v.cells.toList).getD []).getD j undef) (fun h => by have := hM _ h; omega) (by rw [size_alloc]; omega) (Nat.le_refl _)
        (by have : rows.length ≤ rows.length * sz := Nat.le_mul_of_pos_right _ hs0; omega) (fun r hr => ?_) (fun r hr => ?_) (fun i j hi hj => ?_) (fun i j row d hi hj => ?_)
      · obtain ⟨j, hj, e⟩ := List.getElem_of_mem hr
        exact (hrow j r vs[j] (by rw [← e]; exact List.getElem?_eq_getElem hj) (List.getElem?_eq_getElem (by omega))).2.2
      · obtain ⟨j, hj, e⟩ := List.getElem_of_mem hr
        exact (hrow j r vs[j] (by rw [← e]; exact List.getElem?_eq_getElem hj) (List.getElem?_eq_getElem (by omega))).2.1
      · have hv : vs[i]? = some vs[i] := List.getElem?_eq_getElem (by omega)
        have hf := flatten_at (rows := vs.map fun v => v.cells.toList) hfl i j hj
        rw [List.getElem?_map, hv] at hf
        simp only [World.cell?, alloc_at, Nat.zero_add, List.getElem?_toArray, hf, hv, Option.map_some, Option.getD_some, Option.bind_some]
        have hl : j < vs[i].cells.toList.length := by
          have := hvsz vs[i] (List.getElem_mem (by omega))
          simpa [this] using hj
        simp [List.getD_eq_getElem?_getD, List.getElem?_eq_getElem hl]
      · have hi' : i < rows.length := (List.getElem?_eq_some_iff.1 hi).1
        have hv : vs[i]? = some vs[i] := List.getElem?_eq_getElem (by omega)
        obtain ⟨g1, g2, g3⟩ := hrow i row vs[i] hi hv
        have hl : j < vs[i].cells.toList.length := by rw [← g1.1]; exact (List.getElem?_eq_some_iff.1 hj).1
        have := (g1.2 j d _ hj (List.getElem?_eq_getElem hl)).keep hk
        simpa [hv, List.getD_eq_getElem?_getD, List.getElem?_eq_getElem hl] using this
theorem op_buildSlice0 {t e nk : Nat} {ti te : TI} (ho : o.op = .buildSlice t 0 #[]) (ht : tcheck X.P t = some ti) (he' : ti.elem = some e) (hte : tcheck X.P e = some te) (hk : s.heap nk = .none) :
    OpOK X ops s o { pv := .own nk 0, eff := [(nk, .row e te.size 0 [])], touch := [nk] } :=
  opok_gen hd (fun kc h => by simp at h; subst h; simp) fun s' he hkk a w c hc => by
    obtain ⟨i, d, z, tk⟩ := tck ht
    obtain ⟨ie, de, ze, tke⟩ := tck hte
    have hde : d = .slice e := by
      have := tk.elem
      rw [he'] at this
      cases d <;> simp [elemD] at this
      rw [this]
    subst hde
    have hk' : s'.heap nk = .none := by rw [hkk nk (by simp)]; exact hk
    have hown : (w.alloc (.cells #[] e)).ownsRow w.heap.size e te.size (.slice (some ⟨w.heap.size, 0, none⟩) 0 0) 0 [] :=
      ⟨by simp, .inr ⟨w.heap.size, 0, #[], rfl, Nat.le_refl _, alloc_at w _, Nat.le_refl _, by unfold maxLen; omega, by simp, by simp⟩⟩
    obtain ⟨c', q1, q2⟩ := hc.new_row (w' := w.alloc (.cells #[] e)) hk' e te.size [] _ [] (alloc_ext w _) hown ⟨rfl, fun j d x h => by simp at h⟩ (by simp) (by simp)
    refine ⟨_, _, _, ?_, .inl rfl, c', q1, q2⟩
    have hnew : ∀ o : Obj, ({ w with heap := w.heap.push o } : World) = w.alloc o := fun o => (World.alloc_eq w o)
    have hrun : (Instr.buildSlice t 0 #[]).run X.P w = .ok (.slice (some ⟨w.heap.size, 0, none⟩) 0 0) (w.alloc (.cells #[] e)) := by
      simp [Instr.buildSlice, run_underlying tk.und, sizeOf, typeInfo, tke.info, Instr.fill, newRow, newObj, Sem.run, hnew]
      rw [show Array.map (fun _ => (default : Value)) (Array.range 0) = #[] from Array.eq_empty_of_size_eq_zero (by simp)]
    simp only [execOp, ho]
    rw [Sem.run_bind]
    simp only [Array.map_empty, hrun]
    rfl
theorem op_convert {src dst : Nat} {x : Operand} {k k' : IntKind} {n : Int} {ts td : TI} (ho : o.op = .convert src dst x) (hs : tcheck X.P src = some ts) (ht : tcheck X.P dst = some td) (hi : td.int = some k) (hx : ev s x = .d (.v (.int k' n))) :
    OpOK X ops s o { pv := .d (.v (.int k (k.wrap n))) } :=
  opok_read hd fun s' he _ a w c hc => by
    have h1 := ev_v' hc ((he x (by simp [ho, Op.operands])).trans hx)
    obtain ⟨i, d, z, tk⟩ := tck hs
    obtain ⟨i2, d2, z2, tk2⟩ := tck ht
    have hd2 : d2 = .int k := by
      have := tk2.int
      rw [hi] at this
      cases d2 <;> simp [intD] at this
      rw [this]
    subst hd2
    refine ⟨.int k (k.wrap n), ?_, .d _ _ (.v _)⟩
    have hrun : (convert src dst (.int k' n)).run X.P w = .ok (.int k (k.wrap n)) w := by
      simp [convert, run_underlying tk.und, run_underlying tk2.und, Conv.intToInt]
    simp only [execOp, ho, h1]
    rw [Sem.run_bind, hrun]
    rfl
theorem op_min {x y : Operand} {tys : Array Nat} {k : IntKind} {m n : Int} (ho : o.op = .call { callee := .builtin .min, args := #[x, y], argTypes := tys }) (hx : ev s x = .d (.v (.int k m))) (hy : ev s y = .d (.v (.int k n))) :
    OpOK X ops s o { pv := .d (.v (.int k (if n < m then n else m))) } :=
  opok_read hd fun s' he _ a w c hc => by
    have h1 := ev_v' hc ((he x (by simp [ho, Op.operands, Call.operands])).trans hx)
    have h2 := ev_v' hc ((he y (by simp [ho, Op.operands, Call.operands])).trans hy)
    exact ⟨.int k (if n < m then n else m), by simp [execOp, ho, resolve, h1, h2, invoke, builtin, Builtin.min_, Builtin.min2], .d _ _ (.v _)⟩
theorem op_max {x y : Operand} {tys : Array Nat} {k : IntKind} {m n : Int} (ho : o.op = .call { callee := .builtin .max, args := #[x, y], argTypes := tys }) (hx : ev s x = .d (.v (.int k m))) (hy : ev s y = .d (.v (.int k n))) :
    OpOK X ops s o { pv := .d (.v (.int k (if m < n then n else m))) } :=
  opok_read hd fun s' he _ a w c hc => by
    have h1 := ev_v' hc ((he x (by simp [ho, Op.operands, Call.operands])).trans hx)
    have h2 := ev_v' hc ((he y (by simp [ho, Op.operands, Call.operands])).trans hy)
    exact ⟨.int k (if m < n then n else m), by simp [execOp, ho, resolve, h1, h2, invoke, builtin, Builtin.max_, Builtin.max2], .d _ _ (.v _)⟩
end
end Go.Proofs.Ytflbpkgnadjokaa
namespace Go.Proofs.Ytflbpkgnadjokaa
open Go Go.RowKit
theorem effH_gone (T : List Nat) (h : Nat → Chunk) (k : Nat) : effH (T.map fun k => (k, .gone)) h k = if k ∈ T then .gone else h k := by
  induction T with
  | nil => simp [effH]
  | cons a T ih =>
    simp only [List.map_cons, effH]
    by_cases e : k = a
    · simp [e]
    · rw [if_neg e, ih]
      simp [e]
/-- Chunks are given away: nobody writes them any more. -/
theorem RealC.freeze {X : Cfg} {s : FS} {a : Act} {w : World} {c : Cx} (h : RealC X s a w c) (T : List Nat) :
    RealC X { s with heap := effH (T.map fun k => (k, .gone)) s.heap } a w { c with M := lessM c s.heap T } := by
  have hat := effH_gone T s.heap
  have hk := less_keep c s.heap T w
  have hblk : ∀ k ch, Cx.block { c with M := lessM c s.heap T } k ch = c.block k ch := fun k ch => by cases ch <;> rfl
  have hle : c.le { c with M := lessM c s.heap T } := ⟨fun _ _ h => h, fun _ _ _ h => h⟩
  refine ⟨h.size, h.defers, h.ext, h.fresh, fun b => ?_, fun k b hb => ?_, fun k k' b hb hb' => ?_, fun t => (h.env t).keep hle hk, fun k => ?_⟩
  · constructor
    · rintro ⟨hm, hT⟩
      rcases (h.mu b).1 hm with h0 | ⟨k, hkb⟩
      · exact .inl h0
      · refine .inr ⟨k, ?_⟩
        have hnT : k ∉ T := fun hin => hT k hin hkb
        simp only [hat, if_neg hnT, hblk]
        exact hkb
    · rintro (h0 | ⟨k, hkb⟩)
      · refine ⟨(h.mu b).2 (.inl h0), fun k _ e => ?_⟩
        have := (h.new k b e).1
        have := h.fresh b h0
        omega
      · simp only [hat, hblk] at hkb
        split at hkb
        · simp [Cx.block] at hkb
        · rename_i hnT
          refine ⟨(h.mu b).2 (.inr ⟨k, hkb⟩), fun k' hk' e => ?_⟩
          have := h.apart k k' b hkb e
          subst this
          exact hnT hk'
  · simp only [hat, hblk] at hb
    split at hb
    · simp [Cx.block] at hb
    · exact h.new k b hb
  · simp only [hat, hblk] at hb hb'
    split at hb
    · simp [Cx.block] at hb
    · split at hb'
      · simp [Cx.block] at hb'
      · exact h.apart k k' b hb hb'
  · simp only [hat]
    split
    · exact .gone
    · exact (h.chunk k).keep hle hk (fun _ _ => rfl) rfl rfl
/-- Structs that are built of what may be given away for it. -/
theorem op_buildF {X : Cfg} {ops : Array Oper} {s : FS} {o : Oper} (hd : ∀ d, o.dst = some d → d < X.n) {t : Nat} {parts : Array (Nat × Operand)} {ti : TI} {pd : List (Nat × List D)} {out : List D} {T : List Nat} (ho : o.op = .build t parts) (ht : tcheck X.P t = some ti) (hst : ti.fields ≠ [])
    (hp : pd.length = parts.size) (hq : ∀ (j : Nat) (i : Nat) (x : Operand), parts[j]? = some (i, x) → ∃ ds, pd[j]? = some (i, ds) ∧ viewL (view0 s.heap) (cellsP (ev s x)) = some ds ∧ okP (ev s x) = true ∧ ∀ q ∈ cellsP (ev s x), ∀ k ∈ tch0 q, k ∈ T) (hf : fillD ti.fields (ti.zero.map .v) pd = some out) :
    OpOK X ops s o { pv := .d (.agg out), eff := T.map fun k => (k, .gone), touch := T } :=
  opok_gen hd (fun kc h => by
    obtain ⟨k, hk, rfl⟩ := List.mem_map.1 h
    exact hk) fun s' he hkk a w c hc => by
    obtain ⟨i, d, z, tk⟩ := tck ht
    obtain ⟨⟨off, sz⟩, rest, hfl⟩ : ∃ p l, ti.fields = p :: l := by
      cases h : ti.fields with
      | nil => exact absurd h hst
      | cons p l => exact ⟨p, l, rfl⟩
    obtain ⟨fs, g, j, rfl, hpl, -⟩ := tk.field (f := 0) (off := off) (sz := sz) (by rw [hfl]; rfl)
    have hz0 : RepDs (lessM c s'.heap T) w (ti.zero.map .v) ti.zero := repDs_v ti.zero
    have hone0 : ∀ d ∈ ti.zero.map D.v, d.one = true := by
      intro d hd
      obtain ⟨x, hx, rfl⟩ := List.mem_map.1 hd
      exact tk.one x hx
    have hpart : ∀ (j : Nat) (d : Nat × List D) (x : Nat × Value), pd[j]? = some d → (parts.toList.map fun (i, x) => (i, a.eval x))[j]? = some x → d.1 = x.1 ∧ RepDs (lessM c s'.heap T) w d.2 x.2.cells.toList ∧ ∀ e ∈ d.2, e.one = true := by
      intro j d x hj hx
      simp only [List.getElem?_map, Array.getElem?_toList, Option.map_eq_some_iff] at hx
      obtain ⟨⟨i, y⟩, hy, rfl⟩ := hx
      obtain ⟨ds, h1, h2, h3, h4⟩ := hq j i y hy
      rw [hj] at h1
      cases h1
      have hmem : y ∈ o.op.operands := by
        rw [ho]
        simp only [Op.operands, List.mem_toArray, List.mem_map]
        exact ⟨(i, y), by simpa using Array.mem_of_getElem? hy, rfl⟩
      have hrep := ev_ok hc y
      rw [he y hmem] at hrep
      obtain ⟨r1, r2⟩ := cells_rep hrep h3
      have hv' : viewL (view0 s'.heap) (cellsP (ev s y)) = some ds := by
        rw [← h2]
        exact viewL_same fun p hp => view0_same fun k hk => hkk k (h4 p hp k hk)
      obtain ⟨q1, q2⟩ := viewL_at hv'
      refine ⟨rfl, ⟨by rw [← q1]; exact r1.1, fun k e v hk hv => ?_⟩, fun e he' => ?_⟩
      · obtain ⟨p, hp, hpe⟩ := q2 k e hk
        exact view0_ok hc hpe (fun k' hk' => h4 p (List.mem_of_getElem? hp) k' hk') (r1.2 k p v hp hv)
      · obtain ⟨k, hk, e2⟩ := List.getElem_of_mem he'
        obtain ⟨p, hp, hpe⟩ := q2 k e (by rw [← e2]; exact List.getElem?_eq_getElem hk)
        exact view0_one (s := s') hpe (r2 p (List.mem_of_getElem? hp))
    obtain ⟨vs', q1, q2, q3, q4⟩ := fill_rep (M := lessM c s'.heap T) (w := w) ti.fields (ti.fields.toArray[·]?) (fun i => by simp) pd (parts.toList.map fun (i, x) => (i, a.eval x)) (ti.zero.map .v) ti.zero out hz0
      (by
        apply List.ext_getElem?
        intro j
        simp only [List.getElem?_map]
        cases hj : parts[j]? with
        | none =>
          have h1 : parts.size ≤ j := by simpa using hj
          rw [List.getElem?_eq_none (by omega)]
          simp [hj]
        | some ix =>
          obtain ⟨i, x⟩ := ix
          obtain ⟨ds, h1, -⟩ := hq j i x hj
          simp [hj, h1])
      (fun j d x h1 h2 => (hpart j d x h1 h2).2.1) hf hone0
      (fun q hq' e he' => by
        obtain ⟨j, hj, hjq⟩ := List.getElem_of_mem hq'
        have hjs : j < parts.toList.length := by simpa using hp ▸ hj
        exact (hpart j q _ (by rw [← hjq]; exact List.getElem?_eq_getElem hj) (by rw [List.getElem?_map, List.getElem?_eq_getElem hjs]; rfl)).2.2 e he')
    refine ⟨.value (.agg vs'.toArray), _, w, ?_, .inl rfl, _, hc.freeze T, .d _ _ (.agg _ _ q2.1 q3 q2.2)⟩
    have hb : X.P.built t (parts.map fun (i, x) => (i, a.eval x)).toList = some vs'.toArray := by
      unfold Program.built
      have hpl' : fs.toList.mapM (fun f => (X.P.info? f.type).map fun i => (f.offset, i.size)) = some ti.fields := hpl
      simp only [tk.info, tk.und, tk.zero, hpl']
      have : z.cells = ti.zero.toArray := by rw [← tk.zcells]
      rw [this, Array.toList_map]
      exact q1
    have := run_build w t (parts.map fun (i, x) => (i, a.eval x)) vs'.toArray hb
    simp only [execOp, ho]
    rw [Sem.run_bind, this]
    rfl
/-- A struct that is loaded out of a box, rows of one's own in it given away. -/
theorem op_loadF {X : Cfg} {ops : Array Oper} {s : FS} {o : Oper} (hd : ∀ d, o.dst = some d → d < X.n) {t k off TT : Nat} {x : Operand} {ti : TI} {cells : List PV} {ds : List D} {T : List Nat} (ho : o.op = .load t x) (ht : tcheck X.P t = some ti) (hx : ev s x = .ptr k off) (hk : s.heap k = .box TT cells) (hsz : off + ti.size ≤ cells.length)
    (hag : ti.agg = true) (hv : viewL (view0 s.heap) ((cells.drop off).take ti.size) = some ds) (hT : ∀ q ∈ (cells.drop off).take ti.size, ∀ k' ∈ tch0 q, k' ∈ T) : OpOK X ops s o { pv := .d (.agg ds), eff := T.map fun k => (k, .gone), touch := k :: T } :=
  opok_gen hd (fun kc h => by
    obtain ⟨k, hk, rfl⟩ := List.mem_map.1 h
    exact List.mem_cons_of_mem _ hk) fun s' he hkk a w c hc => by
    have e1 := ev_ok hc x
    rw [he x (by simp [ho, Op.operands]), hx] at e1
    generalize hu : a.eval x = u at e1
    have hk' : s'.heap k = .box TT cells := by rw [hkk k (by simp)]; exact hk
    have hck := hc.chunk k
    rw [hk'] at hck
    cases e1 with
    | ptr _ _ b hb =>
      cases hck with
      | box _ _ b' vs hb' hh hr h1 =>
        rw [hb] at hb'
        cases hb'
        have hvl : vs.length = cells.length := hr.1.symm
        have hrun := run_loadAt ht w b off ((vs.drop off).take ti.size) (by rw [List.length_take, List.length_drop]; omega) (fun j v hj => by
          rw [List.getElem?_take] at hj
          split at hj
          · rw [List.getElem?_drop] at hj
            simp [World.cell?, hh, hj]
          · cases hj) (fun h => by rw [hag] at h; cases h)
        have hv' : viewL (view0 s'.heap) ((cells.drop off).take ti.size) = some ds := by
          rw [← hv]
          exact viewL_same fun p hp => view0_same fun k hk => hkk k (List.mem_cons_of_mem _ (hT p hp k hk))
        obtain ⟨q1, q2⟩ := viewL_at hv'
        have hdl : ds.length = ti.size := by rw [← q1, List.length_take, List.length_drop]; omega
        have hget : ∀ j d, ds[j]? = some d → ∃ p, p ∈ (cells.drop off).take ti.size ∧ cells[off + j]? = some p ∧ view0 s'.heap p = some d := by
          intro j d hj
          obtain ⟨p, hp, hpd⟩ := q2 j d hj
          have hlt : j < ti.size := by rw [← hdl]; exact (List.getElem?_eq_some_iff.1 hj).1
          refine ⟨p, List.mem_of_getElem? hp, ?_, hpd⟩
          rw [List.getElem?_take_of_lt hlt, List.getElem?_drop] at hp
          exact hp
        refine ⟨.value (.agg ((vs.drop off).take ti.size).toArray), _, w, ?_, .inl rfl, _, hc.freeze T, .d _ _ (.agg _ _ (by rw [hdl, List.length_take, List.length_drop]; omega) (fun d hd => ?_) (fun j d v hj hv => ?_))⟩
        · rw [hag, if_pos rfl] at hrun
          simp only [execOp, ho, hu]
          rw [Sem.run_bind, hrun]
          rfl
        · obtain ⟨j, hj, e⟩ := List.getElem_of_mem hd
          obtain ⟨p, -, hp, hpd⟩ := hget j d (by rw [← e]; exact List.getElem?_eq_getElem hj)
          exact view0_one (s := s') hpd (h1 p (List.mem_of_getElem? hp))
        · have hlt : j < ti.size := by rw [← hdl]; exact (List.getElem?_eq_some_iff.1 hj).1
          rw [List.getElem?_take_of_lt hlt, List.getElem?_drop] at hv
          obtain ⟨p, hpm, hp, hpd⟩ := hget j d hj
          exact view0_ok hc hpd (hT p hpm) (hr.2 (off + j) p v hp hv)
end Go.Proofs.Ytflbpkgnadjokaa
namespace Go.Proofs.Ytflbpkgnadjokaa
open Go Go.RowKit
abbrev Env := List (Nat × PV)
def look : Env → Nat → PV
  | [], _ => .any
  | (a, p) :: l, t => if t = a then p else look l t
def hatL : List Chunk → Nat → Chunk
  | [], _ => .none
  | c :: _, 0 => c
  | _ :: l, k + 1 => hatL l k
def mkF (e : Env) (h : List Chunk) : FS := ⟨look e, hatL h⟩
def evL (e : Env) : Operand → PV
  | .tmp t => look e t
  | .const v => .d (.v v)
  | .func f => .d (.clo f [])
  | .global _ => .any
theorem ev_mk (e : Env) (h : List Chunk) (x : Operand) : ev (mkF e h) x = evL e x := by cases x <;> rfl
/-- What an operation comes to: nothing known; a result, chunks that it turns, chunks that it looks at, and what must hold; a call. -/
inductive SR where
  | no
  | res (p : PV) (eff : List (Nat × Chunk)) (touch : List Nat) (side : Prop)
  | call (g : Nat) (ds : List D) (touch : List Nat)
def pickS (c a b : PV) : SR :=
  match c with
  | .d (.v (.bool t)) =>
    match a, b with
    | .d (.v (.bool p)), .d (.v (.bool q)) => .res (.d (.v (.bool (bif t then p else q)))) [] [] True
    | _, _ => .res (if t then a else b) [] [] True
  | _ => .no
def unS (op : UnOp) (x : PV) : SR :=
  match op, x with
  | .not, .d (.v (.bool b)) => .res (.d (.v (.bool (!b)))) [] [] True
  | .neg, .d (.v (.int k n)) => .res (.d (.v (.int k (k.wrap (0 - n))))) [] [] True
  | _, _ => .no
def nilS (x : PV) : SR :=
  match x with
  | .ptr k off => .res (.ptr k off) [] [] True
  | .d (.ept cs) => .res (.d (.ept cs)) [] [] True
  | _ => .no
def binS (ti : Option TI) (q : Option Nat) (op : BinOp) (x y : PV) : SR :=
  match x, y with
  | .d (.v (.int k m)), .d (.v (.int k' n)) =>
    if k = k' then
      match op with
      | .quo => .res (.d (.v (.int k (k.wrap (m.tdiv n))))) [] [] (n ≠ 0)
      | .rem => .res (.d (.v (.int k (m.tmod n)))) [] [] (n ≠ 0)
      | _ => match intS op k m n with
        | some r => .res (.d (.v r)) [] [] True
        | none => .no
    else .no
  | .d (.v (.bool m)), .d (.v (.bool n)) =>
    match ti, op with
    | some ti, .eql => .res (.d (.v (.bool (m == n)))) [] [] (ti.kind = 1)
    | some ti, .neq => .res (.d (.v (.bool (m != n)))) [] [] (ti.kind = 1)
    | _, _ => .no
  | .d (.agg ds), .d (.agg es) =>
    match q, intsD ds, intsD es with
    | some n, some xs, some ys =>
      match op with
      | .eql => .res (.d (.v (.bool (xs == ys)))) [] [] (xs.length = n ∧ ys.length = n)
      | .neq => .res (.d (.v (.bool (xs != ys)))) [] [] (xs.length = n ∧ ys.length = n)
      | _ => .no
    | _, _, _ => .no
  | _, _ => .no
def fieldS (ti : Option TI) (f : Nat) (x : PV) : SR :=
  match ti with
  | some ti =>
    match ti.fields[f]? with
    | some (off, sz) =>
      match x with
      | .d (.ept ds) => .res (.d (.ept (ds.drop off))) [] [] (sz ≠ 0)
      | .ptr k o' => .res (.ptr k (o' + off)) [] [] (sz ≠ 0)
      | .rp k g sz' i j => .res (.rp k g sz' i (j + off)) [] [] (sz ≠ 0)
      | _ => .no
    | none => .no
  | none => .no
def loadS (ti : Option TI) (h : Nat → Chunk) (x : PV) : SR :=
  match ti with
  | some ti =>
    match x with
    | .d (.ept ds) =>
      if ti.agg then .res (.d (.agg (ds.take ti.size))) [] [] (ti.size ≤ ds.length)
      else match ds with
        | d :: _ => .res (.d d) [] [] (ti.size = 1)
        | [] => .no
    | .ptr k off =>
      match h k with
      | .box _ cells =>
        if ti.agg then
          match viewL (view0 h) ((cells.drop off).take ti.size) with
          | some ds => .res (.d (.agg ds)) ((tchL tch0 ((cells.drop off).take ti.size)).map fun k => (k, .gone)) (k :: tchL tch0 ((cells.drop off).take ti.size)) (off + ti.size ≤ cells.length)
          | none => .no
        else match cells.drop off with
          | p :: _ => .res p [] [k] (ti.size = 1)
          | [] => .no
      | _ => .no
    | .rp k g sz i j =>
      match h k with
      | .row _ sz' g' rows =>
        if ti.agg then .res (.d (.agg ((((rows[i]?).getD []).drop j).take ti.size))) [] [k] (g = g' ∧ sz = sz' ∧ i < rows.length ∧ j + ti.size ≤ sz)
        else match ((rows[i]?).getD []).drop j with
          | d :: _ => .res (.d d) [] [k] (g = g' ∧ sz = sz' ∧ i < rows.length ∧ ti.size = 1 ∧ j + 1 ≤ sz)
          | [] => .no
      | _ => .no
    | _ => .no
  | none => .no
def indexS (T : Nat → Option TI) (ti : Option TI) (h : Nat → Chunk) (x y : PV) : SR :=
  match ti with
  | some ti =>
    match ti.elem with
    | some e =>
      match T e with
      | some te =>
        match y with
        | .d (.v (.int _ n)) =>
          match x with
          | .d (.sl sz rows) => .res (.d (.ept ((rows[n.toNat]?).getD []))) [] [] (te.size = sz ∧ 0 ≤ n ∧ n.toNat < rows.length)
          | .own k g =>
            match h k with
            | .row e' sz g' rows => .res (.rp k g sz n.toNat 0) [] [k] (e' = e ∧ g' = g ∧ te.size = sz ∧ 0 ≤ n ∧ n.toNat < rows.length)
            | _ => .no
          | _ => .no
        | _ => .no
      | none => .no
    | none => .no
  | none => .no
def extrS (x : PV) (i : Nat) : SR :=
  match x with
  | .d (.tup ds) => match ds[i]? with | some d => .res (.d d) [] [] True | none => .no
  | _ => .no
def partsS (h : Nat → Chunk) (e : Env) : List (Nat × Operand) → Option (List (Nat × List D) × List Nat)
  | [] => some ([], [])
  | (i, x) :: l =>
    if okP (evL e x) then
      match viewL (view0 h) (cellsP (evL e x)), partsS h e l with
      | some ds, some (pd, T) => some ((i, ds) :: pd, tchL tch0 (cellsP (evL e x)) ++ T)
      | _, _ => none
    else none
def buildS (ti : Option TI) (h : Nat → Chunk) (e : Env) (parts : List (Nat × Operand)) : SR :=
  match ti with
  | some ti =>
    match ti.fields with
    | [] => .no
    | _ :: _ =>
      match partsS h e parts with
      | some (pd, T) =>
        match fillD ti.fields (ti.zero.map .v) pd with
        | some out => .res (.d (.agg out)) (T.map fun k => (k, .gone)) T True
        | none => .no
      | none => .no
  | none => .no
def rowsS (e : Env) : Nat → List (Nat × Operand) → Option (List (List D))
  | _, [] => some []
  | n, (i, x) :: l =>
    if okP (evL e x) && (i == n) then
      match dsOf (cellsP (evL e x)), rowsS e (n + 1) l with
      | some ds, some rows => some (ds :: rows)
      | _, _ => none
    else none
def allLen (sz : Nat) : List (List D) → Prop
  | [] => True
  | r :: l => r.length = sz ∧ allLen sz l
def bslS (T : Nat → Option TI) (ti : Option TI) (nk : Nat) (e : Env) (n : Nat) (parts : List (Nat × Operand)) : SR :=
  match ti with
  | some ti =>
    match ti.elem with
    | some el =>
      match T el with
      | some te =>
        match n, parts with
        | 0, [] => .res (.own nk 0) [(nk, .row el te.size 0 [])] [nk] True
        | n + 1, parts =>
          match rowsS e 0 parts with
          | some rows => .res (.d (.sl te.size rows)) [] [] (0 < te.size ∧ (n + 1) * te.size ≤ 16777216 ∧ rows.length = n + 1 ∧ allLen te.size rows)
          | none => .no
        | _, _ => .no
      | none => .no
    | none => .no
  | none => .no
def convS (ts td : Option TI) (x : PV) : SR :=
  match ts, td with
  | some _, some td =>
    match td.int, x with
    | some k, .d (.v (.int _ n)) => .res (.d (.v (.int k (k.wrap n)))) [] [] True
    | _, _ => .no
  | _, _ => .no
def lenS (ti : Option TI) (h : Nat → Chunk) (x : PV) : SR :=
  match ti with
  | some ti =>
    match ti.elem with
    | some _ =>
      match x with
      | .d (.sl _ rows) => .res (.d (.v (.int .i64 rows.length))) [] [] True
      | .d (.v (.slice none 0 0)) => .res (.d (.v (.int .i64 (0 : Nat)))) [] [] True
      | .own k g => match h k with | .row _ _ g' rows => .res (.d (.v (.int .i64 rows.length))) [] [k] (g = g') | _ => .no
      | _ => .no
    | none => .no
  | none => .no
def appS (T : Nat → Option TI) (ti : Option TI) (nk : Nat) (h : Nat → Chunk) (x y : PV) : SR :=
  match ti with
  | some ti =>
    match ti.elem with
    | some el =>
      match T el with
      | some te =>
        if te.size = 0 ∨ te.bytes = 0 then .no else
        match x with
        | .own k g =>
          match h k with
          | .row e' sz g' rows =>
            match y with
            | .d (.sl sz' news) => .res (.own k (g + 1)) [(k, .row e' sz (g + 1) (rows ++ news))] [k] (e' = el ∧ g' = g ∧ te.size = sz ∧ sz' = sz ∧ (rows.length + news.length) * te.bytes ≤ 140737488355328)
            | .d (.v (.slice none 0 0)) => .res (.own k (g + 1)) [(k, .row e' sz (g + 1) (rows ++ []))] [k] (e' = el ∧ g' = g ∧ te.size = sz ∧ (rows.length + 0) * te.bytes ≤ 140737488355328)
            | _ => .no
          | _ => .no
        | .d (.v (.slice none 0 0)) =>
          match y with
          | .d (.sl sz' news) => .res (.own nk 0) [(nk, .row el te.size 0 news)] [nk] (sz' = te.size ∧ news.length * te.bytes ≤ 140737488355328)
          | _ => .no
        | _ => .no
      | none => .no
    | none => .no
  | none => .no
def storeS (ti : Option TI) (h : Nat → Chunk) (dst : Option Nat) (x y : PV) : SR :=
  match ti, dst with
  | some ti, none =>
    match x with
    | .ptr k off =>
      match h k with
      | .box T cells => if okP y then .res .any [(k, .box T (setAt cells off (cellsP y)))] [k] ((cellsP y).length = ti.size ∧ off + ti.size ≤ cells.length) else .no
      | _ => .no
    | _ => .no
  | _, _ => .no
def callS (h : Nat → Chunk) (f : PV) (args : List PV) : SR :=
  match f with
  | .clo g caps => match viewL (view2 h) (args ++ caps) with | some ds => .call g ds (tchL (tch2 h) (args ++ caps)) | none => .no
  | .d (.clo g cd) => match viewL (view2 h) (args ++ cd.map .d) with | some ds => .call g ds (tchL (tch2 h) (args ++ cd.map .d)) | none => .no
  | _ => .no
def opS (T : Nat → Option TI) (Q : Nat → Option Nat) (e : Env) (hl : List Chunk) (o : Oper) : SR :=
  match o.op with
  | .move x => .res (evL e x) [] [] True
  | .assign x => .res (evL e x) [] [] True
  | .pick c a b => pickS (evL e c) (evL e a) (evL e b)
  | .unOp op _ x => unS op (evL e x)
  | .nilCheck x => nilS (evL e x)
  | .binOp op t x y _ => binS (T t) (Q t) op (evL e x) (evL e y)
  | .fieldAddr t x f => fieldS (T t) f (evL e x)
  | .load t x => loadS (T t) (hatL hl) (evL e x)
  | .indexAddr t x y => indexS T (T t) (hatL hl) (evL e x) (evL e y)
  | .extract x i => extrS (evL e x) i
  | .alloc t => match T t with | some ti => .res (.ptr hl.length 0) [(hl.length, .box t (ti.zero.map fun x => .d (.v x)))] [hl.length] True | none => .no
  | .box t x => if okP (evL e x) then .res (.ptr hl.length 0) [(hl.length, .box t (cellsP (evL e x)))] [hl.length] True else .no
  | .store t x y => storeS (T t) (hatL hl) o.dst (evL e x) (evL e y)
  | .build t ⟨parts⟩ => buildS (T t) (hatL hl) e parts
  | .buildSlice t n ⟨parts⟩ => bslS T (T t) hl.length e n parts
  | .makeFunc (.func g) ⟨[]⟩ ⟨caps⟩ => .res (.clo g (caps.map (evL e))) [] [] True
  | .convert src dst x => convS (T src) (T dst) (evL e x)
  | .call ⟨.builtin .len, ⟨[x]⟩, ⟨[t]⟩⟩ => lenS (T t) (hatL hl) (evL e x)
  | .call ⟨.builtin .append, ⟨[x, y]⟩, ⟨[t, t']⟩⟩ => if t = t' then appS T (T t) hl.length (hatL hl) (evL e x) (evL e y) else .no
  | .call ⟨.builtin .min, ⟨[x, y]⟩, _⟩ => match evL e x, evL e y with | .d (.v (.int k m)), .d (.v (.int k' n)) => if k = k' then .res (.d (.v (.int k (if n < m then n else m)))) [] [] True else .no | _, _ => .no
  | .call ⟨.builtin .max, ⟨[x, y]⟩, _⟩ => match evL e x, evL e y with | .d (.v (.int k m)), .d (.v (.int k' n)) => if k = k' then .res (.d (.v (.int k (if m < n then n else m)))) [] [] True else .no | _, _ => .no
  | .call ⟨.value f, ⟨args⟩, _⟩ => callS (hatL hl) (evL e f) (args.map (evL e))
  | _ => .no
end Go.Proofs.Ytflbpkgnadjokaa
namespace Go.Proofs.Ytflbpkgnadjokaa
open Go Go.RowKit
theorem hatL_end : ∀ (l : List Chunk), hatL l l.length = .none
  | [] => rfl
  | _ :: l => hatL_end l
/-- The tables are the program's. -/
structure TabOK (P : Program) (T : Nat → Option TI) (Q : Nat → Option Nat) : Prop where
  t : ∀ t ti, T t = some ti → tcheck P t = some ti
  q : ∀ t n, Q t = some n → EqOK P t n
section
variable {X : Cfg} {ops : Array Oper} {e : Env} {hl : List Chunk} {o : Oper} {T : Nat → Option TI} {Q : Nat → Option Nat} (hTQ : TabOK X.P T Q) (hd : ∀ d, o.dst = some d → d < X.n) {p : PV} {eff : List (Nat × Chunk)} {touch : List Nat} {side : Prop}
include hd
theorem pickS_ok {x y z : Operand} (ho : o.op = .pick x y z) (h : pickS (evL e x) (evL e y) (evL e z) = .res p eff touch side) (_hs : side) : OpOK X ops (mkF e hl) o { pv := p, eff := eff, touch := touch } := by
  unfold pickS at h
  split at h
  · rename_i t hx
    have key := op_pick (X := X) (ops := ops) (s := mkF e hl) hd ho ((ev_mk e hl x).trans hx)
    rw [ev_mk, ev_mk] at key
    split at h
    · rename_i a b ha hb
      cases h
      rw [ha, hb] at key
      cases t <;> exact key
    · cases h
      exact key
  · cases h
theorem unS_ok {op : UnOp} {t : Nat} {x : Operand} (ho : o.op = .unOp op t x) (h : unS op (evL e x) = .res p eff touch side) (_hs : side) : OpOK X ops (mkF e hl) o { pv := p, eff := eff, touch := touch } := by
  unfold unS at h
  split at h
  · rename_i b hx
    cases h
    exact op_not hd ho ((ev_mk e hl x).trans hx)
  · rename_i k n hx
    cases h
    exact op_neg hd ho ((ev_mk e hl x).trans hx)
  · cases h
theorem nilS_ok {x : Operand} (ho : o.op = .nilCheck x) (h : nilS (evL e x) = .res p eff touch side) (_hs : side) : OpOK X ops (mkF e hl) o { pv := p, eff := eff, touch := touch } := by
  unfold nilS at h
  split at h
  · rename_i k off hx
    cases h
    have := op_nilCheck (X := X) (ops := ops) (s := mkF e hl) hd ho (.inl ⟨k, off, (ev_mk e hl x).trans hx⟩)
    rwa [ev_mk, hx] at this
  · rename_i cs hx
    cases h
    have := op_nilCheck (X := X) (ops := ops) (s := mkF e hl) hd ho (.inr ⟨cs, (ev_mk e hl x).trans hx⟩)
    rwa [ev_mk, hx] at this
  · cases h
include hTQ in
theorem binS_ok {op : BinOp} {t t' : Nat} {x y : Operand} (ho : o.op = .binOp op t x y t') (h : binS (T t) (Q t) op (evL e x) (evL e y) = .res p eff touch side) (hs : side) : OpOK X ops (mkF e hl) o { pv := p, eff := eff, touch := touch } := by
  unfold binS at h
  split at h
  · rename_i k m k' n hx hy
    split at h
    · rename_i hk
      subst hk
      split at h
      · cases h
        exact op_divrem hd ho ((ev_mk e hl x).trans hx) ((ev_mk e hl y).trans hy) hs (.inl ⟨rfl, rfl⟩)
      · cases h
        exact op_divrem hd ho ((ev_mk e hl x).trans hx) ((ev_mk e hl y).trans hy) hs (.inr ⟨rfl, rfl⟩)
      · split at h
        · rename_i r hr
          cases h
          exact op_int hd ho ((ev_mk e hl x).trans hx) ((ev_mk e hl y).trans hy) hr
        · cases h
    · cases h
  · rename_i m n hx hy
    split at h
    · rename_i ti ht
      cases h
      exact op_boolEq hd ho (hTQ.t t _ ht) hs ((ev_mk e hl x).trans hx) ((ev_mk e hl y).trans hy) (.inl ⟨rfl, rfl⟩)
    · rename_i ti ht
      cases h
      exact op_boolEq hd ho (hTQ.t t _ ht) hs ((ev_mk e hl x).trans hx) ((ev_mk e hl y).trans hy) (.inr ⟨rfl, rfl⟩)
    · cases h
  · rename_i ds es hx hy
    split at h
    · rename_i n xs ys hq h1 h2
      split at h
      · cases h
        exact op_eqAgg hd ho (hTQ.q t n hq) (.inl rfl) ((ev_mk e hl x).trans hx) ((ev_mk e hl y).trans hy) h1 h2 hs.1 hs.2
      · cases h
        have := op_eqAgg (X := X) (ops := ops) (s := mkF e hl) hd ho (hTQ.q t n hq) (.inr rfl) ((ev_mk e hl x).trans hx) ((ev_mk e hl y).trans hy) h1 h2 hs.1 hs.2
        simpa using this
      · cases h
    · cases h
  · cases h
include hTQ in
theorem fieldS_ok {t f : Nat} {x : Operand} (ho : o.op = .fieldAddr t x f) (h : fieldS (T t) f (evL e x) = .res p eff touch side) (hs : side) : OpOK X ops (mkF e hl) o { pv := p, eff := eff, touch := touch } := by
  unfold fieldS at h
  split at h
  · rename_i ti ht
    split at h
    · rename_i off sz hf
      split at h
      · rename_i ds hx
        cases h
        exact op_field hd ho (hTQ.t t ti ht) hf hs ((ev_mk e hl x).trans hx)
      · rename_i k o' hx
        cases h
        exact op_fieldPtr hd ho (hTQ.t t ti ht) hf hs ((ev_mk e hl x).trans hx)
      · rename_i k g sz' i j hx
        cases h
        exact op_fieldRp hd ho (hTQ.t t ti ht) hf hs ((ev_mk e hl x).trans hx)
      · cases h
    · cases h
  · cases h
omit hd in
theorem drop_cons {α : Type} {l : List α} {j : Nat} {d : α} {r : List α} (h : l.drop j = d :: r) : l[j]? = some d := by
  have := List.getElem?_drop (xs := l) (i := j) (j := 0)
  rw [h] at this
  simpa using this.symm
omit hd in
theorem getD_row {rows : List (List D)} {i : Nat} (h : i < rows.length) : rows[i]? = some ((rows[i]?).getD []) := by
  rw [List.getElem?_eq_getElem h]; rfl
include hTQ in
theorem loadS_ok {t : Nat} {x : Operand} (ho : o.op = .load t x) (h : loadS (T t) (hatL hl) (evL e x) = .res p eff touch side) (hs : side) : OpOK X ops (mkF e hl) o { pv := p, eff := eff, touch := touch } := by
  unfold loadS at h
  split at h
  · rename_i ti ht
    have ht := hTQ.t t ti ht
    split at h
    · rename_i ds hx
      have hx := (ev_mk e hl x).trans hx
      split at h
      · rename_i hag
        cases h
        exact op_loadE hd ho ht hx hs (.inl ⟨hag, rfl⟩)
      · rename_i hag
        split at h
        · rename_i d r
          cases h
          have hs' : ti.size = 1 := hs
          exact op_loadE hd ho ht hx (by rw [hs']; simp) (.inr ⟨by simpa using hag, hs', rfl⟩)
        · cases h
    · rename_i k off hx
      have hx := (ev_mk e hl x).trans hx
      split at h
      · rename_i TT cells hk
        split at h
        · rename_i hag
          split at h
          · rename_i ds hv
            cases h
            exact op_loadF hd ho ht hx (s := mkF e hl) hk hs hag hv (fun q hq k' hk' => tchL_mem hq k' hk')
          · cases h
        · rename_i hag
          split at h
          · rename_i q r hc
            cases h
            have hs' : ti.size = 1 := hs
            have hc' := drop_cons hc
            exact op_loadP hd ho ht hx (s := mkF e hl) hk (by have := (List.getElem?_eq_some_iff.1 hc').1; omega) (.inr ⟨by simpa using hag, hs', hc'⟩)
          · cases h
      · cases h
    · rename_i k g sz i j hx
      have hx := (ev_mk e hl x).trans hx
      split at h
      · rename_i E sz' g' rows hk
        split at h
        · rename_i hag
          cases h
          obtain ⟨rfl, rfl, hi, hj⟩ := hs
          exact op_loadRp hd ho ht hx (s := mkF e hl) hk (getD_row hi) hj (.inl ⟨hag, rfl⟩)
        · rename_i hag
          split at h
          · rename_i d r hc
            cases h
            obtain ⟨rfl, rfl, hi, hs', hj⟩ := hs
            have hc' := drop_cons hc
            exact op_loadRp hd ho ht hx (s := mkF e hl) hk (getD_row hi) (by omega) (.inr ⟨by simpa using hag, hs', hc'⟩)
          · cases h
      · cases h
    · cases h
  · cases h
include hTQ in
theorem indexS_ok {t : Nat} {x y : Operand} (ho : o.op = .indexAddr t x y) (h : indexS T (T t) (hatL hl) (evL e x) (evL e y) = .res p eff touch side) (hs : side) : OpOK X ops (mkF e hl) o { pv := p, eff := eff, touch := touch } := by
  unfold indexS at h
  split at h
  · rename_i ti ht
    split at h
    · rename_i el he
      split at h
      · rename_i te hte
        split at h
        · rename_i kd n hy
          have hy := (ev_mk e hl y).trans hy
          split at h
          · rename_i sz rows hx
            cases h
            exact op_index hd ho (hTQ.t t ti ht) he (hTQ.t el te hte) hs.1 ((ev_mk e hl x).trans hx) hy hs.2.1 (getD_row hs.2.2)
          · rename_i k g hx
            split at h
            · rename_i e' sz g' rows hk
              cases h
              obtain ⟨rfl, rfl, h1, h2, h3⟩ := hs
              exact op_indexOwn hd ho (hTQ.t t ti ht) he (hTQ.t _ te hte) h1 ((ev_mk e hl x).trans hx) (s := mkF e hl) hk hy h2 h3
            · cases h
          · cases h
        · cases h
      · cases h
    · cases h
  · cases h
theorem extrS_ok {x : Operand} {i : Nat} (ho : o.op = .extract x i) (h : extrS (evL e x) i = .res p eff touch side) (_hs : side) : OpOK X ops (mkF e hl) o { pv := p, eff := eff, touch := touch } := by
  unfold extrS at h
  split at h
  · rename_i ds hx
    split at h
    · rename_i d hi
      cases h
      exact op_extract hd ho ((ev_mk e hl x).trans hx) hi
    · cases h
  · cases h
omit hd in
theorem partsS_ok : ∀ {parts : List (Nat × Operand)} {pd : List (Nat × List D)} {TT : List Nat}, partsS (hatL hl) e parts = some (pd, TT) → pd.length = parts.length ∧ ∀ (j : Nat) (i : Nat) (x : Operand), parts[j]? = some (i, x) →
    ∃ ds, pd[j]? = some (i, ds) ∧ viewL (view0 (hatL hl)) (cellsP (evL e x)) = some ds ∧ okP (evL e x) = true ∧ ∀ q ∈ cellsP (evL e x), ∀ k ∈ tch0 q, k ∈ TT
  | [], pd, TT, h => by cases h; simp
  | (i, x) :: l, pd, TT, h => by
    unfold partsS at h
    split at h
    · rename_i hok
      split at h
      · rename_i ds pd' TT' h1 h2
        cases h
        obtain ⟨q1, q2⟩ := partsS_ok h2
        refine ⟨by simp [q1], fun j i' y hj => ?_⟩
        cases j with
        | zero =>
          simp at hj
          obtain ⟨rfl, rfl⟩ := hj
          exact ⟨ds, rfl, h1, hok, fun q hq k hk => List.mem_append_left _ (tchL_mem hq k hk)⟩
        | succ j =>
          obtain ⟨ds', r1, r2, r3, r4⟩ := q2 j i' y (by simpa using hj)
          exact ⟨ds', by simpa using r1, r2, r3, fun q hq k hk => List.mem_append_right _ (r4 q hq k hk)⟩
      · cases h
    · cases h
include hTQ in
theorem buildS_ok {t : Nat} {parts : List (Nat × Operand)} (ho : o.op = .build t ⟨parts⟩) (h : buildS (T t) (hatL hl) e parts = .res p eff touch side) (_hs : side) : OpOK X ops (mkF e hl) o { pv := p, eff := eff, touch := touch } := by
  unfold buildS at h
  split at h
  · rename_i ti ht
    split at h
    · cases h
    · rename_i f fs hfl
      split at h
      · rename_i pd TT hp
        split at h
        · rename_i out hf
          cases h
          obtain ⟨q1, q2⟩ := partsS_ok hp
          refine op_buildF hd ho (hTQ.t t ti ht) (by rw [hfl]; simp) (pd := pd) (by simpa using q1) (fun j i x hj => ?_) (by rw [← hf, hfl])
          obtain ⟨ds, r1, r2, r3, r4⟩ := q2 j i x (by simpa using hj)
          exact ⟨ds, r1, by rw [ev_mk]; exact r2, by rw [ev_mk]; exact r3, by rw [ev_mk]; exact r4⟩
        · cases h
      · cases h
  · cases h
omit hd in
theorem rowsS_ok : ∀ {parts : List (Nat × Operand)} {n : Nat} {rows : List (List D)}, rowsS e n parts = some rows → parts.length = rows.length ∧ ∀ (j : Nat) (i : Nat) (x : Operand), parts[j]? = some (i, x) →
    i = n + j ∧ ∃ ds, rows[j]? = some ds ∧ dsOf (cellsP (evL e x)) = some ds ∧ okP (evL e x) = true
  | [], n, rows, h => by cases h; simp
  | (i, x) :: l, n, rows, h => by
    unfold rowsS at h
    split at h
    · rename_i hok
      simp only [Bool.and_eq_true, beq_iff_eq] at hok
      split at h
      · rename_i ds rows' h1 h2
        cases h
        obtain ⟨q1, q2⟩ := rowsS_ok h2
        refine ⟨by simp [q1], fun j i' y hj => ?_⟩
        cases j with
        | zero =>
          simp at hj
          obtain ⟨rfl, rfl⟩ := hj
          exact ⟨by omega, ds, rfl, h1, hok.1⟩
        | succ j =>
          obtain ⟨r0, ds', r1, r2, r3⟩ := q2 j i' y (by simpa using hj)
          exact ⟨by omega, ds', by simpa using r1, r2, r3⟩
      · cases h
    · cases h
omit hd in
theorem allLen_mem {sz : Nat} : ∀ {rows : List (List D)}, allLen sz rows → ∀ r ∈ rows, r.length = sz
  | r :: rows, h, q, hq => by
    rcases List.mem_cons.1 hq with rfl | hq
    · exact h.1
    · exact allLen_mem h.2 q hq
include hTQ in
theorem bslS_ok {t n : Nat} {parts : List (Nat × Operand)} (ho : o.op = .buildSlice t n ⟨parts⟩) (h : bslS T (T t) hl.length e n parts = .res p eff touch side) (hs : side) : OpOK X ops (mkF e hl) o { pv := p, eff := eff, touch := touch } := by
  unfold bslS at h
  split at h
  · rename_i ti ht
    split at h
    · rename_i el he
      split at h
      · rename_i te hte
        split at h
        · cases h
          exact op_buildSlice0 hd ho (hTQ.t t ti ht) he (hTQ.t el te hte) (s := mkF e hl) (hatL_end hl)
        · rename_i n' parts'
          split at h
          · rename_i rows hr
            cases h
            obtain ⟨h1, h2, h3, h4⟩ := hs
            obtain ⟨q1, q2⟩ := rowsS_ok hr
            refine op_buildSlice hd ho (hTQ.t t ti ht) he (hTQ.t el te hte) rfl h1 (by omega) h2 h3 (by simp; omega) (fun j i x hj => ?_)
            obtain ⟨r0, ds, r1, r2, r3⟩ := q2 j i x (by simpa using hj)
            exact ⟨by omega, ds, r1, by rw [ev_mk]; exact r2, by rw [ev_mk]; exact r3, allLen_mem h4 ds (List.mem_of_getElem? r1)⟩
          · cases h
        · cases h
      · cases h
    · cases h
  · cases h
include hTQ in
theorem convS_ok {src dst : Nat} {x : Operand} (ho : o.op = .convert src dst x) (h : convS (T src) (T dst) (evL e x) = .res p eff touch side) (_hs : side) : OpOK X ops (mkF e hl) o { pv := p, eff := eff, touch := touch } := by
  unfold convS at h
  split at h
  · rename_i ts td h1 h2
    split at h
    · rename_i k k' n hi hx
      cases h
      exact op_convert hd ho (hTQ.t _ _ h1) (hTQ.t _ _ h2) hi ((ev_mk e hl x).trans hx)
    · cases h
  · cases h
include hTQ in
theorem lenS_ok {t : Nat} {x : Operand} (ho : o.op = .call ⟨.builtin .len, ⟨[x]⟩, ⟨[t]⟩⟩) (h : lenS (T t) (hatL hl) (evL e x) = .res p eff touch side) (hs : side) : OpOK X ops (mkF e hl) o { pv := p, eff := eff, touch := touch } := by
  unfold lenS at h
  split at h
  · rename_i ti ht
    split at h
    · rename_i el he
      split at h
      · rename_i sz rows hx
        cases h
        exact op_len (ty := 0) hd ho (hTQ.t _ _ ht) he ((ev_mk e hl x).trans hx) (.inl ⟨_, _, rfl, rfl⟩)
      · rename_i hx
        cases h
        exact op_len (ty := 0) hd ho (hTQ.t _ _ ht) he ((ev_mk e hl x).trans hx) (.inr ⟨rfl, rfl⟩)
      · rename_i k g hx
        split at h
        · rename_i E sz g' rows hk
          cases h
          subst hs
          exact op_lenOwn hd ho (hTQ.t _ _ ht) he ((ev_mk e hl x).trans hx) (s := mkF e hl) hk
        · cases h
      · cases h
    · cases h
  · cases h
include hTQ in
theorem appS_ok {t : Nat} {x y : Operand} (ho : o.op = .call ⟨.builtin .append, ⟨[x, y]⟩, ⟨[t, t]⟩⟩) (h : appS T (T t) hl.length (hatL hl) (evL e x) (evL e y) = .res p eff touch side) (hs : side) : OpOK X ops (mkF e hl) o { pv := p, eff := eff, touch := touch } := by
  unfold appS at h
  split at h
  · rename_i ti ht
    split at h
    · rename_i el he
      split at h
      · rename_i te hte
        split at h
        · cases h
        · rename_i hz
          have hz1 : 0 < te.size := by omega
          have hz2 : 0 < te.bytes := by omega
          have big : ∀ m : Nat, m * te.bytes ≤ 140737488355328 → m ≤ 9223372036854775807 := fun m hm => by
            have := Nat.le_mul_of_pos_right m hz2
            omega
          split at h
          · rename_i k g hx
            split at h
            · rename_i e' sz g' rows hk
              split at h
              · rename_i sz' news hy
                cases h
                obtain ⟨rfl, rfl, rfl, rfl, hb⟩ := hs
                exact op_append hd ho (hTQ.t _ _ ht) he (hTQ.t _ _ hte) rfl hz1 ((ev_mk e hl x).trans hx) (s := mkF e hl) hk (.inl ((ev_mk e hl y).trans hy)) (big _ hb) hb
              · rename_i hy
                cases h
                obtain ⟨rfl, rfl, rfl, hb⟩ := hs
                exact op_append hd ho (hTQ.t _ _ ht) he (hTQ.t _ _ hte) rfl hz1 ((ev_mk e hl x).trans hx) (s := mkF e hl) hk (.inr ⟨(ev_mk e hl y).trans hy, rfl⟩) (big _ hb) hb
              · cases h
            · cases h
          · rename_i hx
            split at h
            · rename_i sz' news hy
              cases h
              obtain ⟨rfl, hb⟩ := hs
              exact op_appendNil hd ho (hTQ.t _ _ ht) he (hTQ.t _ _ hte) rfl hz1 ((ev_mk e hl x).trans hx) (s := mkF e hl) (hatL_end hl) ((ev_mk e hl y).trans hy) (big _ hb) hb
            · cases h
          · cases h
      · cases h
    · cases h
  · cases h
include hTQ in
theorem storeS_ok {t : Nat} {x y : Operand} (ho : o.op = .store t x y) (h : storeS (T t) (hatL hl) o.dst (evL e x) (evL e y) = .res p eff touch side) (hs : side) : OpOK X ops (mkF e hl) o { pv := p, eff := eff, touch := touch } := by
  unfold storeS at h
  split at h
  · rename_i ti ht hdst
    split at h
    · rename_i k off hx
      split at h
      · rename_i TT cells hk
        split at h
        · rename_i hok
          cases h
          have := op_store (X := X) (ops := ops) hd ho hdst (hTQ.t _ _ ht) ((ev_mk e hl x).trans hx) (s := mkF e hl) hk (y := y) (by rw [ev_mk]; exact hok) (by rw [ev_mk]; exact hs.1) hs.2
          rwa [ev_mk] at this
        · cases h
      · cases h
    · cases h
  · cases h
end
end Go.Proofs.Ytflbpkgnadjokaa
namespace Go.Proofs.Ytflbpkgnadjokaa
open Go Go.RowKit
section
variable {X : Cfg} {ops : Array Oper} {e : Env} {hl : List Chunk} {o : Oper} {T : Nat → Option TI} {Q : Nat → Option Nat} (hTQ : TabOK X.P T Q) (hd : ∀ d, o.dst = some d → d < X.n)
include hTQ hd
theorem opS_ok {p : PV} {eff : List (Nat × Chunk)} {touch : List Nat} {side : Prop} (h : opS T Q e hl o = .res p eff touch side) (hs : side) : OpOK X ops (mkF e hl) o { pv := p, eff := eff, touch := touch } := by
  unfold opS at h
  split at h
  · rename_i x ho
    cases h
    have := op_move (X := X) (ops := ops) (s := mkF e hl) hd ho
    rwa [ev_mk] at this
  · rename_i x ho
    cases h
    have := op_assign (X := X) (ops := ops) (s := mkF e hl) hd ho
    rwa [ev_mk] at this
  · rename_i ho; exact pickS_ok hd ho h hs
  · rename_i ho; exact unS_ok hd ho h hs
  · rename_i ho; exact nilS_ok hd ho h hs
  · rename_i ho; exact binS_ok hTQ hd ho h hs
  · rename_i ho; exact fieldS_ok hTQ hd ho h hs
  · rename_i ho; exact loadS_ok hTQ hd ho h hs
  · rename_i ho; exact indexS_ok hTQ hd ho h hs
  · rename_i ho; exact extrS_ok hd ho h hs
  · rename_i t ho
    split at h
    · rename_i ti ht
      cases h
      exact op_alloc hd ho (hTQ.t _ _ ht) (s := mkF e hl) (hatL_end hl)
    · cases h
  · rename_i t x ho
    split at h
    · rename_i hok
      cases h
      have := op_box (X := X) (ops := ops) (s := mkF e hl) hd ho (hatL_end hl) (by rw [ev_mk]; exact hok)
      rwa [ev_mk] at this
    · cases h
  · rename_i ho; exact storeS_ok hTQ hd ho h hs
  · rename_i ho; exact buildS_ok hTQ hd ho h hs
  · rename_i ho; exact bslS_ok hTQ hd ho h hs
  · rename_i g caps ho
    cases h
    have := op_makeFunc (X := X) (ops := ops) (s := mkF e hl) hd ho
    have e1 : (List.map (ev (mkF e hl)) caps) = caps.map (evL e) := List.map_congr_left fun x _ => ev_mk e hl x
    simp only at this
    rwa [e1] at this
  · rename_i ho; exact convS_ok hTQ hd ho h hs
  · rename_i ho; exact lenS_ok hTQ hd ho h hs
  · rename_i x y t t' ho
    split at h
    · rename_i e1
      subst e1
      exact appS_ok hTQ hd ho h hs
    · cases h
  · rename_i x y tys ho
    split at h
    · rename_i k m k' n hx hy
      split at h
      · rename_i e1
        subst e1
        cases h
        exact op_min hd ho ((ev_mk e hl x).trans hx) ((ev_mk e hl y).trans hy)
      · cases h
    · cases h
  · rename_i x y tys ho
    split at h
    · rename_i k m k' n hx hy
      split at h
      · rename_i e1
        subst e1
        cases h
        exact op_max hd ho ((ev_mk e hl x).trans hx) ((ev_mk e hl y).trans hy)
      · cases h
    · cases h
  · unfold callS at h
    split at h
    · split at h <;> cases h
    · split at h <;> cases h
    · cases h
  · cases h
omit hTQ in
theorem opS_call {g : Nat} {ds : List D} {touch : List Nat} {r : D} (h : opS T Q e hl o = .call g ds touch) (hp : PSpec X.P g ds r) (hf : touch = [] ∨ r.flat = true) : OpOK X ops (mkF e hl) o { pv := .d r, touch := touch } := by
  have key : ∀ (fo : Operand) (args : List Operand) (tys : Array Nat), o.op = .call ⟨.value fo, ⟨args⟩, tys⟩ → callS (hatL hl) (evL e fo) (args.map (evL e)) = .call g ds touch → OpOK X ops (mkF e hl) o { pv := .d r, touch := touch } := by
    intro fo args tys ho h
    have e1 : (List.map (ev (mkF e hl)) args) = args.map (evL e) := List.map_congr_left fun x _ => ev_mk e hl x
    unfold callS at h
    split at h
    · rename_i g' caps hfo
      split at h
      · rename_i ds' hv
        cases h
        have := op_call (X := X) (ops := ops) (s := mkF e hl) hd ho (.inl ((ev_mk e hl fo).trans hfo)) (by simp only; rw [e1]; exact hv) hp (by simp only; rw [e1]; exact hf)
        simp only at this
        rwa [e1] at this
      · cases h
    · rename_i g' cd hfo
      split at h
      · rename_i ds' hv
        cases h
        have := op_call (X := X) (ops := ops) (s := mkF e hl) hd ho (caps := cd.map .d) (.inr ⟨cd, (ev_mk e hl fo).trans hfo, rfl⟩) (by simp only; rw [e1]; exact hv) hp (by simp only; rw [e1]; exact hf)
        simp only at this
        rwa [e1] at this
      · cases h
    · cases h
  unfold opS at h
  split at h <;> first
    | (rename_i ho; exact key _ _ _ ho h)
    | (exfalso; revert h; unfold pickS; repeat (first | (split) | (intro h; cases h)))
    | (exfalso; revert h; unfold unS; repeat (first | (split) | (intro h; cases h)))
    | (exfalso; revert h; unfold nilS; repeat (first | (split) | (intro h; cases h)))
    | (exfalso; revert h; unfold binS; repeat (first | (split) | (intro h; cases h)))
    | (exfalso; revert h; unfold fieldS; repeat (first | (split) | (intro h; cases h)))
    | (exfalso; revert h; unfold loadS; repeat (first | (split) | (intro h; cases h)))
    | (exfalso; revert h; unfold indexS; repeat (first | (split) | (intro h; cases h)))
    | (exfalso; revert h; unfold extrS; repeat (first | (split) | (intro h; cases h)))
    | (exfalso; revert h; unfold storeS; repeat (first | (split) | (intro h; cases h)))
    | (exfalso; revert h; unfold buildS; repeat (first | (split) | (intro h; cases h)))
    | (exfalso; revert h; unfold bslS; repeat (first | (split) | (intro h; cases h)))
    | (exfalso; revert h; unfold convS; repeat (first | (split) | (intro h; cases h)))
    | (exfalso; revert h; unfold lenS; repeat (first | (split) | (intro h; cases h)))
    | (exfalso; revert h; unfold appS; repeat (first | (split) | (intro h; cases h)))
    | (exfalso; revert h; repeat (first | (split) | (intro h; cases h)))
end
def putE (e : Env) (dst : Option Nat) (p : PV) : Env :=
  match dst with
  | some d => (d, p) :: e
  | none => e
def setC : List Chunk → Nat → Chunk → List Chunk
  | [], 0, c => [c]
  | [], _ + 1, _ => []
  | _ :: l, 0, c => c :: l
  | a :: l, k + 1, c => a :: setC l k c
def effC : List (Nat × Chunk) → List Chunk → List Chunk
  | [], h => h
  | (k, c) :: l, h => setC (effC l h) k c
theorem hatL_setC : ∀ {h : List Chunk} {k : Nat} {c : Chunk}, k ≤ h.length → ∀ k', hatL (setC h k c) k' = if k' = k then c else hatL h k'
  | [], 0, c, _, k' => by cases k' <;> simp [setC, hatL]
  | [], k + 1, c, h, k' => by simp at h
  | a :: l, 0, c, _, k' => by cases k' <;> simp [setC, hatL]
  | a :: l, k + 1, c, h, k' => by
    cases k' with
    | zero => simp [setC, hatL]
    | succ k' =>
      simp only [setC, hatL]
      rw [hatL_setC (by simpa using h)]
      simp
theorem setC_len : ∀ {h : List Chunk} {k : Nat} {c : Chunk}, h.length ≤ (setC h k c).length
  | [], 0, c => by simp [setC]
  | [], k + 1, c => by simp [setC]
  | a :: l, 0, c => by simp [setC]
  | a :: l, k + 1, c => by
    have := setC_len (h := l) (k := k) (c := c)
    simpa [setC] using this
theorem effC_len : ∀ {eff : List (Nat × Chunk)} {h : List Chunk}, h.length ≤ (effC eff h).length
  | [], _ => Nat.le_refl _
  | (_, _) :: _, _ => Nat.le_trans effC_len setC_len
theorem hatL_effC : ∀ {eff : List (Nat × Chunk)} {h : List Chunk}, (∀ kc ∈ eff, kc.1 ≤ h.length) → ∀ k', hatL (effC eff h) k' = effH eff (hatL h) k'
  | [], _, _, _ => rfl
  | (k, c) :: l, h, hk, k' => by
    simp only [effC, effH]
    rw [hatL_setC (Nat.le_trans (hk (k, c) (by simp)) effC_len), hatL_effC fun kc hkc => hk kc (by simp [hkc])]
theorem mkF_app {e : Env} {h : List Chunk} {dst : Option Nat} {p : PV} {eff : List (Nat × Chunk)} {touch : List Nat} (hk : ∀ kc ∈ eff, kc.1 ≤ h.length) : (mkF e h).app dst { pv := p, eff := eff, touch := touch } = mkF (putE e dst p) (effC eff h) := by
  have h1 : hatL (effC eff h) = effH eff (hatL h) := funext (hatL_effC hk)
  cases dst with
  | none => simp only [FS.app, FS.put, mkF, putE, h1]
  | some d =>
    simp only [FS.app, FS.put, mkF, putE, h1]
    congr 1
def yieldL (ops : Array Oper) (e : Env) (j : Nat) : Option (Option Bool) :=
  match (ops[j]?).bind (·.dst) with
  | none => some none
  | some t => match look e t with
    | .d (.v (.bool b)) => some (some b)
    | .d (.v (.tuple _)) => some none
    | _ => none
def guardL (ops : Array Oper) (e : Env) (o : Oper) : Option Bool :=
  match o.guard with
  | none => some true
  | some (j, want) => (yieldL ops e j).map (· == some want)
def dstB (n : Nat) (o : Oper) : Bool := match o.dst with | some d => decide (d < n) | none => true
/-- A region, evaluated. -/
def sOps (P : Program) (n : Nat) (T : Nat → Option TI) (Q : Nat → Option Nat) (draw : Bool) (ops : Array Oper) : List Oper → Env → List Chunk → List (List Nat × List Nat) → (Env → List Chunk → Prop) → Prop
  | [], e, h, sm, K => (draw = true → (indepB ops sm.reverse && edgesB ops) = true) ∧ K e h
  | o :: l, e, h, sm, K =>
    match guardL ops e o with
    | some g =>
      dstB n o = true ∧
      (g = true → match opS T Q e h o with
        | .no => False
        | .res p eff touch side => side ∧ (eff.all fun kc => decide (kc.1 ≤ h.length)) = true ∧ sOps P n T Q draw ops l (putE e o.dst p) (effC eff h) ((eff.map (·.1), touch) :: sm) K
        | .call g ds touch => ∃ r, PSpec P g ds r ∧ (touch = [] ∨ r.flat = true) ∧ sOps P n T Q draw ops l (putE e o.dst (.d r)) h (([], touch) :: sm) K) ∧
      (g = false → sOps P n T Q draw ops l (putE e o.dst (.d (.v undef))) h (([], []) :: sm) K)
    | none => False
theorem sOps_sound {X : Cfg} {T : Nat → Option TI} {Q : Nat → Option Nat} (hTQ : TabOK X.P T Q) {draw : Bool} {ops : Array Oper} {K : Env → List Chunk → Prop} : ∀ (l : List Oper) (i : Nat) (e : Env) (h : List Chunk) (sm : List (List Nat × List Nat)), ops.toList.drop i = l → i ≤ ops.size →
    sOps X.P X.n T Q draw ops l e h sm K → ∃ its e' h', TraceOK X ops (mkF e h) i its ∧ runS (mkF e h) its = mkF e' h' ∧ (draw = true → (indepB ops (sm.reverse ++ smOf its) && edgesB ops) = true) ∧ K e' h'
  | [], i, e, h, sm, hl, hi, hs => by
    refine ⟨[], e, h, ?_, rfl, by simpa [smOf] using hs.1, hs.2⟩
    have := congrArg List.length hl
    simp at this
    simp only [TraceOK]
    omega
  | o :: l, i, e, h, sm, hl, hi, hs => by
    have hlt : i < ops.size := by
      have := congrArg List.length hl
      simp at this
      omega
    have hoi : ops[i]? = some o := by
      have := List.getElem?_drop (xs := ops.toList) (i := i) (j := 0)
      rw [hl] at this
      simpa using this.symm
    have hl' : ops.toList.drop (i + 1) = l := by
      rw [← List.drop_drop, hl]; rfl
    unfold sOps at hs
    split at hs
    · rename_i g hg
      obtain ⟨hdst, h1, h2⟩ := hs
      have hd : ∀ d, o.dst = some d → d < X.n := by
        intro d hd
        unfold dstB at hdst
        rw [hd] at hdst
        simpa using hdst
      have hgS : guardS ops (mkF e h) o = some g := hg
      have step : ∀ (res : Res) (e2 : Env) (h2 : List Chunk), ItOK X ops (mkF e h) ⟨o, g, res⟩ → (mkF e h).app o.dst res = mkF e2 h2 → sOps X.P X.n T Q draw ops l e2 h2 ((res.eff.map (·.1), res.touch) :: sm) K →
          ∃ its e' h', TraceOK X ops (mkF e h) i its ∧ runS (mkF e h) its = mkF e' h' ∧ (draw = true → (indepB ops (sm.reverse ++ smOf its) && edgesB ops) = true) ∧ K e' h' := by
        intro res e2 h2 hit happ hs
        obtain ⟨its, e', h', t1, t2, t3, t4⟩ := sOps_sound hTQ l (i + 1) e2 h2 _ hl' (by omega) hs
        refine ⟨⟨o, g, res⟩ :: its, e', h', ⟨hoi, hit, by rw [happ]; exact t1⟩, ?_, fun hdr => ?_, t4⟩
        · show runS ((mkF e h).app o.dst res) its = _
          rw [happ]
          exact t2
        · have := t3 hdr
          simpa [smOf] using this
      cases g with
      | true =>
        have h1 := h1 rfl
        split at h1
        · exact h1.elim
        · rename_i p eff touch side hop
          obtain ⟨hside, heff, hrest⟩ := h1
          have hk : ∀ kc ∈ eff, kc.1 ≤ h.length := fun kc hkc => by
            have := List.all_eq_true.1 heff kc hkc
            simpa using this
          exact step ⟨p, eff, touch⟩ _ _ ⟨hgS, fun _ => opS_ok hTQ hd hop hside, fun hf => by cases hf⟩ (mkF_app hk) hrest
        · rename_i g ds touch hop
          obtain ⟨r, hp, hf, hrest⟩ := h1
          exact step ⟨.d r, [], touch⟩ _ h ⟨hgS, fun _ => opS_call hd hop hp hf, fun hf => by cases hf⟩ (mkF_app (fun kc h => by simp at h)) hrest
      | false =>
        exact step undefR _ h ⟨hgS, (fun hf => (by cases hf)), fun _ => ⟨rfl, hd⟩⟩ (mkF_app (fun kc h => by simp at h)) (h2 rfl)
    · exact hs.elim
theorem region_sound {X : Cfg} {T : Nat → Option TI} {Q : Nat → Option Nat} (hTQ : TabOK X.P T Q) (hm : X.P.follows .mixedOrders = true) {id : Nat} {draw : Bool} {ops : Array Oper} {K : Env → List Chunk → Prop} {e : Env} {h : List Chunk} {a : Act} {w : World} {R : Exit → Act → World → Prop}
    (hs : sOps X.P X.n T Q draw ops ops.toList e h [] K) (hr : Real X (mkF e h) a w) (hR : ∀ e' h' a' w', K e' h' → Real X (mkF e' h') a' w' → R .normal a' w') : (Code.region id ops draw).wp X.P R a w := by
  obtain ⟨its, e', h', t1, t2, t3, t4⟩ := sOps_sound hTQ ops.toList 0 e h [] rfl (Nat.zero_le _) hs
  refine region_real hm id draw t1 (fun hd => ?_) hr (fun a' w' hr' => hR e' h' a' w' t4 (by rw [← t2]; exact hr'))
  have := t3 hd
  simpa using this
end Go.Proofs.Ytflbpkgnadjokaa
namespace Go.Proofs.Ytflbpkgnadjokaa
open Go Go.RowKit
/-- A state says no more than another. -/
def Weak (P : Program) (n : Nat) (e : Env) (h : List Chunk) (e' : Env) (h' : List Chunk) : Prop := ∀ X : Cfg, X.P = P → X.n = n → ∀ a w, Real X (mkF e h) a w → Real X (mkF e' h') a w
def pwp (P : Program) (n : Nat) (T : Nat → Option TI) (Q : Nat → Option Nat) : Code → (Exit → Env → List Chunk → Prop) → Env → List Chunk → Prop
  | .skip, K, e, h => K .normal e h
  | .region _ ops draw, K, e, h => sOps P n T Q draw ops ops.toList e h [] (K .normal)
  | .seq a b, K, e, h => pwp P n T Q a (fun x e h => match x with | .normal => pwp P n T Q b K e h | x => K x e h) e h
  | .cond c a b, K, e, h =>
    match evL e c with
    | .d (.v (.bool t)) => (t = true → pwp P n T Q a K e h) ∧ (t = false → pwp P n T Q b K e h)
    | _ => False
  | .block id c, K, e, h => pwp P n T Q c (fun x e h => match x with | .exit i => if i = id then K .normal e h else K (.exit i) e h | x => K x e h) e h
  | .loop c, K, e, h => ∃ I : Nat → Env → List Chunk → Prop, (∃ m e1 h1, I m e1 h1 ∧ Weak P n e h e1 h1) ∧
      ∀ m e h, I m e h → pwp P n T Q c (fun x e' h' => match x with | .normal => ∃ m' e1 h1, m' < m ∧ I m' e1 h1 ∧ Weak P n e' h' e1 h1 | x => K x e' h') e h
  | .exit id, K, e, h => K (.exit id) e h
  | .ret, K, e, h => K .ret e h
  | .label _, K, e, h => K .normal e h
  | _, _, _, _ => False
def RK (X : Cfg) (K : Exit → Env → List Chunk → Prop) (x : Exit) (a : Act) (w : World) : Prop := ∃ e h, K x e h ∧ Real X (mkF e h) a w
theorem pwp_sound {X : Cfg} {T : Nat → Option TI} {Q : Nat → Option Nat} (hTQ : TabOK X.P T Q) (hm : X.P.follows .mixedOrders = true) : ∀ (c : Code) (K : Exit → Env → List Chunk → Prop) (e : Env) (h : List Chunk) (a : Act) (w : World), pwp X.P X.n T Q c K e h → Real X (mkF e h) a w → c.wp X.P (RK X K) a w
  | .skip, K, e, h, a, w, hp, hr => wp_skip ⟨e, h, hp, hr⟩
  | .region id ops draw, K, e, h, a, w, hp, hr => region_sound hTQ hm (K := K .normal) hp hr fun e' h' a' w' hk hr' => ⟨e', h', hk, hr'⟩
  | .seq x y, K, e, h, a, w, hp, hr => by
    refine wp_seq (wp_mono (pwp_sound hTQ hm x _ e h a w hp hr) fun ex a' w' hq => ?_)
    obtain ⟨e', h', hk, hr'⟩ := hq
    cases ex with
    | normal => exact pwp_sound hTQ hm y K e' h' a' w' hk hr'
    | _ => exact ⟨e', h', hk, hr'⟩
  | .cond c x y, K, e, h, a, w, hp, hr => by
    simp only [pwp] at hp
    split at hp
    · rename_i t hc
      have hv : a.eval c = .bool t := by
        obtain ⟨cx, hcx⟩ := hr
        exact ev_v' hcx ((ev_mk e h c).trans hc)
      refine wp_cond hv ?_
      cases t with
      | true => exact pwp_sound hTQ hm x K e h a w (hp.1 rfl) hr
      | false => exact pwp_sound hTQ hm y K e h a w (hp.2 rfl) hr
    · exact hp.elim
  | .block id c, K, e, h, a, w, hp, hr => by
    refine wp_block (wp_mono (pwp_sound hTQ hm c _ e h a w hp hr) fun ex a' w' hq => ?_)
    obtain ⟨e', h', hk, hr'⟩ := hq
    cases ex with
    | exit i =>
      simp only [Exit.inBlock] at *
      by_cases hi : i = id
      · rw [if_pos hi] at hk ⊢
        exact ⟨e', h', hk, hr'⟩
      · rw [if_neg hi] at hk ⊢
        exact ⟨e', h', hk, hr'⟩
    | _ => exact ⟨e', h', hk, hr'⟩
  | .loop c, K, e, h, a, w, hp, hr => by
    obtain ⟨I, ⟨m, e1, h1, hI, hw⟩, hround⟩ := hp
    refine wp_loop_ghost (fun m a w => ∃ e h, I m e h ∧ Real X (mkF e h) a w) m ⟨e1, h1, hI, hw X rfl rfl a w hr⟩ ?_
    rintro m a w ⟨e, h, hI, hr⟩
    refine wp_mono (pwp_sound hTQ hm c _ e h a w (hround m e h hI) hr) fun ex a' w' hq => ?_
    obtain ⟨e', h', hk, hr'⟩ := hq
    cases ex with
    | normal =>
      obtain ⟨m', e2, h2, hlt, hI2, hw2⟩ := hk
      exact ⟨m', hlt, e2, h2, hI2, hw2 X rfl rfl a' w' hr'⟩
    | _ => exact ⟨e', h', hk, hr'⟩
  | .exit id, K, e, h, a, w, hp, hr => wp_exit ⟨e, h, hp, hr⟩
  | .ret, K, e, h, a, w, hp, hr => wp_ret ⟨e, h, hp, hr⟩
  | .label l, K, e, h, a, w, hp, hr => wp_label ⟨e, h, hp, hr⟩
  | .rangeFunc .., _, _, _, _, _, hp, _ => hp.elim
  | .scope _, _, _, _, _, _, hp, _ => hp.elim
  | .goto _, _, _, _, _, _, hp, _ => hp.elim
  | .refuse _, _, _, _, _, _, hp, _ => hp.elim
def argE : List D → Nat → Env
  | [], _ => []
  | d :: l, i => (i, .d d) :: argE l (i + 1)
theorem look_argE : ∀ (ds : List D) (i t : Nat), look (argE ds i) t = if i ≤ t then (match ds[t - i]? with | some d => .d d | none => .any) else .any
  | [], i, t => by simp [argE, look]
  | d :: l, i, t => by
    simp only [argE, look]
    by_cases h : t = i
    · subst h
      simp
    · rw [if_neg h, look_argE l (i + 1) t]
      by_cases h2 : i ≤ t
      · rw [if_pos h2, if_pos (by omega), show t - i = (t - (i + 1)) + 1 by omega, List.getElem?_cons_succ]
      · rw [if_neg h2, if_neg (by omega)]
def retS (T : Nat → Option TI) (e : Env) (h : List Chunk) : ResultVar → Option D
  | .tmp t => view0 (hatL h) (look e t)
  | .cell a t =>
    match look e a, T t with
    | .ptr k off, some ti =>
      match hatL h k with
      | .box _ cells =>
        if off + ti.size ≤ cells.length then
          match viewL (view0 (hatL h)) ((cells.drop off).take ti.size) with
          | some ds => if ti.agg then some (.agg ds) else (match ds with | [d] => some d | _ => none)
          | none => none
        else none
      | _ => none
    | _, _ => none
def retL (T : Nat → Option TI) (e : Env) (h : List Chunk) : List ResultVar → Option (List D)
  | [] => some []
  | r :: l => match retS T e h r, retL T e h l with | some d, some ds => some (d :: ds) | _, _ => none
def retD : List D → D
  | [d] => d
  | ds => .tup ds
/-- A datum says no more than another. -/
def DLe (d d' : D) : Prop := ∀ (M : Nat → Prop) (w : World) (v : Value), RepD M w d v → RepD M w d' v
theorem DLe.refl (d : D) : DLe d d := fun _ _ _ h => h
theorem DLe.of_eq {d d' : D} (h : d = d') : DLe d d' := h ▸ DLe.refl d
theorem DLe.nil (sz : Nat) : DLe (.v (.slice none 0 0)) (.sl sz []) := fun _ _ _ h => by cases h; exact .nil _ _ _ (by omega)
def dles : List D → List D → Prop
  | [], [] => True
  | a :: l, b :: m => DLe a b ∧ dles l m
  | _, _ => False
theorem dles_at : ∀ {l m : List D}, dles l m → l.length = m.length ∧ ∀ (j : Nat) (a b : D), l[j]? = some a → m[j]? = some b → DLe a b
  | [], [], _ => ⟨rfl, fun j a b h => by simp at h⟩
  | [], _ :: _, h => h.elim
  | _ :: _, [], h => h.elim
  | a :: l, b :: m, ⟨h1, h2⟩ => by
    obtain ⟨q1, q2⟩ := dles_at h2
    refine ⟨by simp [q1], fun j x y hx hy => ?_⟩
    cases j with
    | zero => simp at hx hy; subst hx; subst hy; exact h1
    | succ j => exact q2 j x y (by simpa using hx) (by simpa using hy)
theorem dles_rep {M : Nat → Prop} {w : World} {l m : List D} {vs : List Value} (h : dles l m) (hr : RepDs M w l vs) : RepDs M w m vs := by
  obtain ⟨q1, q2⟩ := dles_at h
  refine ⟨q1 ▸ hr.1, fun j d x hj hx => ?_⟩
  have hlt : j < l.length := by rw [q1]; exact (List.getElem?_eq_some_iff.1 hj).1
  have hl : l[j]? = some l[j] := List.getElem?_eq_getElem hlt
  exact q2 j _ d hl hj M w x (hr.2 j _ x hl hx)
theorem DLe.agg {l m : List D} (h : dles l m) (h1 : m.all D.one = true) : DLe (.agg l) (.agg m) := fun M w v hr => by
  cases hr with
  | agg _ vs hl _ hrep =>
    have := dles_rep h ⟨hl, hrep⟩
    exact .agg m vs this.1 (by simpa using h1) this.2
theorem DLe.tup {l m : List D} (h : dles l m) : DLe (.tup l) (.tup m) := fun M w v hr => by
  cases hr with
  | tup _ vs hl hrep =>
    have := dles_rep h ⟨hl, hrep⟩
    exact .tup m vs this.1 this.2
theorem PSpec.args {P : Program} {f : Nat} {ds ds' : List D} {r : D} (h : PSpec P f ds' r) (hd : dles ds ds') : PSpec P f ds r := ⟨h.1, fun M w vs hM hds => h.2 M w vs hM (dles_rep hd hds)⟩
theorem PSpec.res {P : Program} {f : Nat} {ds : List D} {r r' : D} (h : PSpec P f ds r) (hr : DLe r r') : PSpec P f ds r' := ⟨h.1, fun M w vs hM hds => (h.2 M w vs hM hds).mono fun e w' ⟨v, he, hv, hx⟩ => ⟨v, he, hr M w' v hv, hx⟩⟩
/-- What a function is left with. -/
def RetOK (T : Nat → Option TI) (rs : List ResultVar) (r : D) (x : Exit) (e : Env) (h : List Chunk) : Prop := (x = .normal ∨ x = .ret) ∧ ∃ ds, retL T e h rs = some ds ∧ DLe (retD ds) r
theorem hatL_lt {h : List Chunk} {k : Nat} (hk : hatL h k ≠ .none) : k < h.length := by
  induction h generalizing k with
  | nil => simp [hatL] at hk
  | cons c l ih =>
    cases k with
    | zero => simp
    | succ k => simpa using ih (by simpa [hatL] using hk)
theorem view0_lt {h : List Chunk} {p : PV} {d : D} (hv : view0 (hatL h) p = some d) : ∀ k ∈ tch0 p, k ∈ List.range h.length := by
  intro k hk
  cases p with
  | own k' g =>
    simp only [tch0, List.mem_singleton] at hk
    subst hk
    refine List.mem_range.2 (hatL_lt fun e => ?_)
    simp [view0, e] at hv
  | _ => simp [tch0] at hk
def resSem (tmps : Array Value) : ResultVar → Sem Value
  | .tmp t => pure (tmps.getD t undef)
  | .cell a t => do loadVar t (← asAddr (tmps.getD a undef))
theorem results_run {P : Program} {tmps : Array Value} {w : World} : ∀ (rs : List ResultVar) (vs : List Value), rs.length = vs.length →
    (∀ (j : Nat) (r : ResultVar) (v : Value), rs[j]? = some r → vs[j]? = some v → (resSem tmps r).run P w = .ok v w) → (rs.mapM (resSem tmps)).run P w = .ok vs w
  | [], [], _, _ => by simp
  | [], _ :: _, h, _ => by simp at h
  | _ :: _, [], h, _ => by simp at h
  | r :: rs, v :: vs, h, hr => by
    have h0 := hr 0 r v rfl rfl
    have ih := results_run (P := P) (tmps := tmps) (w := w) rs vs (by simpa using h) fun j r v h1 h2 => hr (j + 1) r v (by simpa using h1) (by simpa using h2)
    rw [List.mapM_cons, Sem.run_bind, h0]
    simp only [Result.andThen_ok, Sem.run_bind, ih]
    rfl
/-- What a state makes of code. -/
def swp (P : Program) (n : Nat) (c : Code) (K : Exit → Env → List Chunk → Prop) (e : Env) (h : List Chunk) : Prop := ∀ X : Cfg, X.P = P → X.n = n → ∀ a w, Real X (mkF e h) a w → c.wp P (RK X K) a w
theorem pspec_intro {P : Program} {f : Nat} {fn : Func} {c : Code} {T : Nat → Option TI} {Q : Nat → Option Nat} (hTQ : TabOK P T Q) (hf : P.funcs[f]? = some fn) (hb : fn.body = some c) (hn : FnOK P f) {ds : List D} {r : D} (hl : ds.length ≤ fn.ntmps)
    (hp : swp P fn.ntmps c (RetOK T fn.results.toList r) (argE ds 0) []) : PSpec P f ds r := by
  refine ⟨hn, fun M w vs hM hds => ?_⟩
  have hvl : vs.length = ds.length := hds.1.symm
  let X : Cfg := { P := P, n := fn.ntmps, w0 := w, M0 := M }
  have hreal : Real X (mkF (argE ds 0) []) { tmps := vs.toArray ++ Array.replicate (fn.ntmps - vs.toArray.size) undef, defers := [] } w := by
    refine ⟨{ M := M, bl := fun _ => none, ov := fun _ _ => none }, ?_⟩
    refine ⟨by simp [X]; omega, rfl, Below.refl _ _, hM, fun b => ⟨.inl, fun h => ?_⟩, fun k b h => ?_, fun k k' b h _ => ?_, fun t => ?_, fun k => ?_⟩
    · rcases h with h | ⟨k, h⟩
      · exact h
      · simp [mkF, hatL, Cx.block] at h
    · simp [mkF, hatL, Cx.block] at h
    · simp [mkF, hatL, Cx.block] at h
    · simp only [mkF]
      rw [look_argE]
      rw [if_pos (Nat.zero_le _), Nat.sub_zero]
      cases hd : ds[t]? with
      | none => exact .any _
      | some d =>
        have hlt : t < vs.length := by rw [hvl]; exact (List.getElem?_eq_some_iff.1 hd).1
        have hv : vs[t]? = some vs[t] := List.getElem?_eq_getElem hlt
        have := hds.2 t d _ hd hv
        simp only [Array.getD_eq_getD_getElem?, Array.getElem?_append, List.size_toArray, hlt, if_true, List.getElem?_toArray, hv, Option.getD_some]
        exact .d _ _ this
    · simp only [mkF, hatL]
      exact .none rfl fun _ => rfl
  refine calls_of_wp hf hb (wp_mono (hp X rfl rfl _ _ hreal) fun ex a w' hq => ?_)
  obtain ⟨e, h, ⟨hx, ds', hret, hle⟩, hr⟩ := hq
  obtain ⟨cx, hc⟩ := hr
  have hfin : ∀ (d : D) (v : Value), RepD (lessM cx (hatL h) (List.range h.length)) w' d v → RepD M w' d v := by
    intro d v hv
    refine hv.keep ⟨Nat.le_refl _, fun _ _ _ => rfl, fun b _ hb => ⟨(hc.mu b).2 (.inl hb), fun k _ e => ?_⟩⟩
    have := (hc.new k b e).1
    have := hc.fresh b hb
    omega
  have hone : ∀ (rv : ResultVar) (d : D), retS T e h rv = some d → ∃ v, (resSem a.tmps rv).run P w' = .ok v w' ∧ RepD M w' d v := by
    intro rv d hrv
    cases rv with
    | tmp t => exact ⟨_, rfl, hfin d _ (view0_ok hc hrv (view0_lt hrv) (hc.env t))⟩
    | cell b t =>
      simp only [retS] at hrv
      split at hrv
      · rename_i k off ti hb' ht
        split at hrv
        · rename_i TT cells hk
          split at hrv
          · rename_i hsz
            split at hrv
            · rename_i es hes
              have hck := hc.chunk k
              have hk' : (mkF e h).heap k = .box TT cells := hk
              rw [hk'] at hck
              have henv := hc.env b
              have hb2 : (mkF e h).env b = .ptr k off := hb'
              rw [hb2] at henv
              generalize hu : a.tmps.getD b undef = u at henv
              cases henv with
              | ptr _ _ bb hbb =>
                cases hck with
                | box _ _ b'' us hb'' hh hrr h1 =>
                  rw [hbb] at hb''
                  cases hb''
                  obtain ⟨q1, q2⟩ := viewL_at hes
                  have hul : us.length = cells.length := hrr.1.symm
                  have hel : es.length = ti.size := by rw [← q1, List.length_take, List.length_drop]; omega
                  have hcell : ∀ (j : Nat) (v : Value), ((us.drop off).take ti.size)[j]? = some v → w'.cell? ⟨bb, off + j, none⟩ = some v := fun j v hj => by
                    rw [List.getElem?_take] at hj
                    split at hj
                    · rw [List.getElem?_drop] at hj
                      simp [World.cell?, hh, hj]
                    · cases hj
                  have hrep : ∀ (j : Nat) (d : D) (v : Value), es[j]? = some d → ((us.drop off).take ti.size)[j]? = some v → RepD M w' d v ∧ d.one = true := by
                    intro j d v hj hv
                    obtain ⟨p, hp, hpd⟩ := q2 j d hj
                    have hlt : j < ti.size := by rw [← hel]; exact (List.getElem?_eq_some_iff.1 hj).1
                    rw [List.getElem?_take_of_lt hlt, List.getElem?_drop] at hp hv
                    exact ⟨hfin d v (view0_ok hc hpd (view0_lt hpd) (hrr.2 _ p v hp hv)), view0_one (s := mkF e h) hpd (h1 p (List.mem_of_getElem? hp))⟩
                  have hlen : ((us.drop off).take ti.size).length = ti.size := by rw [List.length_take, List.length_drop]; omega
                  have hload : ∀ (h0 : ti.agg = false → ∃ v, (us.drop off).take ti.size = [v]), (loadVar t ⟨bb, off, none⟩).run P w' = .ok (if ti.agg then .agg ((us.drop off).take ti.size).toArray else ((us.drop off).take ti.size).headD undef) w' := by
                    intro h0
                    have := run_loadAt (hTQ.t t ti ht) w' bb off ((us.drop off).take ti.size) hlen hcell h0
                    simpa [Instr.loadAt, Instr.sureAddr] using this
                  cases hag : ti.agg with
                  | true =>
                    rw [hag, if_pos rfl] at hrv
                    cases hrv
                    have hl := hload (fun h => by rw [hag] at h; cases h)
                    rw [hag, if_pos rfl] at hl
                    refine ⟨.agg ((us.drop off).take ti.size).toArray, ?_, .agg es _ (by rw [hel, hlen]) (fun d hd => ?_) (fun j d v hj hv => (hrep j d v hj hv).1)⟩
                    · simp [resSem, hu, asAddr, hl]
                    · obtain ⟨j, hj, e2⟩ := List.getElem_of_mem hd
                      exact (hrep j d _ (by rw [← e2]; exact List.getElem?_eq_getElem hj) (List.getElem?_eq_getElem (by omega))).2
                  | false =>
                    rw [hag, if_neg (by simp)] at hrv
                    split at hrv
                    · rename_i d'
                      cases hrv
                      have h1' : ti.size = 1 := by rw [← hel]; rfl
                      obtain ⟨v, hv⟩ : ∃ v, (us.drop off).take ti.size = [v] := by
                        rw [h1'] at hlen
                        exact List.length_eq_one_iff.1 (by rw [h1']; exact hlen)
                      have hl := hload (fun _ => ⟨v, hv⟩)
                      rw [hag, if_neg (by simp), hv] at hl
                      refine ⟨v, ?_, (hrep 0 d v rfl (by rw [hv]; rfl)).1⟩
                      simp [resSem, hu, asAddr, hl]
                    · cases hrv
            · cases hrv
          · cases hrv
        · cases hrv
      · cases hrv
  have hlist : ∀ (rs : List ResultVar) (ds : List D), retL T e h rs = some ds → ∃ vs : List Value, rs.length = vs.length ∧ RepDs M w' ds vs ∧
      (∀ (j : Nat) (r : ResultVar) (v : Value), rs[j]? = some r → vs[j]? = some v → (resSem a.tmps r).run P w' = .ok v w') := by
    intro rs
    induction rs with
    | nil =>
      intro ds hds
      simp [retL] at hds
      subst hds
      exact ⟨[], rfl, ⟨rfl, fun j d x h => by simp at h⟩, fun j r v h => by simp at h⟩
    | cons rv rs ih =>
      intro ds hds
      simp only [retL] at hds
      split at hds
      · rename_i d ds' h1 h2
        cases hds
        obtain ⟨v, hv1, hv2⟩ := hone rv d h1
        obtain ⟨vs, g1, g2, g3⟩ := ih ds' h2
        refine ⟨v :: vs, by simp [g1], ⟨by simp [g2.1], fun j d x hj hx => ?_⟩, fun j r x hj hx => ?_⟩
        · cases j with
          | zero => simp at hj hx; subst hj; subst hx; exact hv2
          | succ j => exact g2.2 j d x (by simpa using hj) (by simpa using hx)
        · cases j with
          | zero => simp at hj hx; subst hj; subst hx; exact hv1
          | succ j => exact g3 j r x (by simpa using hj) (by simpa using hx)
      · cases hds
  obtain ⟨vs', g1, g2, g3⟩ := hlist _ _ hret
  have hrun := results_run (P := P) (tmps := a.tmps) (w := w') fn.results.toList vs' g1 g3
  have hres : (results fn a.tmps).run P w' = .ok (if h : vs'.length = 1 then vs'[0] else .tuple vs'.toArray) w' := by
    have e1 : results fn a.tmps = (do let vs ← fn.results.mapM (resSem a.tmps); pure (if h : vs.size = 1 then vs[0] else .tuple vs)) := by
      unfold results
      congr 1
    rw [e1, Sem.run_bind, Array.mapM_eq_mapM_toList]
    simp [hrun]
  have hrd : RepD M w' (retD ds') (if h : vs'.length = 1 then vs'[0] else .tuple vs'.toArray) := by
    by_cases h1 : vs'.length = 1
    · rw [dif_pos h1]
      obtain ⟨d, rfl⟩ := List.length_eq_one_iff.1 (g2.1.trans h1)
      exact g2.2 0 d _ rfl (List.getElem?_eq_getElem (by omega))
    · rw [dif_neg h1]
      have : retD ds' = .tup ds' := by
        unfold retD
        split
        · exact absurd g2.1.symm h1
        · rfl
      rw [this]
      exact .tup ds' vs' g2.1 g2.2
  rcases hx with rfl | rfl
  · exact ⟨hc.defers, _, hres, _, rfl, hle _ _ _ hrd, hc.ext⟩
  · exact ⟨hc.defers, _, hres, _, rfl, hle _ _ _ hrd, hc.ext⟩
end Go.Proofs.Ytflbpkgnadjokaa
namespace Go.Proofs.Ytflbpkgnadjokaa
open Go Go.RowKit
def qPost (W : World) (R : Value → Prop) (e : Ending) (w' : World) : Prop := (∃ u, e = .returned u ∧ R u) ∧ Ext W w'
def qUp (P : Program) (W w : World) (R : Value → Prop) : Result Next → Prop
  | .ok (.value u) w' => w' = w ∧ R u
  | .ok .skip w' => w' = w ∧ R undef
  | .ok (.enter f args) w' => w' = w ∧ Calls P f args w (qPost W R)
  | _ => False
attribute [go_sem] qUp
section
variable {P : Program} {ops : Array Oper} {W : World} {Q : Act → Prop} {o : Oper} {rest : List Oper} {a : Act}
theorem qUp_quiet {w : World} {v : Value} {r : Result Next} (h : ∀ R : Value → Prop, R v → qUp P W w R r) : Oper.quietUpon P (Ext W) w v r := by
  have h1 := h (· = v) rfl
  unfold qUp at h1
  unfold Oper.quietUpon
  split at h1
  · exact h1
  · exact ⟨h1.1, h1.2.symm⟩
  · refine ⟨h1.1, h1.2.mono ?_⟩
    rintro e w' ⟨⟨u, rfl, rfl⟩, hw⟩
    exact ⟨rfl, hw⟩
  · exact h1.elim
theorem quiet_take {v : Value} (hw : Region.wanted o (yielded ops a.tmps) = true) (h : ∀ w, Ext W w → ∀ R : Value → Prop, R v → qUp P W w R ((execOp a.eval o).run P w))
    (hn : wpQuiet P ops (Ext W) Q rest (a.put o.dst v)) : wpQuiet P ops (Ext W) Q (o :: rest) a := by
  unfold wpQuiet
  rw [if_pos hw]
  exact ⟨v, fun w hC => qUp_quiet (h w hC), hn⟩
theorem quiet_skip (hw : Region.wanted o (yielded ops a.tmps) = false) (hn : wpQuiet P ops (Ext W) Q rest (a.put o.dst undef)) : wpQuiet P ops (Ext W) Q (o :: rest) a := by
  unfold wpQuiet
  rw [if_neg (by rw [hw]; simp)]
  exact hn
section
variable {j d : Nat} {v : Value} {W : World} {Q : Act → Prop}
theorem yields_bool {b : Bool} (hd : (ops[j]?).bind (·.dst) = some d) (hv : a.tmps.toList[d]? = some v) (hb : v = .bool b) : yielded ops a.tmps j = some b := by
  subst hb
  rw [Array.getElem?_toList] at hv
  simp [yielded, hd, hv]
theorem yields_undef (hd : (ops[j]?).bind (·.dst) = some d) (hv : a.tmps.toList[d]? = some v) (hb : v = undef) : yielded ops a.tmps j = none := by
  subst hb
  rw [Array.getElem?_toList] at hv
  simp [yielded, hd, hv, undef]
theorem skip_t (hg : o.guard = some (j, true)) (hd : (ops[j]?).bind (·.dst) = some d) (hv : a.tmps.toList[d]? = some v) (hb : v = .bool false) (hn : wpQuiet P ops (Ext W) Q rest (a.put o.dst undef)) : wpQuiet P ops (Ext W) Q (o :: rest) a :=
  quiet_skip (by simp [Region.wanted, hg, yields_bool hd hv hb]) hn
theorem skip_f (hg : o.guard = some (j, false)) (hd : (ops[j]?).bind (·.dst) = some d) (hv : a.tmps.toList[d]? = some v) (hb : v = .bool true) (hn : wpQuiet P ops (Ext W) Q rest (a.put o.dst undef)) : wpQuiet P ops (Ext W) Q (o :: rest) a :=
  quiet_skip (by simp [Region.wanted, hg, yields_bool hd hv hb]) hn
theorem skip_u {b : Bool} (hg : o.guard = some (j, b)) (hd : (ops[j]?).bind (·.dst) = some d) (hv : a.tmps.toList[d]? = some v) (hb : v = undef) (hn : wpQuiet P ops (Ext W) Q rest (a.put o.dst undef)) : wpQuiet P ops (Ext W) Q (o :: rest) a :=
  quiet_skip (by simp [Region.wanted, hg, yields_undef hd hv hb]) hn
theorem want_0 (hg : o.guard = none) : Region.wanted o (yielded ops a.tmps) = true := by simp [Region.wanted, hg]
theorem want_b {b : Bool} (hg : o.guard = some (j, b)) (hd : (ops[j]?).bind (·.dst) = some d) (hv : a.tmps.toList[d]? = some v) (hb : v = .bool b) : Region.wanted o (yielded ops a.tmps) = true := by
  simp [Region.wanted, hg, yields_bool hd hv hb]
end
theorem callq {f : FuncId} {args : Array Value} {w : World} {R : Value → Prop} {v : Value} (hw : Ext W w) (h : Calls P f args w fun e w' => e = .returned v ∧ Ext w w') (hR : R v) : Calls P f args w (qPost W R) :=
  h.mono fun _ _ ⟨he, hx⟩ => ⟨⟨v, he, hR⟩, hw.trans (hx.mono hw.size)⟩
theorem callq_same {f : FuncId} {args : Array Value} {w : World} {R : Value → Prop} {v : Value} (hw : Ext W w) (h : Calls P f args w fun e w' => e = .returned v ∧ w = w') (hR : R v) : Calls P f args w (qPost W R) :=
  h.mono fun _ _ ⟨he, hx⟩ => ⟨⟨v, he, hR⟩, hx ▸ hw⟩
theorem region_ext {id : Nat} {Q : Exit → Act → World → Prop} {w : World} {l : List Oper} (hm : P.follows .mixedOrders = true) (hB : Region.lexB .any l.toArray = true)
    (h : wpQuiet P l.toArray (Ext w) (fun a' => ∀ w', Ext w w' → Q .normal a' w') l a) : (Code.region id l.toArray true).wp P Q a w :=
  wp_region_quiet (C := Ext w) hm hB (Below.refl _ _).drew (by simpa using h)
end
section
variable {P : Program} {ops : Array Oper} {w : World} {Q : Exit → Act → World → Prop} {a : Act} {n : Nat} {listed : Array Bool}
/-- The region, order by order: its beginning. -/
theorem region_any {id : Nat} {l : List Oper} (hm : P.follows .mixedOrders = true)
    (h : wpAny P .any l.toArray Q l.length (Array.replicate l.length false) a w.drew) : (Code.region id l.toArray true).wp P Q a w :=
  wp_region_any hm (by simpa using h)
/-- One operation alone can come next. -/
theorem any_one (k : Nat) {o : Oper} {r : List Nat} (hr : Region.ready .any ops listed = r) (hk : r = [k]) (ho : ops[k]? = some o)
    (h : ∀ K' : Act → World → Prop, (∀ a w, wpAny P .any ops Q n (listed.setIfInBounds k true) a w → K' a w) → if Region.wanted o (yielded ops a.tmps) then o.wp P a w K' Q else K' (a.put o.dst undef) w) :
    wpAny P .any ops Q (n + 1) listed a w := by
  have h := h _ (fun _ _ h => h)
  subst hk
  refine ⟨fun h0 => by rw [hr] at h0; simp at h0, fun i hi => ?_⟩
  rw [hr] at hi
  obtain rfl : i = k := by simpa using hi
  unfold wpOp
  simp only [ho]
  split
  · rename_i hw; rw [if_pos hw] at h; exact .inl h
  · rename_i hw; rw [if_neg hw] at h; exact h
/-- One of two operations can come next. -/
theorem any_two (j k : Nat) {p o : Oper} {r : List Nat} (hr : Region.ready .any ops listed = r) (hk : r = [j, k]) (hp : ops[j]? = some p) (ho : ops[k]? = some o)
    (h1 : ∀ K' : Act → World → Prop, (∀ a w, wpAny P .any ops Q n (listed.setIfInBounds j true) a w → K' a w) → if Region.wanted p (yielded ops a.tmps) then p.wp P a w K' Q else K' (a.put p.dst undef) w)
    (h2 : ∀ K' : Act → World → Prop, (∀ a w, wpAny P .any ops Q n (listed.setIfInBounds k true) a w → K' a w) → if Region.wanted o (yielded ops a.tmps) then o.wp P a w K' Q else K' (a.put o.dst undef) w) :
    wpAny P .any ops Q (n + 1) listed a w := by
  have h1 := h1 _ (fun _ _ h => h)
  have h2 := h2 _ (fun _ _ h => h)
  subst hk
  refine ⟨fun h0 => by rw [hr] at h0; simp at h0, fun i hi => ?_⟩
  rw [hr] at hi
  simp at hi
  rcases hi with rfl | rfl
  · unfold wpOp
    simp only [hp]
    split
    · rename_i hw; rw [if_pos hw] at h1; exact .inl h1
    · rename_i hw; rw [if_neg hw] at h1; exact h1
  · unfold wpOp
    simp only [ho]
    split
    · rename_i hw; rw [if_pos hw] at h2; exact .inl h2
    · rename_i hw; rw [if_neg hw] at h2; exact h2
/-- From operation k on all are quiet: one walk in the order of the text. -/
theorem any_quiet (k : Nat) {l : List Oper} (hn : (l.drop k).length = n) (hs : Region.noSelect l.toArray = true) (hB : Region.lexFrom .any l.toArray n k listed = true)
    (h : wpQuiet P l.toArray (Ext w) (fun a' => ∀ w', Ext w w' → Q .normal a' w') (l.drop k) a) : wpAny P .any l.toArray Q n listed a w := by
  subst hn
  refine wpAny_of_quiet (C := Ext w) (Q := fun a' => ∀ w', Ext w w' → Q .normal a' w') (fun _ w' hw' h => h w' hw') _ _ _ _ (Below.refl _ _) ?_
  exact wpAnyQ_lex hs _ k listed a (fun j => by simp) hB h
/-- All is done. -/
theorem any_done (hr : Region.ready .any ops listed = []) (h : Q .normal a w) : wpAny P .any ops Q 0 listed a w := ⟨hr, h⟩
end
theorem ret_int {k : IntKind} {a b : Int} (h : a = b) : Ending.returned (.int k a) = .returned (.int k b) := by rw [h]
theorem ret_bool {a b : Bool} (h : a = b) : Ending.returned (.bool a) = .returned (.bool b) := by rw [h]
end Go.Proofs.Ytflbpkgnadjokaa
namespace Go.Proofs.Ytflbpkgnadjokaa
open Go Go.RowKit Go.Proofs
theorem ofInt_i64 (a : Nat) (ha : a < 9223372036854775808) : (BitVec.ofInt 64 (a : Int)).toNat = a := by
  rw [BitVec.ofInt_natCast, BitVec.toNat_ofNat]; exact Nat.mod_eq_of_lt (by omega)
theorem i64_and_nat (a b : Nat) (ha : a < 9223372036854775808) (hb : b < 9223372036854775808) : bits .and .i64 (a : Int) (b : Int) = ((a &&& b : Nat) : Int) := by
  have hx : a &&& b < 2 ^ 63 := Nat.and_lt_two_pow _ (by omega)
  show IntKind.i64.wrap ((BitVec.ofInt 64 (a : Int) &&& BitVec.ofInt 64 (b : Int)).toNat : Int) = _
  rw [BitVec.toNat_and, ofInt_i64 a ha, ofInt_i64 b hb, IntKind.wrap_i64]
  omega
end Go.Proofs.Ytflbpkgnadjokaa
namespace Go.Proofs.Ytflbpkgnadjokaa
open Go Go.RowKit
def tabT : Nat → Option TI
  | 3 => some { agg := false, size := 1, bytes := 8, zero := [.int .i64 0], fields := [], elem := none, int := some .i64, kind := 0 }
  | 4 => some { agg := false, size := 1, bytes := 1, zero := [.bool false], fields := [], elem := none, int := none, kind := 1 }
  | 27 => some { agg := false, size := 1, bytes := 8, zero := [.int .i64 0], fields := [], elem := none, int := some .i64, kind := 0 }
  | 23 => some { agg := true, size := 2, bytes := 16, zero := [.int .i64 0, .int .i64 0], fields := [(0, 1), (1, 1)], elem := none, int := none, kind := 0 }
  | 26 => some { agg := true, size := 3, bytes := 40, zero := [.int .i64 0, .int .i64 0, .slice none 0 0], fields := [(0, 2), (2, 1)], elem := none, int := none, kind := 0 }
  | 24 => some { agg := false, size := 1, bytes := 24, zero := [.slice none 0 0], fields := [], elem := some 23, int := none, kind := 0 }
  | 9 => some { agg := false, size := 1, bytes := 16, zero := [.string ByteArray.empty], fields := [], elem := none, int := none, kind := 2 }
  | _ => none
theorem tabT_ok : ∀ t ti, tabT t = some ti → tcheck Try.prog t = some ti := by
  intro t ti h
  unfold tabT at h
  split at h <;> first | (cases h; kernel_rfl) | cases h
theorem eq_Prefix : EqOK Try.prog 23 2 := by
  intro w xs ys x y op hx hy hop
  match xs, ys, hx, hy with
  | [a0, a1], [b0, b1], _, _ =>
    clear hx hy
    rcases hop with rfl | rfl <;> (simp only [List.map_cons, List.map_nil]; go_simp) <;> by_cases h0 : a0 = b0 <;> by_cases h1 : a1 = b1 <;> simp [bne, h0, h1]
def tabQ : Nat → Option Nat
  | 23 => some 2
  | _ => none
theorem tab_ok : TabOK Try.prog tabT tabQ := by
  refine ⟨tabT_ok, fun t n h => ?_⟩
  unfold tabQ at h
  split at h
  · cases h; exact eq_Prefix
  · cases h
end Go.Proofs.Ytflbpkgnadjokaa
namespace Go.Proofs.Ytflbpkgnadjokaa
open Go Go.RowKit
theorem fnok_of {P : Program} {f : Nat} {fn : Func} {c : Code} (hf : P.funcs[f]? = some fn) (hname : (fn.name == "runtime.NumGoroutine") = false) (hb : fn.body = some c) : FnOK P f := by
  intro args w
  simp [callFunc, hf, hb]
  simpa using hname
theorem ob_tt : (some true == some true) = true := rfl
theorem ob_ff : (some false == some false) = true := rfl
theorem ob_tf : (some true == some false) = false := rfl
theorem ob_ft : (some false == some true) = false := rfl
theorem ob_nt : ((none : Option Bool) == some true) = false := rfl
theorem ob_nf : ((none : Option Bool) == some false) = false := rfl
section
variable {P : Program} {n : Nat} {T : Nat → Option TI} {Q : Nat → Option Nat} {K : Exit → Env → List Chunk → Prop} {e : Env} {h : List Chunk}
/-- What follows a normal end; all else is handed on. -/
def seqK (C : Env → List Chunk → Prop) (K : Exit → Env → List Chunk → Prop) : Exit → Env → List Chunk → Prop
  | .normal, e, h => C e h
  | x, e, h => K x e h
theorem seqK_normal (C : Env → List Chunk → Prop) : seqK C K .normal e h = C e h := rfl
theorem seqK_exit (C : Env → List Chunk → Prop) (i : Nat) : seqK C K (.exit i) e h = K (.exit i) e h := rfl
theorem seqK_ret (C : Env → List Chunk → Prop) : seqK C K .ret e h = K .ret e h := rfl
theorem seqK_nor (C : Env → List Chunk → Prop) : seqK C K .normal = C := rfl
theorem swp_weak {c : Code} {e' : Env} {h' : List Chunk} (hw : Weak P n e h e' h') (hp : swp P n c K e' h') : swp P n c K e h := fun X hX hn a w hr => hp X hX hn a w (hw X hX hn a w hr)
theorem pwp_seq {a b : Code} (hp : ∀ C : Env → List Chunk → Prop, (∀ e h, swp P n b K e h → C e h) → swp P n a (seqK C K) e h) : swp P n (.seq a b) K e h := by
  intro X hX hn ac w hr
  have := hp (fun e h => swp P n b K e h) (fun _ _ h => h) X hX hn ac w hr
  refine wp_seq (wp_mono this fun ex a' w' hq => ?_)
  obtain ⟨e', h', hk, hr'⟩ := hq
  cases ex with
  | normal => exact hk X hX hn a' w' hr'
  | _ => exact ⟨e', h', hk, hr'⟩
/-- A block's end. -/
def blkK (id : Nat) (C : Env → List Chunk → Prop) (K : Exit → Env → List Chunk → Prop) : Exit → Env → List Chunk → Prop
  | .normal, e, h => C e h
  | .exit i, e, h => if i = id then C e h else K (.exit i) e h
  | x, e, h => K x e h
theorem blkK_normal (id : Nat) (C : Env → List Chunk → Prop) : blkK id C K .normal e h = C e h := rfl
theorem blkK_nor (id : Nat) (C : Env → List Chunk → Prop) : blkK id C K .normal = C := rfl
theorem blkK_ret (id : Nat) (C : Env → List Chunk → Prop) : blkK id C K .ret e h = K .ret e h := rfl
theorem blkK_exit (id i : Nat) (C : Env → List Chunk → Prop) : blkK id C K (.exit i) e h = if i = id then C e h else K (.exit i) e h := rfl
theorem pwp_block {id : Nat} {c : Code} (hp : ∀ C : Env → List Chunk → Prop, (∀ e h, K .normal e h → C e h) → swp P n c (blkK id C K) e h) : swp P n (.block id c) K e h := by
  intro X hX hn ac w hr
  have := hp (fun e h => K .normal e h) (fun _ _ h => h) X hX hn ac w hr
  refine wp_block (wp_mono this fun ex a' w' hq => ?_)
  obtain ⟨e', h', hk, hr'⟩ := hq
  cases ex with
  | exit i =>
    simp only [Exit.inBlock, blkK] at *
    by_cases hi : i = id
    · rw [if_pos hi] at hk ⊢
      exact ⟨e', h', hk, hr'⟩
    · rw [if_neg hi] at hk ⊢
      exact ⟨e', h', hk, hr'⟩
  | _ => exact ⟨e', h', hk, hr'⟩
theorem swp_region (hTQ : TabOK P T Q) (hm : P.follows .mixedOrders = true) {id : Nat} {ops : List Oper} {draw : Bool} (hp : sOps P n T Q draw ⟨ops⟩ ops e h [] (K .normal)) : swp P n (.region id ⟨ops⟩ draw) K e h := by
  intro X hX hn a w hr
  subst hX
  subst hn
  exact region_sound hTQ hm (K := K .normal) hp hr fun e' h' a' w' hk hr' => ⟨e', h', hk, hr'⟩
theorem swp_region_id {id : Nat} {ops : Array Oper} {draw : Bool} (hp : swp P n (.region id ops draw) K e h) : swp P n (.region id ops draw) K e h := hp
/-- One operation's result, with all that follows behind a name. -/
def runO (P : Program) (r : SR) (dst : Option Nat) (e : Env) (h : List Chunk) (sm : List (List Nat × List Nat)) (R : Env → List Chunk → List (List Nat × List Nat) → Prop) : Prop :=
  match r with
  | .no => False
  | .res p eff touch side => side ∧ (eff.all fun kc => decide (kc.1 ≤ h.length)) = true ∧ R (putE e dst p) (effC eff h) ((eff.map (·.1), touch) :: sm)
  | .call g ds touch => ∃ r, PSpec P g ds r ∧ (touch = [] ∨ r.flat = true) ∧ R (putE e dst (.d r)) h (([], touch) :: sm)
def grdO (P : Program) (g : Option Bool) (r : SR) (dst : Option Nat) (e : Env) (h : List Chunk) (sm : List (List Nat × List Nat)) (R : Env → List Chunk → List (List Nat × List Nat) → Prop) : Prop :=
  match g with
  | some true => runO P r dst e h sm R
  | some false => R (putE e dst (.d (.v undef))) h (([], []) :: sm)
  | none => False
theorem sOps_cons {draw : Bool} {ops : Array Oper} {o : Oper} {l : List Oper} {sm : List (List Nat × List Nat)} {K : Env → List Chunk → Prop} (hd : dstB n o = true)
    (hp : ∀ R : Env → List Chunk → List (List Nat × List Nat) → Prop, (∀ e h sm, sOps P n T Q draw ops l e h sm K → R e h sm) → grdO P (guardL ops e o) (opS T Q e h o) o.dst e h sm R) : sOps P n T Q draw ops (o :: l) e h sm K := by
  have hp := hp (sOps P n T Q draw ops l · · · K) fun _ _ _ h => h
  unfold sOps
  unfold grdO at hp
  split at hp
  · rename_i g hg
    rw [hg]
    refine ⟨hd, fun _ => ?_, fun h => by cases h⟩
    unfold runO at hp
    split at hp
    · exact hp.elim
    · rename_i hop; first | (rw [hop]; exact hp) | exact hp
    · rename_i hop; first | (rw [hop]; exact hp) | exact hp
  · rename_i g hg
    rw [hg]
    exact ⟨hd, (fun h => (by cases h)), fun _ => hp⟩
  · exact hp.elim
theorem sOps_nil {ops : Array Oper} {sm : List (List Nat × List Nat)} {K : Env → List Chunk → Prop} (hk : K e h) : sOps P n T Q false ops [] e h sm K := ⟨(fun h => (by cases h)), hk⟩
theorem sOps_nild {ops : Array Oper} {sm : List (List Nat × List Nat)} {K : Env → List Chunk → Prop} (hi : (indepB ops sm.reverse && edgesB ops) = true) (hk : K e h) : sOps P n T Q true ops [] e h sm K := ⟨fun _ => hi, hk⟩
theorem pwp_cond {c : Operand} {a b : Code} {t : Bool} (hc : evL e c = .d (.v (.bool t))) (h1 : t = true → swp P n a K e h) (h2 : t = false → swp P n b K e h) : swp P n (.cond c a b) K e h := by
  intro X hX hn ac w hr
  have hv : ac.eval c = .bool t := by
    obtain ⟨cx, hcx⟩ := hr
    exact ev_v' hcx ((ev_mk e h c).trans hc)
  refine wp_cond hv ?_
  cases t with
  | true => exact h1 rfl X hX hn ac w hr
  | false => exact h2 rfl X hX hn ac w hr
theorem pwp_cond_t {c : Operand} {a b : Code} (hc : evL e c = .d (.v (.bool true))) (h1 : swp P n a K e h) : swp P n (.cond c a b) K e h := pwp_cond hc (fun _ => h1) (fun h => by cases h)
theorem pwp_cond_f {c : Operand} {a b : Code} (hc : evL e c = .d (.v (.bool false))) (h1 : swp P n b K e h) : swp P n (.cond c a b) K e h := pwp_cond hc (fun h => by cases h) (fun _ => h1)
theorem pwp_skip (h1 : K .normal e h) : swp P n .skip K e h := fun X _ _ a w hr => wp_skip ⟨e, h, h1, hr⟩
theorem pwp_exit {id : Nat} (h1 : K (.exit id) e h) : swp P n (.exit id) K e h := fun X _ _ a w hr => wp_exit ⟨e, h, h1, hr⟩
theorem pwp_ret (h1 : K .ret e h) : swp P n .ret K e h := fun X _ _ a w hr => wp_ret ⟨e, h, h1, hr⟩
theorem pwp_label {l : Nat} (h1 : K .normal e h) : swp P n (.label l) K e h := fun X _ _ a w hr => wp_label ⟨e, h, h1, hr⟩
theorem seqK_x (C : Env → List Chunk → Prop) (i : Nat) (h1 : K (.exit i) e h) : seqK C K (.exit i) e h := h1
theorem seqK_r (C : Env → List Chunk → Prop) (h1 : K .ret e h) : seqK C K .ret e h := h1
theorem seqK_n (C : Env → List Chunk → Prop) (h1 : C e h) : seqK C K .normal e h := h1
theorem blkK_n (id : Nat) (C : Env → List Chunk → Prop) (h1 : C e h) : blkK id C K .normal e h := h1
theorem blkK_r (id : Nat) (C : Env → List Chunk → Prop) (h1 : K .ret e h) : blkK id C K .ret e h := h1
theorem blkK_x (id i : Nat) (C : Env → List Chunk → Prop) (hi : ¬ i = id) (h1 : K (.exit i) e h) : blkK id C K (.exit i) e h := by rw [blkK_exit, if_neg hi]; exact h1
theorem blkK_h (id : Nat) (C : Env → List Chunk → Prop) (h1 : C e h) : blkK id C K (.exit id) e h := by rw [blkK_exit, if_pos rfl]; exact h1
/-- A loop, by what holds at each round's head; the number goes down. -/
theorem pwp_loop {c : Code} (I : Nat → Env → List Chunk → Prop) (m : Nat) (e1 : Env) (h1 : List Chunk) (h0 : I m e1 h1) (hw : Weak P n e h e1 h1)
    (hr : ∀ m e h, I m e h → ∀ C : Env → List Chunk → Prop, (∀ m' e1 h1 e h, m' < m → I m' e1 h1 → Weak P n e h e1 h1 → C e h) → swp P n c (seqK C K) e h) : swp P n (.loop c) K e h := by
  intro X hX hn a w hreal
  refine wp_loop_ghost (fun m a w => ∃ e h, I m e h ∧ Real X (mkF e h) a w) m ⟨e1, h1, h0, hw X hX hn a w hreal⟩ ?_
  rintro m a w ⟨e, h, hI, hreal⟩
  have := hr m e h hI (fun e' h' => ∃ m' e1 h1, m' < m ∧ I m' e1 h1 ∧ Weak P n e' h' e1 h1) (fun m' e1 h1 e h a b c => ⟨m', e1, h1, a, b, c⟩) X hX hn a w hreal
  refine wp_mono this fun ex a' w' hq => ?_
  obtain ⟨e', h', hk, hr'⟩ := hq
  cases ex with
  | normal =>
    obtain ⟨m', e2, h2, hlt, hI2, hw2⟩ := hk
    exact ⟨m', hlt, e2, h2, hI2, hw2 X hX hn a' w' hr'⟩
  | _ => exact ⟨e', h', hk, hr'⟩
end
/-- The slots below B, in order. -/
def tabE (e : Env) : Nat → Env
  | 0 => []
  | b + 1 => (b, look e b) :: tabE e b
theorem look_tabE (e : Env) : ∀ (b t : Nat), look (tabE e b) t = .any ∨ look (tabE e b) t = look e t
  | 0, _ => .inl rfl
  | b + 1, t => by
    simp only [tabE, look]
    by_cases h : t = b
    · rw [if_pos h, h]; exact .inr rfl
    · rw [if_neg h]; exact look_tabE e b t
theorem weak_look {P : Program} {n : Nat} {e e' : Env} {h : List Chunk} (hl : ∀ t, look e' t = .any ∨ look e' t = look e t) : Weak P n e h e' h := by
  intro X _ _ a w hr
  obtain ⟨c, hc⟩ := hr
  refine ⟨c, hc.size, hc.defers, hc.ext, hc.fresh, hc.mu, hc.new, hc.apart, fun t => ?_, hc.chunk⟩
  show RepP c w (look e' t) _
  rcases hl t with h | h
  · rw [h]; exact .any _
  · rw [h]; exact hc.env t
/-- Only the slots below B are kept. -/
theorem swp_prune {P : Program} {n : Nat} {c : Code} {K : Exit → Env → List Chunk → Prop} {e : Env} {h : List Chunk} (B : Nat) (hp : swp P n c K (tabE e B) h) : swp P n c K e h := swp_weak (weak_look (look_tabE e B)) hp
theorem mixed : Try.prog.follows .mixedOrders = true := by kernel_rfl
theorem Weak.refl (P : Program) (n : Nat) (e : Env) (h : List Chunk) : Weak P n e h e h := fun _ _ _ _ _ h => h
end Go.Proofs.Ytflbpkgnadjokaa
