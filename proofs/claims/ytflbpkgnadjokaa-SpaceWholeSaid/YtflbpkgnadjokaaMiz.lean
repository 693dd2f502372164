/- As XMix, taken in an order of our own (each step named by its place), where makers may also write blocks from lo on: for regions whose calls hand back rows of their own that are written further. -/
import Derived.Test.YtflbpkgnadjokaaMix
namespace Go.Proofs.Ytflbpkgnadjokaa
open Go Go.RowKit
/-- All that was there below lo is as it was. -/
structure SX (lo : Nat) (w w' : World) : Prop where
  os : w'.os = w.os
  tape : w'.tape = w.tape
  output : w'.output = w.output
  size : w.heap.size ≤ w'.heap.size
  block : ∀ b, b < w.heap.size → b < lo → w'.heap[b]? = w.heap[b]?
theorem SX.trans {lo : Nat} {a b c : World} (h : SX lo a b) (k : SX lo b c) : SX lo a c :=
  ⟨k.os.trans h.os, k.tape.trans h.tape, k.output.trans h.output, Nat.le_trans h.size k.size, fun i hi hx => (k.block i (Nat.lt_of_lt_of_le hi h.size) hx).trans (h.block i hi hx)⟩
theorem SX.of {lo : Nat} {w w' : World} (h : Ext w w') : SX lo w w' := ⟨h.os, h.tape, h.output, h.size, fun b hb _ => h.block b hb⟩
theorem SX.grown {lo : Nat} {w w' : World} {row : Option Nat} (h : w.grownBy w' row) (hr : ∀ r, row = some r → lo ≤ r) : SX lo w w' :=
  ⟨h.os, h.tape, h.output, h.size, fun b hb hl => h.block b hb (fun e => by have := hr b e.symm; omega)⟩
theorem SX.lo {lo : Nat} {w w' : World} (h : SX lo w w') (hl : lo ≤ w.heap.size) : ∀ b o, b < lo → w'.cell? ⟨b, o, none⟩ = w.cell? ⟨b, o, none⟩ := fun b o hb => World.cell?_of_block (w := w) (h.block b (Nat.lt_of_lt_of_le hb hl) hb)
theorem SX.setCell {lo : Nat} {w : World} {b o : Nat} (hb : lo ≤ b) (v : Value) : SX lo w (w.setCell ⟨b, o, none⟩ v) :=
  ⟨rfl, rfl, rfl, by rw [World.size_setCell]; exact Nat.le_refl _, fun i _ hx => block_setCell_ne v (by show b ≠ i; omega)⟩
theorem SX.bel {lo B : Nat} {a w w' : World} (h : Bel B a w) (hx : SX lo w w') (hB : B ≤ lo) : Bel B a w' :=
  ⟨h.bel.trans ⟨hx.os, hx.tape, hx.output, hx.size, fun k hk => hx.block k (Nat.lt_of_lt_of_le hk h.le) (Nat.lt_of_lt_of_le hk hB)⟩, Nat.le_trans h.le hx.size⟩
section
variable {P : Program} {ops : Array Oper} {Q : Exit → Act → World → Prop}
/-- Whatever order is picked, from every world that extends W; each step leaves what is below lo. -/
def GZ (P : Program) (ops : Array Oper) (Q : Exit → Act → World → Prop) (lo : Nat) : Nat → Array Bool → Act → World → Prop
  | 0, listed, a, W => Region.ready .any ops listed = [] ∧ ∀ w, Ext W w → Q .normal a w
  | fuel + 1, listed, a, W => ∀ w, Ext W w → (Region.ready .any ops listed = [] → Q .normal a w) ∧
      ∀ i ∈ Region.ready .any ops listed, wpOp P ops Q i (fun a' w' => SX lo w w' ∧ GZ P ops Q lo fuel (listed.setIfInBounds i true) a' w') a w
theorem GZ.world {lo : Nat} : ∀ {fuel : Nat} {listed : Array Bool} {a : Act} {W W' : World}, Ext W W' → GZ P ops Q lo fuel listed a W → GZ P ops Q lo fuel listed a W'
  | 0, _, _, _, _, hx, h => ⟨h.1, fun w hw => h.2 w (ext_trans hx hw)⟩
  | _ + 1, _, _, _, _, hx, h => fun w hw => h w (ext_trans hx hw)
theorem GZ.any {lo : Nat} : ∀ {fuel : Nat} {listed : Array Bool} {a : Act} {W : World}, GZ P ops Q lo fuel listed a W → wpAny P .any ops Q fuel listed a W
  | 0, _, _, _, h => ⟨h.1, h.2 _ (Below.refl _ _)⟩
  | _ + 1, _, _, W, h => ⟨(h W (Below.refl _ _)).1, fun i hi => wpOp_mono (fun _ _ h' => GZ.any h'.2) ((h W (Below.refl _ _)).2 i hi)⟩
/-- In every world that extends W operation o yields v, and at most extends it. -/
def QZ (P : Program) (ops : Array Oper) (lo : Nat) (W : World) (o : Oper) (v : Value) (a : Act) : Prop :=
  (Region.wanted o (yielded ops a.tmps) = true ∧ ∀ w, SX lo W w → o.quietAt P a (Ext w) w v) ∨
  (Region.wanted o (yielded ops a.tmps) = false ∧ v = undef)
theorem QZ.world {lo : Nat} {W W' : World} {o : Oper} {v : Value} {a : Act} (hx : SX lo W W') (h : QZ P ops lo W o v a) : QZ P ops lo W' o v a :=
  h.imp (fun ⟨g1, g2⟩ => ⟨g1, fun w hw => g2 w (hx.trans hw)⟩) id
theorem QZ.of_same {lo : Nat} {W : World} {o : Oper} {v : Value} {a a' : Act} (hy : QZ P ops lo W o v a) (he : execOp a'.eval o = execOp a.eval o)
    (hw : Region.wanted o (yielded ops a'.tmps) = Region.wanted o (yielded ops a.tmps)) : QZ P ops lo W o v a' := by
  unfold QZ Oper.quietAt at *
  rw [he, hw]
  exact hy
theorem QZ.wpOp {lo : Nat} {W : World} {i : Nat} {o : Oper} {v : Value} {a : Act} (hi' : ops[i]? = some o) (hy : QZ P ops lo W o v a) {K : Act → World → Prop} {w : World} (hw : SX lo W w) (h : ∀ w', Ext w w' → K (a.put o.dst v) w') : wpOp P ops Q i K a w := by
  unfold Go.wpOp
  simp only [hi']
  rcases hy with ⟨hwa, hv⟩ | ⟨hwa, rfl⟩
  · simp only [hwa, if_true]
    left
    have h3 := hv w hw
    unfold Oper.quietAt at h3
    unfold Oper.wp
    generalize (execOp a.eval o).run P w = r at *
    cases r with
    | ok n w' =>
      cases n <;> simp only [Oper.quietUpon] at h3 <;> simp only [Oper.upon]
      case value u =>
        obtain ⟨e1, e2⟩ := h3
        rw [e1, e2]
        exact h _ (Below.refl _ _)
      case skip =>
        obtain ⟨e1, e2⟩ := h3
        rw [e1, ← e2]
        exact h _ (Below.refl _ _)
      case enter f args =>
        obtain ⟨e1, hc⟩ := h3
        rw [e1]
        exact hc.mono fun e w'' ⟨he, hw''⟩ => by subst he; exact h _ hw''
    | halt x w' => simp only [Oper.quietUpon] at h3
  · simp only [hwa, Bool.false_eq_true, if_false]
    exact h w (Below.refl _ _)
theorem wpOp_putZ {lo : Nat} {W : World} {j : Nat} {oi oj : Oper} {v : Value} (hj : ops[j]? = some oj) (hap : oi.apart ops oj = true)
    (hsi : ∀ cs b, oi.op ≠ .select cs b) (hsj : ∀ cs b, oj.op ≠ .select cs b)
    (hQ : ∀ c a w, Q (.panic c) (a.put oi.dst v) w → Q (.panic c) a w) {K : Act → World → Prop} {a : Act} {w : World}
    (hy : QZ P ops lo W oi v a) (h : wpOp P ops Q j K (a.put oi.dst v) w) :
    wpOp P ops Q j (fun a' w' => QZ P ops lo W oi v a' ∧ K (a'.put oi.dst v) w') a w := by
  obtain ⟨h1, h2, h3⟩ := Oper.apart_spec hap
  have keep : ∀ (a : Act), QZ P ops lo W oi v a → ∀ u, QZ P ops lo W oi v (a.put oj.dst u) := fun a hy u =>
    hy.of_same (execOp_put oi hsi a oj.dst u h3) (wanted_put oi a oj.dst u h3)
  have keepD : ∀ d, QZ P ops lo W oi v { a with defers := d :: a.defers } := fun d => hy.of_same rfl rfl
  unfold wpOp at *
  simp only [hj] at *
  rw [wanted_put oj a oi.dst v h1] at h
  split
  · rename_i hw
    simp only [hw, if_true] at h
    rcases h with h | ⟨hasks, hlets⟩
    case inr => exact .inr ⟨by unfold Oper.asks at *; rw [execOp_put oj hsj a oi.dst v h1] at hasks; exact hasks, hlets⟩
    refine .inl ?_
    unfold Oper.wp at *
    rw [execOp_put oj hsj a oi.dst v h1] at h
    generalize (execOp a.eval oj).run P w = r at *
    cases r with
    | ok n w' =>
      cases n <;> simp only [Oper.upon] at h ⊢
      case value u => exact ⟨keep a hy u, by rw [← Act.put_comm a v u h2]; exact h⟩
      case skip => exact ⟨keep a hy _, by rw [← Act.put_comm a v undef h2]; exact h⟩
      case defer d =>
        refine ⟨keep _ (keepD d) _, ?_⟩
        rw [← Act.put_comm _ v undef h2, ← Act.put_defers]
        exact h
      case enter f args =>
        refine Calls.mono h fun e w'' he => ?_
        cases e with
        | returned u => exact ⟨keep a hy u, by rw [← Act.put_comm a v u h2]; exact he⟩
        | panicked c => exact hQ _ _ _ he
        | outgrown => exact he
      case row row args => exact Rows.mono h fun u w'' he => ⟨keep a hy u, by rw [← Act.put_comm a v u h2]; exact he⟩
    | halt x w' =>
      cases x <;> simp only [Oper.upon] at h ⊢
      case panic u => exact hQ _ _ _ h
  · rename_i hw
    simp only [hw] at h
    exact ⟨keep a hy _, by rw [← Act.put_comm a v undef h2]; exact h⟩
theorem GZ_first {i : Nat} {oi : Oper} {v : Value} {lo : Nat} (hi : ops[i]? = some oi) (hsel : ∀ (j : Nat) (o : Oper) cs b, ops[j]? = some o → o.op ≠ .select cs b)
    (hQ : ∀ c a w, Q (.panic c) (a.put oi.dst v) w → Q (.panic c) a w) :
    ∀ (fuel : Nat) (listed : Array Bool) (a : Act) (W : World),
      (∀ j oj, ops[j]? = some oj → j ≠ i → listed.getD j true = false → (∀ e ∈ oj.after, Region.binds .any e = true → e.on ≠ i) → oi.apart ops oj = true) →
      i ∈ Region.ready .any ops listed → QZ P ops lo W oi v a →
      GZ P ops Q lo fuel (listed.setIfInBounds i true) (a.put oi.dst v) W → GZ P ops Q lo (fuel + 1) listed a W := by
  intro fuel
  induction fuel with
  | zero =>
    intro listed a W _ hr hy H w hw
    refine ⟨fun h => (by rw [h] at hr; cases hr), fun j hj => ?_⟩
    by_cases hji : j = i
    · subst hji; exact hy.wpOp hi (SX.of hw) fun w' hw' => ⟨SX.of hw', H.world (ext_trans hw hw')⟩
    · have := ready_mono hj hji
      rw [H.1] at this
      cases this
  | succ fuel ih =>
    intro listed a W hfree hr hy H w hw
    refine ⟨fun h => (by rw [h] at hr; cases hr), fun j hj => ?_⟩
    by_cases hji : j = i
    · subst hji; exact hy.wpOp hi (SX.of hw) fun w' hw' => ⟨SX.of hw', H.world (ext_trans hw hw')⟩
    · have h1 := (H w hw).2 j (ready_mono hj hji)
      obtain ⟨hjun, oj, hoj, hall⟩ := mem_ready.1 hj
      have hnot : ∀ e ∈ oj.after, Region.binds .any e = true → e.on ≠ i := fun e he hb heq => by
        have h1 := hall e he hb
        have h0 := (mem_ready.1 hr).1
        rw [heq] at h1
        rcases Nat.lt_or_ge i listed.size with h' | h'
        · simp [h'] at h0 h1; rw [h0] at h1; cases h1
        · simp [Array.getElem?_eq_none h'] at h1
      have h2 := wpOp_putZ hoj (hfree j oj hoj hji hjun hnot) (fun cs b => hsel i oi cs b hi) (fun cs b => hsel j oj cs b hoj) hQ (hy.world (SX.of hw)) h1
      have hfree' : ∀ k ok, ops[k]? = some ok → k ≠ i → (listed.setIfInBounds j true).getD k true = false →
          (∀ e ∈ ok.after, Region.binds .any e = true → e.on ≠ i) → oi.apart ops ok = true := fun k ok hk hki hun hno => by
        refine hfree k ok hk hki ?_ hno
        by_cases hjk : j = k
        · subst hjk; exact hjun
        · rw [getD_set_ne true hjk] at hun; exact hun
      refine wpOp_mono (fun a' w' h3 => ⟨h3.2.1, ih (listed.setIfInBounds j true) a' w' hfree' (ready_mono hr (Ne.symm hji)) (h3.1.world h3.2.1) ?_⟩) h2
      rw [Array.setIfInBounds_comm _ _ hji]
      exact h3.2.2
theorem region_miz {id : Nat} {a : Act} {w : World} {l : List Oper} (lo n : Nat) (hm : P.follows .mixedOrders = true) (hn : l.length = n) (h : GZ P l.toArray Q lo n (Array.replicate n false) a w) : (Code.region id l.toArray true).wp P Q a w := by
  subst hn
  refine wp_region_any hm ?_
  have h3 := (h.world ((Below.refl _ _).drew : Ext w w.drew)).any
  simpa using h3
theorem miz_take {i fuel lo : Nat} {listed : Array Bool} {a : Act} {W : World} {oi : Oper} {v : Value} (hio : ops[i]? = some oi) (hs : Region.noSelect ops = true) (hQ : ∀ c a d v w, Q (.panic c) (a.put d v) w → Q (.panic c) a w)
    (hB : ((Region.ready .any ops listed).contains i && Region.free .any ops listed i) = true) (hw : Region.wanted oi (yielded ops a.tmps) = true)
    (h : ∀ w, SX lo W w → ∀ R : Value → Prop, R v → qUp P w w R ((execOp a.eval oi).run P w)) (hn : GZ P ops Q lo fuel (listed.setIfInBounds i true) (a.put oi.dst v) W) : GZ P ops Q lo (fuel + 1) listed a W := by
  simp only [Bool.and_eq_true] at hB
  exact GZ_first hio (Region.noSelect_spec hs) (fun c a w => hQ c a _ _ w) fuel listed a W (Region.free_spec hio hB.2) (by simpa using hB.1) (.inl ⟨hw, fun w hw => qUp_quiet (h w hw)⟩) hn
theorem miz_step {i fuel lo : Nat} {listed : Array Bool} {a : Act} {w : World} {o : Oper} (hio : ops[i]? = some o) (hw : Region.wanted o (yielded ops a.tmps) = true)
    (h : ∀ K : Act → World → Prop, (∀ a' w', SX lo w w' → GZ P ops Q lo fuel (listed.setIfInBounds i true) a' w' → K a' w') → o.wp P a w K Q) :
    wpOp P ops Q i (fun a' w' => SX lo w w' ∧ GZ P ops Q lo fuel (listed.setIfInBounds i true) a' w') a w := by
  unfold wpOp
  simp only [hio, hw, if_true]
  left
  exact h _ fun _ _ h1 h2 => ⟨h1, h2⟩
theorem miz_one {i fuel lo : Nat} {listed : Array Bool} {a : Act} {W : World} {o : Oper} (hr : Region.ready .any ops listed = [i]) (hio : ops[i]? = some o) (hw : Region.wanted o (yielded ops a.tmps) = true)
    (h : ∀ w, Ext W w → ∀ K : Act → World → Prop, (∀ a' w', SX lo w w' → GZ P ops Q lo fuel (listed.setIfInBounds i true) a' w' → K a' w') → o.wp P a w K Q) : GZ P ops Q lo (fuel + 1) listed a W := by
  intro w hx
  refine ⟨fun e => by rw [hr] at e; simp at e, fun j hj => ?_⟩
  rw [hr] at hj
  obtain rfl : j = i := by simpa using hj
  exact miz_step hio hw (h w hx)
theorem miz_two {i k fuel lo : Nat} {listed : Array Bool} {a : Act} {W : World} {o p : Oper} (hr : Region.ready .any ops listed = [i, k]) (hio : ops[i]? = some o) (hkp : ops[k]? = some p) (hw : Region.wanted o (yielded ops a.tmps) = true) (hv : Region.wanted p (yielded ops a.tmps) = true)
    (h : ∀ w, Ext W w → ∀ K : Act → World → Prop, (∀ a' w', SX lo w w' → GZ P ops Q lo fuel (listed.setIfInBounds i true) a' w' → K a' w') → o.wp P a w K Q)
    (h' : ∀ w, Ext W w → ∀ K : Act → World → Prop, (∀ a' w', SX lo w w' → GZ P ops Q lo fuel (listed.setIfInBounds k true) a' w' → K a' w') → p.wp P a w K Q) : GZ P ops Q lo (fuel + 1) listed a W := by
  intro w hx
  refine ⟨fun e => by rw [hr] at e; simp at e, fun j hj => ?_⟩
  rw [hr] at hj
  simp only [List.mem_cons, List.not_mem_nil, or_false] at hj
  rcases hj with rfl | rfl
  · exact miz_step hio hw (h w hx)
  · exact miz_step hkp hv (h' w hx)
theorem miz_nil {lo : Nat} {listed : Array Bool} {a : Act} {W : World} (hr : Region.ready .any ops listed = []) (h : ∀ w, Ext W w → Q .normal a w) : GZ P ops Q lo 0 listed a W := ⟨hr, h⟩
end
end Go.Proofs.Ytflbpkgnadjokaa
