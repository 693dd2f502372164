/- As XMix, where the region's last operations write cells of our own (results): blocks from lo to hi may be written. -/
import Derived.Test.YtflbpkgnadjokaaMix
namespace Go.Proofs.Ytflbpkgnadjokaa
open Go Go.RowKit
/-- All that was there is as it was, but for the blocks from lo on, ahead of hi: they are as wide as they were. -/
structure EX (lo hi : Nat) (w w' : World) : Prop where
  os : w'.os = w.os
  tape : w'.tape = w.tape
  output : w'.output = w.output
  size : w.heap.size ≤ w'.heap.size
  block : ∀ b, b < w.heap.size → (b < lo ∨ hi ≤ b) → w'.heap[b]? = w.heap[b]?
  there : ∀ b o, b < w.heap.size → (w.cell? ⟨b, o, none⟩).isSome = true → (w'.cell? ⟨b, o, none⟩).isSome = true
  free : ∀ b o, b < w.heap.size → w'.frozen? ⟨b, o, none⟩ = w.frozen? ⟨b, o, none⟩
theorem EX.refl {lo hi : Nat} (w : World) : EX lo hi w w := ⟨rfl, rfl, rfl, Nat.le_refl _, fun _ _ _ => rfl, fun _ _ _ h => h, fun _ _ _ => rfl⟩
theorem EX.trans {lo hi : Nat} {a b c : World} (h : EX lo hi a b) (k : EX lo hi b c) : EX lo hi a c :=
  ⟨k.os.trans h.os, k.tape.trans h.tape, k.output.trans h.output, Nat.le_trans h.size k.size, fun i hi hx => (k.block i (Nat.lt_of_lt_of_le hi h.size) hx).trans (h.block i hi hx),
   fun i o hi hs => k.there i o (Nat.lt_of_lt_of_le hi h.size) (h.there i o hi hs), fun i o hi => (k.free i o (Nat.lt_of_lt_of_le hi h.size)).trans (h.free i o hi)⟩
theorem EX.of {lo hi : Nat} {w w' : World} (h : Ext w w') : EX lo hi w w' :=
  ⟨h.os, h.tape, h.output, h.size, fun b hb _ => h.block b hb, fun b o hb hs => by rw [(bcell h).1 b o hb]; exact hs, fun b o hb => (bcell h).2 b o hb⟩
theorem EX.mono {lo hi lo' hi' : Nat} {w w' : World} (h1 : lo ≤ lo') (h2 : hi' ≤ hi) (h : EX lo' hi' w w') : EX lo hi w w' :=
  ⟨h.os, h.tape, h.output, h.size, fun b hb hx => h.block b hb (by omega), h.there, h.free⟩
theorem EX.cell {lo hi : Nat} {w w' : World} (h : EX lo hi w w') {b o : Nat} (hb : b < w.heap.size) (hx : b < lo ∨ hi ≤ b) : w'.cell? ⟨b, o, none⟩ = w.cell? ⟨b, o, none⟩ :=
  World.cell?_of_block (w := w) (h.block b hb hx)
theorem EX.setCell {lo hi : Nat} {w w' : World} (h : EX lo hi w w') {b o : Nat} (h1 : lo ≤ b) (h2 : b < hi) (v : Value) : EX lo hi w (w'.setCell ⟨b, o, none⟩ v) := by
  refine ⟨h.os, h.tape, h.output, by rw [World.size_setCell]; exact h.size, fun i hi hx => (block_setCell_ne v (by show b ≠ i; omega)).trans (h.block i hi hx), fun i j hi hs => ?_, fun i j hi => ?_⟩
  · have h3 := h.there i j hi hs
    obtain ⟨u, hu⟩ := Option.isSome_iff_exists.1 h3
    obtain ⟨u', hu'⟩ := cell?_setCell_some (w := w') (p := ⟨b, o, none⟩) (x := v) (q := ⟨i, j, none⟩) (v := u) hu
    rw [hu']; rfl
  · rw [World.frozen?_setCell]; exact h.free i j hi
theorem EX.drew {lo hi : Nat} {w w' : World} (h : EX lo hi w w') : EX lo hi w w'.drew := h.trans (EX.of ((Below.refl _ _).drew))
theorem EX.bel {lo hi B : Nat} {a w w' : World} (h : Bel B a w) (hx : EX lo hi w w') (hB : B ≤ lo) : Bel B a w' :=
  ⟨h.bel.trans ⟨hx.os, hx.tape, hx.output, hx.size, fun k hk => hx.block k (Nat.lt_of_lt_of_le hk h.le) (.inl (Nat.lt_of_lt_of_le hk hB))⟩, Nat.le_trans h.le hx.size⟩
theorem EX.some {lo hi : Nat} {w w' : World} (h : EX lo hi w w') {b o : Nat} {v : Value} (hc : w.cell? ⟨b, o, none⟩ = some v) : ∃ u, w'.cell? ⟨b, o, none⟩ = some u := by
  have := h.there b o (lt_of_cell hc) (by rw [hc]; rfl)
  exact Option.isSome_iff_exists.1 this
theorem EX.lo {lo hi : Nat} {w w' : World} (h : EX lo hi w w') (hl : lo ≤ w.heap.size) : ∀ b o, b < lo → w'.cell? ⟨b, o, none⟩ = w.cell? ⟨b, o, none⟩ := fun b o hb => h.cell (by omega) (.inl hb)
theorem EX.hi {lo hi : Nat} {w w' : World} (h : EX lo hi w w') : ∀ b o, hi ≤ b → b < w.heap.size → w'.cell? ⟨b, o, none⟩ = w.cell? ⟨b, o, none⟩ := fun b o hb h2 => h.cell h2 (.inr hb)
section
variable {P : Program} {ops : Array Oper} {Q : Exit → Act → World → Prop}
/-- Whatever order is picked. -/
def GX (P : Program) (ops : Array Oper) (Q : Exit → Act → World → Prop) : Nat → Array Bool → Act → Nat → Nat → World → Prop
  | 0, listed, a, lo, hi, W => Region.ready .any ops listed = [] ∧ ∀ w, EX lo hi W w → Q .normal a w
  | fuel + 1, listed, a, lo, hi, W => ∀ w, EX lo hi W w → (Region.ready .any ops listed = [] → Q .normal a w) ∧
      ∀ i ∈ Region.ready .any ops listed, wpOp P ops Q i (fun a' w' => EX lo hi w w' ∧ ∃ lo' hi', lo ≤ lo' ∧ hi' ≤ hi ∧ GX P ops Q fuel (listed.setIfInBounds i true) a' lo' hi' w') a w
theorem GX.world : ∀ {fuel : Nat} {listed : Array Bool} {a : Act} {lo hi : Nat} {W W' : World}, EX lo hi W W' → GX P ops Q fuel listed a lo hi W → GX P ops Q fuel listed a lo hi W'
  | 0, _, _, _, _, _, _, hx, h => ⟨h.1, fun w hw => h.2 w (hx.trans hw)⟩
  | _ + 1, _, _, _, _, _, _, hx, h => fun w hw => h w (hx.trans hw)
theorem GX.any : ∀ {fuel : Nat} {listed : Array Bool} {a : Act} {lo hi : Nat} {W : World}, GX P ops Q fuel listed a lo hi W → wpAny P .any ops Q fuel listed a W
  | 0, _, _, _, _, _, h => ⟨h.1, h.2 _ (EX.refl _)⟩
  | _ + 1, _, _, _, _, W, h => ⟨(h W (EX.refl _)).1, fun i hi => wpOp_mono (fun _ _ ⟨_, _, _, _, _, h'⟩ => GX.any h') ((h W (EX.refl _)).2 i hi)⟩
/-- In every world that extends W operation o yields v, and at most extends it. -/
def QX (P : Program) (ops : Array Oper) (lo hi : Nat) (W : World) (o : Oper) (v : Value) (a : Act) : Prop :=
  (Region.wanted o (yielded ops a.tmps) = true ∧ ∀ w, EX lo hi W w → o.quietAt P a (Ext w) w v) ∨
  (Region.wanted o (yielded ops a.tmps) = false ∧ v = undef)
theorem QX.world {lo hi lo' hi' : Nat} {W W' : World} {o : Oper} {v : Value} {a : Act} (h1 : lo ≤ lo') (h2 : hi' ≤ hi) (hx : EX lo hi W W') (h : QX P ops lo hi W o v a) : QX P ops lo' hi' W' o v a :=
  h.imp (fun ⟨g1, g2⟩ => ⟨g1, fun w hw => g2 w (hx.trans (hw.mono h1 h2))⟩) id
theorem QX.of_same {lo hi : Nat} {W : World} {o : Oper} {v : Value} {a a' : Act} (hy : QX P ops lo hi W o v a) (he : execOp a'.eval o = execOp a.eval o)
    (hw : Region.wanted o (yielded ops a'.tmps) = Region.wanted o (yielded ops a.tmps)) : QX P ops lo hi W o v a' := by
  unfold QX Oper.quietAt at *
  rw [he, hw]
  exact hy
theorem QX.wpOp {lo hi : Nat} {W : World} {i : Nat} {o : Oper} {v : Value} {a : Act} (hi' : ops[i]? = some o) (hy : QX P ops lo hi W o v a) {K : Act → World → Prop} {w : World} (hw : EX lo hi W w) (h : ∀ w', Ext w w' → K (a.put o.dst v) w') : wpOp P ops Q i K a w := by
  unfold Go.wpOp
  simp only [hi']
  rcases hy with ⟨hwa, hv⟩ | ⟨hwa, rfl⟩
  · simp only [hwa, if_true]
    left
    have h3 := hv w hw
    unfold Oper.quietAt at h3
    unfold Oper.wp
    generalize (execOp a.eval o).run P w = r at *
    cases r with
    | ok n w' =>
      cases n <;> simp only [Oper.quietUpon] at h3 <;> simp only [Oper.upon]
      case value u =>
        obtain ⟨e1, e2⟩ := h3
        rw [e1, e2]
        exact h _ (Below.refl _ _)
      case skip =>
        obtain ⟨e1, e2⟩ := h3
        rw [e1, ← e2]
        exact h _ (Below.refl _ _)
      case enter f args =>
        obtain ⟨e1, hc⟩ := h3
        rw [e1]
        exact hc.mono fun e w'' ⟨he, hw''⟩ => by subst he; exact h _ hw''
    | halt x w' => simp only [Oper.quietUpon] at h3
  · simp only [hwa, Bool.false_eq_true, if_false]
    exact h w (Below.refl _ _)
theorem wpOp_putX {lo hi : Nat} {W : World} {j : Nat} {oi oj : Oper} {v : Value} (hj : ops[j]? = some oj) (hap : oi.apart ops oj = true)
    (hsi : ∀ cs b, oi.op ≠ .select cs b) (hsj : ∀ cs b, oj.op ≠ .select cs b)
    (hQ : ∀ c a w, Q (.panic c) (a.put oi.dst v) w → Q (.panic c) a w) {K : Act → World → Prop} {a : Act} {w : World}
    (hy : QX P ops lo hi W oi v a) (h : wpOp P ops Q j K (a.put oi.dst v) w) :
    wpOp P ops Q j (fun a' w' => QX P ops lo hi W oi v a' ∧ K (a'.put oi.dst v) w') a w := by
  obtain ⟨h1, h2, h3⟩ := Oper.apart_spec hap
  have keep : ∀ (a : Act), QX P ops lo hi W oi v a → ∀ u, QX P ops lo hi W oi v (a.put oj.dst u) := fun a hy u =>
    hy.of_same (execOp_put oi hsi a oj.dst u h3) (wanted_put oi a oj.dst u h3)
  have keepD : ∀ d, QX P ops lo hi W oi v { a with defers := d :: a.defers } := fun d => hy.of_same rfl rfl
  unfold wpOp at *
  simp only [hj] at *
  rw [wanted_put oj a oi.dst v h1] at h
  split
  · rename_i hw
    simp only [hw, if_true] at h
    rcases h with h | ⟨hasks, hlets⟩
    case inr => exact .inr ⟨by unfold Oper.asks at *; rw [execOp_put oj hsj a oi.dst v h1] at hasks; exact hasks, hlets⟩
    refine .inl ?_
    unfold Oper.wp at *
    rw [execOp_put oj hsj a oi.dst v h1] at h
    generalize (execOp a.eval oj).run P w = r at *
    cases r with
    | ok n w' =>
      cases n <;> simp only [Oper.upon] at h ⊢
      case value u => exact ⟨keep a hy u, by rw [← Act.put_comm a v u h2]; exact h⟩
      case skip => exact ⟨keep a hy _, by rw [← Act.put_comm a v undef h2]; exact h⟩
      case defer d =>
        refine ⟨keep _ (keepD d) _, ?_⟩
        rw [← Act.put_comm _ v undef h2, ← Act.put_defers]
        exact h
      case enter f args =>
        refine Calls.mono h fun e w'' he => ?_
        cases e with
        | returned u => exact ⟨keep a hy u, by rw [← Act.put_comm a v u h2]; exact he⟩
        | panicked c => exact hQ _ _ _ he
        | outgrown => exact he
      case row row args => exact Rows.mono h fun u w'' he => ⟨keep a hy u, by rw [← Act.put_comm a v u h2]; exact he⟩
    | halt x w' =>
      cases x <;> simp only [Oper.upon] at h ⊢
      case panic u => exact hQ _ _ _ h
  · rename_i hw
    simp only [hw] at h
    exact ⟨keep a hy _, by rw [← Act.put_comm a v undef h2]; exact h⟩
theorem GX_first {i : Nat} {oi : Oper} {v : Value} (hio : ops[i]? = some oi) (hsel : ∀ (j : Nat) (o : Oper) cs b, ops[j]? = some o → o.op ≠ .select cs b)
    (hQ : ∀ c a w, Q (.panic c) (a.put oi.dst v) w → Q (.panic c) a w) :
    ∀ (fuel : Nat) (listed : Array Bool) (a : Act) (lo hi : Nat) (W : World),
      (∀ j oj, ops[j]? = some oj → j ≠ i → listed.getD j true = false → (∀ e ∈ oj.after, Region.binds .any e = true → e.on ≠ i) → oi.apart ops oj = true) →
      i ∈ Region.ready .any ops listed → QX P ops lo hi W oi v a →
      GX P ops Q fuel (listed.setIfInBounds i true) (a.put oi.dst v) lo hi W → GX P ops Q (fuel + 1) listed a lo hi W := by
  intro fuel
  induction fuel with
  | zero =>
    intro listed a lo hi W _ hr hy H w hw
    refine ⟨fun h => (by rw [h] at hr; cases hr), fun j hj => ?_⟩
    by_cases hji : j = i
    · subst hji; exact hy.wpOp hio hw fun w' hw' => ⟨EX.of hw', lo, hi, Nat.le_refl _, Nat.le_refl _, H.world (hw.trans (EX.of hw'))⟩
    · have := ready_mono hj hji
      rw [H.1] at this
      cases this
  | succ fuel ih =>
    intro listed a lo hi W hfree hr hy H w hw
    refine ⟨fun h => (by rw [h] at hr; cases hr), fun j hj => ?_⟩
    by_cases hji : j = i
    · subst hji; exact hy.wpOp hio hw fun w' hw' => ⟨EX.of hw', lo, hi, Nat.le_refl _, Nat.le_refl _, H.world (hw.trans (EX.of hw'))⟩
    · have h1 := (H w hw).2 j (ready_mono hj hji)
      obtain ⟨hjun, oj, hoj, hall⟩ := mem_ready.1 hj
      have hnot : ∀ e ∈ oj.after, Region.binds .any e = true → e.on ≠ i := fun e he hb heq => by
        have h1 := hall e he hb
        have h0 := (mem_ready.1 hr).1
        rw [heq] at h1
        rcases Nat.lt_or_ge i listed.size with h' | h'
        · simp [h'] at h0 h1; rw [h0] at h1; cases h1
        · simp [Array.getElem?_eq_none h'] at h1
      have h2 := wpOp_putX hoj (hfree j oj hoj hji hjun hnot) (fun cs b => hsel i oi cs b hio) (fun cs b => hsel j oj cs b hoj) hQ (hy.world (Nat.le_refl _) (Nat.le_refl _) hw) h1
      have hfree' : ∀ k ok, ops[k]? = some ok → k ≠ i → (listed.setIfInBounds j true).getD k true = false →
          (∀ e ∈ ok.after, Region.binds .any e = true → e.on ≠ i) → oi.apart ops ok = true := fun k ok hk hki hun hno => by
        refine hfree k ok hk hki ?_ hno
        by_cases hjk : j = k
        · subst hjk; exact hjun
        · rw [getD_set_ne true hjk] at hun; exact hun
      refine wpOp_mono (fun a' w' ⟨h3, h4, lo', hi', h5, h6, h7⟩ => ⟨h4, lo', hi', h5, h6, ih (listed.setIfInBounds j true) a' lo' hi' w' hfree' (ready_mono hr (Ne.symm hji)) (h3.world h5 h6 h4) ?_⟩) h2
      rw [Array.setIfInBounds_comm _ _ hji]
      exact h7
/-- The walk in the order of the text. -/
def wpMiy (P : Program) (ops : Array Oper) (Q : Exit → Act → World → Prop) : List Oper → Nat → Array Bool → Act → Nat → Nat → World → Prop
  | [], _, _, a, lo, hi, W => ∀ w, EX lo hi W w → Q .normal a w
  | o :: rest, k, listed, a, lo, hi, W =>
    (∃ v, QX P ops lo hi W o v a ∧ wpMiy P ops Q rest (k + 1) (listed.setIfInBounds k true) (a.put o.dst v) lo hi W) ∨
    (Region.ready .any ops listed = [k] ∧ Region.wanted o (yielded ops a.tmps) = true ∧ ∀ w, EX lo hi W w → o.wp P a w (fun a' w' => EX lo hi w w' ∧ ∃ lo' hi', lo ≤ lo' ∧ hi' ≤ hi ∧ wpMiy P ops Q rest (k + 1) (listed.setIfInBounds k true) a' lo' hi' w') Q)
theorem miy_sound (hs : Region.noSelect ops = true) (hQ : ∀ c a d v w, Q (.panic c) (a.put d v) w → Q (.panic c) a w) : ∀ (l : List Oper) (k : Nat) (listed : Array Bool) (a : Act) (lo hi : Nat) (W : World), (∀ j, l[j]? = ops[k + j]?) →
    Region.lexFrom .any ops l.length k listed = true → wpMiy P ops Q l k listed a lo hi W → GX P ops Q l.length listed a lo hi W
  | [], _, _, _, _, _, _, _, hB, h => ⟨by simpa [Region.lexFrom] using hB, h⟩
  | o :: l, k, listed, a, lo, hi, W, hl, hB, h => by
    have h0 : ops[k]? = some o := by simpa using (hl 0).symm
    simp only [List.length_cons, Region.lexFrom, Bool.and_eq_true] at hB
    obtain ⟨⟨hr, hf⟩, hB'⟩ := hB
    have hl' : ∀ j, l[j]? = ops[k + 1 + j]? := fun j => by have := hl (j + 1); simpa [Nat.add_assoc, Nat.add_comm 1 j] using this
    rcases h with ⟨v, hy, hK⟩ | ⟨hone, hwa, hK⟩
    · exact GX_first h0 (Region.noSelect_spec hs) (fun c a w => hQ c a _ _ w) l.length listed a lo hi W (Region.free_spec h0 hf) (by simpa using hr) hy (miy_sound hs hQ l (k + 1) _ _ _ _ _ hl' hB' hK)
    · intro w hw
      refine ⟨fun h => by rw [hone] at h; simp at h, fun i hi' => ?_⟩
      rw [hone] at hi'
      obtain rfl : i = k := by simpa using hi'
      unfold wpOp
      simp only [h0, hwa, if_true]
      left
      exact Oper.wp_mono (fun a' w' ⟨h1, lo', hi', h2, h3, h4⟩ => ⟨h1, lo', hi', h2, h3, miy_sound hs hQ l (i + 1) _ _ _ _ _ hl' hB' h4⟩) (hK w hw)
theorem region_miy {id : Nat} {a : Act} {w : World} {l : List Oper} (lo hi : Nat) (hm : P.follows .mixedOrders = true) (hB : Region.lexB .any l.toArray = true) (hQ : ∀ c a d v w, Q (.panic c) (a.put d v) w → Q (.panic c) a w)
    (h : wpMiy P l.toArray Q l 0 (Array.replicate l.length false) a lo hi w) : (Code.region id l.toArray true).wp P Q a w := by
  simp only [Region.lexB, Bool.and_eq_true] at hB
  refine wp_region_any hm ?_
  have h2 := miy_sound hB.1 hQ l 0 (Array.replicate l.length false) a lo hi w (by simp) (by simpa using hB.2) h
  have h3 := (h2.world (EX.of ((Below.refl _ _).drew : Ext w w.drew))).any
  simpa using h3
section
variable {o : Oper} {rest : List Oper} {k lo hi : Nat} {listed : Array Bool} {a : Act} {W : World}
theorem miy_nil (h : ∀ w, EX lo hi W w → Q .normal a w) : wpMiy P ops Q [] k listed a lo hi W := h
theorem miy_skip (hw : Region.wanted o (yielded ops a.tmps) = false) (hn : wpMiy P ops Q rest (k + 1) (listed.setIfInBounds k true) (a.put o.dst undef) lo hi W) : wpMiy P ops Q (o :: rest) k listed a lo hi W :=
  .inl ⟨undef, .inr ⟨hw, rfl⟩, hn⟩
theorem miy_skip_t {j d : Nat} {v : Value} (hg : o.guard = some (j, true)) (hd : (ops[j]?).bind (·.dst) = some d) (hv : a.tmps.toList[d]? = some v) (hb : v = .bool false) (hn : wpMiy P ops Q rest (k + 1) (listed.setIfInBounds k true) (a.put o.dst undef) lo hi W) : wpMiy P ops Q (o :: rest) k listed a lo hi W :=
  miy_skip (by simp [Region.wanted, hg, yields_bool hd hv hb]) hn
theorem miy_skip_f {j d : Nat} {v : Value} (hg : o.guard = some (j, false)) (hd : (ops[j]?).bind (·.dst) = some d) (hv : a.tmps.toList[d]? = some v) (hb : v = .bool true) (hn : wpMiy P ops Q rest (k + 1) (listed.setIfInBounds k true) (a.put o.dst undef) lo hi W) : wpMiy P ops Q (o :: rest) k listed a lo hi W :=
  miy_skip (by simp [Region.wanted, hg, yields_bool hd hv hb]) hn
theorem miy_skip_u {j d : Nat} {v : Value} {b : Bool} (hg : o.guard = some (j, b)) (hd : (ops[j]?).bind (·.dst) = some d) (hv : a.tmps.toList[d]? = some v) (hb : v = undef) (hn : wpMiy P ops Q rest (k + 1) (listed.setIfInBounds k true) (a.put o.dst undef) lo hi W) : wpMiy P ops Q (o :: rest) k listed a lo hi W :=
  miy_skip (by simp [Region.wanted, hg, yields_undef hd hv hb]) hn
theorem miy_take {v : Value} (hw : Region.wanted o (yielded ops a.tmps) = true) (h : ∀ w, EX lo hi W w → ∀ R : Value → Prop, R v → qUp P w w R ((execOp a.eval o).run P w))
    (hn : wpMiy P ops Q rest (k + 1) (listed.setIfInBounds k true) (a.put o.dst v) lo hi W) : wpMiy P ops Q (o :: rest) k listed a lo hi W :=
  .inl ⟨v, .inl ⟨hw, fun w hw => qUp_quiet (h w hw)⟩, hn⟩
theorem miy_alone (hr : Region.ready .any ops listed = [k]) (hw : Region.wanted o (yielded ops a.tmps) = true)
    (h : ∀ w, EX lo hi W w → ∀ K : Act → World → Prop, (∀ a' w' lo' hi', lo ≤ lo' → hi' ≤ hi → EX lo hi w w' → wpMiy P ops Q rest (k + 1) (listed.setIfInBounds k true) a' lo' hi' w' → K a' w') → o.wp P a w K Q) : wpMiy P ops Q (o :: rest) k listed a lo hi W :=
  .inr ⟨hr, hw, fun w hw => h w hw _ fun _ _ lo' hi' g1 g2 h1 h2 => ⟨h1, lo', hi', g1, g2, h2⟩⟩
end
end
end Go.Proofs.Ytflbpkgnadjokaa
