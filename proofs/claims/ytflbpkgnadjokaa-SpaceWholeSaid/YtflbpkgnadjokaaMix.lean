/- A region that draws its order, walked once in the order of the text: its operations are quiet (they read, or call what only extends the world and answers one value), or stand alone (no other can come up: they may make memory). -/
import Derived.Test.YtflbpkgnadjokaaWalk
namespace Go.Proofs.Ytflbpkgnadjokaa
open Go Go.RowKit
section
variable {P : Program} {ops : Array Oper} {Q : Exit → Act → World → Prop}
/-- Whatever order is picked, from every world that extends W. -/
def GO (P : Program) (ops : Array Oper) (Q : Exit → Act → World → Prop) : Nat → Array Bool → Act → World → Prop
  | 0, listed, a, W => Region.ready .any ops listed = [] ∧ ∀ w, Ext W w → Q .normal a w
  | fuel + 1, listed, a, W => ∀ w, Ext W w → (Region.ready .any ops listed = [] → Q .normal a w) ∧
      ∀ i ∈ Region.ready .any ops listed, wpOp P ops Q i (fun a' w' => Ext w w' ∧ GO P ops Q fuel (listed.setIfInBounds i true) a' w') a w
theorem GO.world : ∀ {fuel : Nat} {listed : Array Bool} {a : Act} {W W' : World}, Ext W W' → GO P ops Q fuel listed a W → GO P ops Q fuel listed a W'
  | 0, _, _, _, _, hx, h => ⟨h.1, fun w hw => h.2 w (ext_trans hx hw)⟩
  | _ + 1, _, _, _, _, hx, h => fun w hw => h w (ext_trans hx hw)
theorem GO.any : ∀ {fuel : Nat} {listed : Array Bool} {a : Act} {W : World}, GO P ops Q fuel listed a W → wpAny P .any ops Q fuel listed a W
  | 0, _, _, _, h => ⟨h.1, h.2 _ (Below.refl _ _)⟩
  | _ + 1, _, _, W, h => ⟨(h W (Below.refl _ _)).1, fun i hi => wpOp_mono (fun _ _ h' => GO.any h'.2) ((h W (Below.refl _ _)).2 i hi)⟩
/-- In every world that extends W operation o yields v, and at most extends it. -/
def QY (P : Program) (ops : Array Oper) (W : World) (o : Oper) (v : Value) (a : Act) : Prop :=
  (Region.wanted o (yielded ops a.tmps) = true ∧ ∀ w, Ext W w → o.quietAt P a (Ext w) w v) ∨
  (Region.wanted o (yielded ops a.tmps) = false ∧ v = undef)
theorem QY.world {W W' : World} {o : Oper} {v : Value} {a : Act} (hx : Ext W W') (h : QY P ops W o v a) : QY P ops W' o v a :=
  h.imp (fun ⟨h1, h2⟩ => ⟨h1, fun w hw => h2 w (ext_trans hx hw)⟩) id
theorem QY.of_same {W : World} {o : Oper} {v : Value} {a a' : Act} (hy : QY P ops W o v a) (he : execOp a'.eval o = execOp a.eval o)
    (hw : Region.wanted o (yielded ops a'.tmps) = Region.wanted o (yielded ops a.tmps)) : QY P ops W o v a' := by
  unfold QY Oper.quietAt at *
  rw [he, hw]
  exact hy
theorem QY.wpOp {W : World} {i : Nat} {o : Oper} {v : Value} {a : Act} (hi : ops[i]? = some o) (hy : QY P ops W o v a) {K : Act → World → Prop} {w : World} (hw : Ext W w) (h : ∀ w', Ext w w' → K (a.put o.dst v) w') : wpOp P ops Q i K a w := by
  unfold Go.wpOp
  simp only [hi]
  rcases hy with ⟨hwa, hv⟩ | ⟨hwa, rfl⟩
  · simp only [hwa, if_true]
    left
    exact Oper.wp_of_quiet (C := Ext w) (K := fun a' => a' = a.put o.dst v) (Below.refl _ _) (fun a' w' hw' ha => ha ▸ h w' hw') ⟨v, fun w'' hw'' => by
      have := hv w'' (ext_trans hw hw'')
      unfold Oper.quietAt at *
      generalize (execOp a.eval o).run P w'' = r at *
      cases r with
      | ok n u => cases n <;> simp only [Oper.quietUpon] at this ⊢ <;> first | exact this | exact ⟨this.1, this.2.mono fun _ _ ⟨e1, e2⟩ => ⟨e1, ext_trans hw'' e2⟩⟩
      | halt x u => simp only [Oper.quietUpon] at this, rfl⟩
  · simp only [hwa, Bool.false_eq_true, if_false]
    exact h w (Below.refl _ _)
theorem wpOp_putQ {W : World} {j : Nat} {oi oj : Oper} {v : Value} (hj : ops[j]? = some oj) (hap : oi.apart ops oj = true)
    (hsi : ∀ cs b, oi.op ≠ .select cs b) (hsj : ∀ cs b, oj.op ≠ .select cs b)
    (hQ : ∀ c a w, Q (.panic c) (a.put oi.dst v) w → Q (.panic c) a w) {K : Act → World → Prop} {a : Act} {w : World}
    (hy : QY P ops W oi v a) (h : wpOp P ops Q j K (a.put oi.dst v) w) :
    wpOp P ops Q j (fun a' w' => QY P ops W oi v a' ∧ K (a'.put oi.dst v) w') a w := by
  obtain ⟨h1, h2, h3⟩ := Oper.apart_spec hap
  have keep : ∀ (a : Act), QY P ops W oi v a → ∀ u, QY P ops W oi v (a.put oj.dst u) := fun a hy u =>
    hy.of_same (execOp_put oi hsi a oj.dst u h3) (wanted_put oi a oj.dst u h3)
  have keepD : ∀ d, QY P ops W oi v { a with defers := d :: a.defers } := fun d => hy.of_same rfl rfl
  unfold wpOp at *
  simp only [hj] at *
  rw [wanted_put oj a oi.dst v h1] at h
  split
  · rename_i hw
    simp only [hw, if_true] at h
    rcases h with h | ⟨hasks, hlets⟩
    case inr => exact .inr ⟨by unfold Oper.asks at *; rw [execOp_put oj hsj a oi.dst v h1] at hasks; exact hasks, hlets⟩
    refine .inl ?_
    unfold Oper.wp at *
    rw [execOp_put oj hsj a oi.dst v h1] at h
    generalize (execOp a.eval oj).run P w = r at *
    cases r with
    | ok n w' =>
      cases n <;> simp only [Oper.upon] at h ⊢
      case value u => exact ⟨keep a hy u, by rw [← Act.put_comm a v u h2]; exact h⟩
      case skip => exact ⟨keep a hy _, by rw [← Act.put_comm a v undef h2]; exact h⟩
      case defer d =>
        refine ⟨keep _ (keepD d) _, ?_⟩
        rw [← Act.put_comm _ v undef h2, ← Act.put_defers]
        exact h
      case enter f args =>
        refine Calls.mono h fun e w'' he => ?_
        cases e with
        | returned u => exact ⟨keep a hy u, by rw [← Act.put_comm a v u h2]; exact he⟩
        | panicked c => exact hQ _ _ _ he
        | outgrown => exact he
      case row row args => exact Rows.mono h fun u w'' he => ⟨keep a hy u, by rw [← Act.put_comm a v u h2]; exact he⟩
    | halt x w' =>
      cases x <;> simp only [Oper.upon] at h ⊢
      case panic u => exact hQ _ _ _ h
  · rename_i hw
    simp only [hw] at h
    exact ⟨keep a hy _, by rw [← Act.put_comm a v undef h2]; exact h⟩
theorem GO_first {i : Nat} {oi : Oper} {v : Value} (hi : ops[i]? = some oi) (hsel : ∀ (j : Nat) (o : Oper) cs b, ops[j]? = some o → o.op ≠ .select cs b)
    (hQ : ∀ c a w, Q (.panic c) (a.put oi.dst v) w → Q (.panic c) a w) :
    ∀ (fuel : Nat) (listed : Array Bool) (a : Act) (W : World),
      (∀ j oj, ops[j]? = some oj → j ≠ i → listed.getD j true = false → (∀ e ∈ oj.after, Region.binds .any e = true → e.on ≠ i) → oi.apart ops oj = true) →
      i ∈ Region.ready .any ops listed → QY P ops W oi v a →
      GO P ops Q fuel (listed.setIfInBounds i true) (a.put oi.dst v) W → GO P ops Q (fuel + 1) listed a W := by
  intro fuel
  induction fuel with
  | zero =>
    intro listed a W _ hr hy H w hw
    refine ⟨fun h => (by rw [h] at hr; cases hr), fun j hj => ?_⟩
    by_cases hji : j = i
    · subst hji; exact hy.wpOp hi hw fun w' hw' => ⟨hw', H.world (ext_trans hw hw')⟩
    · have := ready_mono hj hji
      rw [H.1] at this
      cases this
  | succ fuel ih =>
    intro listed a W hfree hr hy H w hw
    refine ⟨fun h => (by rw [h] at hr; cases hr), fun j hj => ?_⟩
    by_cases hji : j = i
    · subst hji; exact hy.wpOp hi hw fun w' hw' => ⟨hw', H.world (ext_trans hw hw')⟩
    · have h1 := (H w hw).2 j (ready_mono hj hji)
      obtain ⟨hjun, oj, hoj, hall⟩ := mem_ready.1 hj
      have hnot : ∀ e ∈ oj.after, Region.binds .any e = true → e.on ≠ i := fun e he hb heq => by
        have h1 := hall e he hb
        have h0 := (mem_ready.1 hr).1
        rw [heq] at h1
        rcases Nat.lt_or_ge i listed.size with h' | h'
        · simp [h'] at h0 h1; rw [h0] at h1; cases h1
        · simp [Array.getElem?_eq_none h'] at h1
      have h2 := wpOp_putQ hoj (hfree j oj hoj hji hjun hnot) (fun cs b => hsel i oi cs b hi) (fun cs b => hsel j oj cs b hoj) hQ (hy.world hw) h1
      have hfree' : ∀ k ok, ops[k]? = some ok → k ≠ i → (listed.setIfInBounds j true).getD k true = false →
          (∀ e ∈ ok.after, Region.binds .any e = true → e.on ≠ i) → oi.apart ops ok = true := fun k ok hk hki hun hno => by
        refine hfree k ok hk hki ?_ hno
        by_cases hjk : j = k
        · subst hjk; exact hjun
        · rw [getD_set_ne true hjk] at hun; exact hun
      refine wpOp_mono (fun a' w' h3 => ⟨h3.2.1, ih (listed.setIfInBounds j true) a' w' hfree' (ready_mono hr (Ne.symm hji)) (h3.1.world h3.2.1) ?_⟩) h2
      rw [Array.setIfInBounds_comm _ _ hji]
      exact h3.2.2
/-- The walk in the order of the text. -/
def wpMix (P : Program) (ops : Array Oper) (Q : Exit → Act → World → Prop) : List Oper → Nat → Array Bool → Act → World → Prop
  | [], _, _, a, W => ∀ w, Ext W w → Q .normal a w
  | o :: rest, k, listed, a, W =>
    (∃ v, QY P ops W o v a ∧ wpMix P ops Q rest (k + 1) (listed.setIfInBounds k true) (a.put o.dst v) W) ∨
    (Region.ready .any ops listed = [k] ∧ Region.wanted o (yielded ops a.tmps) = true ∧ ∀ w, Ext W w → o.wp P a w (fun a' w' => Ext w w' ∧ wpMix P ops Q rest (k + 1) (listed.setIfInBounds k true) a' w') Q)
theorem mix_sound (hs : Region.noSelect ops = true) (hQ : ∀ c a d v w, Q (.panic c) (a.put d v) w → Q (.panic c) a w) : ∀ (l : List Oper) (k : Nat) (listed : Array Bool) (a : Act) (W : World), (∀ j, l[j]? = ops[k + j]?) →
    Region.lexFrom .any ops l.length k listed = true → wpMix P ops Q l k listed a W → GO P ops Q l.length listed a W
  | [], _, _, _, _, _, hB, h => ⟨by simpa [Region.lexFrom] using hB, h⟩
  | o :: l, k, listed, a, W, hl, hB, h => by
    have h0 : ops[k]? = some o := by simpa using (hl 0).symm
    simp only [List.length_cons, Region.lexFrom, Bool.and_eq_true] at hB
    obtain ⟨⟨hr, hf⟩, hB'⟩ := hB
    have hl' : ∀ j, l[j]? = ops[k + 1 + j]? := fun j => by have := hl (j + 1); simpa [Nat.add_assoc, Nat.add_comm 1 j] using this
    rcases h with ⟨v, hy, hK⟩ | ⟨hone, hwa, hK⟩
    · exact GO_first h0 (Region.noSelect_spec hs) (fun c a w => hQ c a _ _ w) l.length listed a W (Region.free_spec h0 hf) (by simpa using hr) hy (mix_sound hs hQ l (k + 1) _ _ _ hl' hB' hK)
    · intro w hw
      refine ⟨fun h => by rw [hone] at h; simp at h, fun i hi => ?_⟩
      rw [hone] at hi
      obtain rfl : i = k := by simpa using hi
      unfold wpOp
      simp only [h0, hwa, if_true]
      left
      exact Oper.wp_mono (fun a' w' h' => ⟨h'.1, mix_sound hs hQ l (i + 1) _ _ _ hl' hB' h'.2⟩) (hK w hw)
theorem region_mix {id : Nat} {a : Act} {w : World} {l : List Oper} (hm : P.follows .mixedOrders = true) (hB : Region.lexB .any l.toArray = true) (hQ : ∀ c a d v w, Q (.panic c) (a.put d v) w → Q (.panic c) a w)
    (h : wpMix P l.toArray Q l 0 (Array.replicate l.length false) a w) : (Code.region id l.toArray true).wp P Q a w := by
  simp only [Region.lexB, Bool.and_eq_true] at hB
  refine wp_region_any hm ?_
  have h2 := mix_sound hB.1 hQ l 0 (Array.replicate l.length false) a w (by simp) (by simpa using hB.2) h
  have h3 := (h2.world ((Below.refl _ _).drew : Ext w w.drew)).any
  simpa using h3
section
variable {o : Oper} {rest : List Oper} {k : Nat} {listed : Array Bool} {a : Act} {W : World}
theorem mix_nil (h : ∀ w, Ext W w → Q .normal a w) : wpMix P ops Q [] k listed a W := h
theorem mix_skip (hw : Region.wanted o (yielded ops a.tmps) = false) (hn : wpMix P ops Q rest (k + 1) (listed.setIfInBounds k true) (a.put o.dst undef) W) : wpMix P ops Q (o :: rest) k listed a W :=
  .inl ⟨undef, .inr ⟨hw, rfl⟩, hn⟩
theorem mix_skip_t {j d : Nat} {v : Value} (hg : o.guard = some (j, true)) (hd : (ops[j]?).bind (·.dst) = some d) (hv : a.tmps.toList[d]? = some v) (hb : v = .bool false) (hn : wpMix P ops Q rest (k + 1) (listed.setIfInBounds k true) (a.put o.dst undef) W) : wpMix P ops Q (o :: rest) k listed a W :=
  mix_skip (by simp [Region.wanted, hg, yields_bool hd hv hb]) hn
theorem mix_skip_f {j d : Nat} {v : Value} (hg : o.guard = some (j, false)) (hd : (ops[j]?).bind (·.dst) = some d) (hv : a.tmps.toList[d]? = some v) (hb : v = .bool true) (hn : wpMix P ops Q rest (k + 1) (listed.setIfInBounds k true) (a.put o.dst undef) W) : wpMix P ops Q (o :: rest) k listed a W :=
  mix_skip (by simp [Region.wanted, hg, yields_bool hd hv hb]) hn
theorem mix_skip_u {j d : Nat} {v : Value} {b : Bool} (hg : o.guard = some (j, b)) (hd : (ops[j]?).bind (·.dst) = some d) (hv : a.tmps.toList[d]? = some v) (hb : v = undef) (hn : wpMix P ops Q rest (k + 1) (listed.setIfInBounds k true) (a.put o.dst undef) W) : wpMix P ops Q (o :: rest) k listed a W :=
  mix_skip (by simp [Region.wanted, hg, yields_undef hd hv hb]) hn
theorem mix_take {v : Value} (hw : Region.wanted o (yielded ops a.tmps) = true) (h : ∀ w, Ext W w → ∀ R : Value → Prop, R v → qUp P w w R ((execOp a.eval o).run P w))
    (hn : wpMix P ops Q rest (k + 1) (listed.setIfInBounds k true) (a.put o.dst v) W) : wpMix P ops Q (o :: rest) k listed a W :=
  .inl ⟨v, .inl ⟨hw, fun w hw => qUp_quiet (h w hw)⟩, hn⟩
theorem mix_alone (hr : Region.ready .any ops listed = [k]) (hw : Region.wanted o (yielded ops a.tmps) = true)
    (h : ∀ w, Ext W w → ∀ K : Act → World → Prop, (∀ a' w', Ext w w' → wpMix P ops Q rest (k + 1) (listed.setIfInBounds k true) a' w' → K a' w') → o.wp P a w K Q) : wpMix P ops Q (o :: rest) k listed a W :=
  .inr ⟨hr, hw, fun w hw => h w hw _ fun _ _ h1 h2 => ⟨h1, h2⟩⟩
end
theorem mcall {f : FuncId} {args : Array Value} {w : World} {R : Value → Prop} {v : Value} (h : Calls P f args w fun e w' => e = .returned v ∧ Ext w w') (hR : R v) : Calls P f args w (qPost w R) :=
  h.mono fun _ _ ⟨he, hx⟩ => ⟨⟨v, he, hR⟩, hx⟩
theorem mcall_same {f : FuncId} {args : Array Value} {w : World} {R : Value → Prop} {v : Value} (h : Calls P f args w fun e w' => e = .returned v ∧ w = w') (hR : R v) : Calls P f args w (qPost w R) :=
  h.mono fun _ _ ⟨he, hx⟩ => ⟨⟨v, he, hR⟩, hx ▸ Below.refl _ _⟩
end
end Go.Proofs.Ytflbpkgnadjokaa
