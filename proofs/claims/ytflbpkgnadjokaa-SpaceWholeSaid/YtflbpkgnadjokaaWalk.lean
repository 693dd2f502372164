/- A region that draws its order, and whose operations read, or call what only extends the world, is walked once, in the order of the text. -/
import Derived.Test.YtflbpkgnadjokaaMem
import Derived.Tactics2
import Derived.WalkLawsBesides
import Derived.WalkSpells
import Derived.KernelRfl
import Derived.Deep.QuietTactic
import Derived.BigQuiet
import Derived.Outline
import Derived.Lib.Hide
import Derived.Deep.LoopGhost
import Derived.Deep.DeepFit
namespace Go.Proofs.Ytflbpkgnadjokaa
open Go Go.RowKit
def qPost (W : World) (R : Value → Prop) (e : Ending) (w' : World) : Prop := (∃ u, e = .returned u ∧ R u) ∧ Ext W w'
def qUp (P : Program) (W w : World) (R : Value → Prop) : Result Next → Prop
  | .ok (.value u) w' => w' = w ∧ R u
  | .ok .skip w' => w' = w ∧ R undef
  | .ok (.enter f args) w' => w' = w ∧ Calls P f args w (qPost W R)
  | _ => False
attribute [go_sem] qUp
section
variable {P : Program} {ops : Array Oper} {W : World} {Q : Act → Prop} {o : Oper} {rest : List Oper} {a : Act}
theorem qUp_quiet {w : World} {v : Value} {r : Result Next} (h : ∀ R : Value → Prop, R v → qUp P W w R r) : Oper.quietUpon P (Ext W) w v r := by
  have h1 := h (· = v) rfl
  unfold qUp at h1
  unfold Oper.quietUpon
  split at h1
  · exact h1
  · exact ⟨h1.1, h1.2.symm⟩
  · refine ⟨h1.1, h1.2.mono ?_⟩
    rintro e w' ⟨⟨u, rfl, rfl⟩, hw⟩
    exact ⟨rfl, hw⟩
  · exact h1.elim
theorem quiet_take {v : Value} (hw : Region.wanted o (yielded ops a.tmps) = true) (h : ∀ w, Ext W w → ∀ R : Value → Prop, R v → qUp P W w R ((execOp a.eval o).run P w))
    (hn : wpQuiet P ops (Ext W) Q rest (a.put o.dst v)) : wpQuiet P ops (Ext W) Q (o :: rest) a := by
  unfold wpQuiet
  rw [if_pos hw]
  exact ⟨v, fun w hC => qUp_quiet (h w hC), hn⟩
theorem quiet_skip (hw : Region.wanted o (yielded ops a.tmps) = false) (hn : wpQuiet P ops (Ext W) Q rest (a.put o.dst undef)) : wpQuiet P ops (Ext W) Q (o :: rest) a := by
  unfold wpQuiet
  rw [if_neg (by rw [hw]; simp)]
  exact hn
section
variable {j d : Nat} {v : Value} {W : World} {Q : Act → Prop}
theorem yields_bool {b : Bool} (hd : (ops[j]?).bind (·.dst) = some d) (hv : a.tmps.toList[d]? = some v) (hb : v = .bool b) : yielded ops a.tmps j = some b := by
  subst hb
  rw [Array.getElem?_toList] at hv
  simp [yielded, hd, hv]
theorem yields_undef (hd : (ops[j]?).bind (·.dst) = some d) (hv : a.tmps.toList[d]? = some v) (hb : v = undef) : yielded ops a.tmps j = none := by
  subst hb
  rw [Array.getElem?_toList] at hv
  simp [yielded, hd, hv, undef]
theorem skip_t (hg : o.guard = some (j, true)) (hd : (ops[j]?).bind (·.dst) = some d) (hv : a.tmps.toList[d]? = some v) (hb : v = .bool false) (hn : wpQuiet P ops (Ext W) Q rest (a.put o.dst undef)) : wpQuiet P ops (Ext W) Q (o :: rest) a :=
  quiet_skip (by simp [Region.wanted, hg, yields_bool hd hv hb]) hn
theorem skip_f (hg : o.guard = some (j, false)) (hd : (ops[j]?).bind (·.dst) = some d) (hv : a.tmps.toList[d]? = some v) (hb : v = .bool true) (hn : wpQuiet P ops (Ext W) Q rest (a.put o.dst undef)) : wpQuiet P ops (Ext W) Q (o :: rest) a :=
  quiet_skip (by simp [Region.wanted, hg, yields_bool hd hv hb]) hn
theorem skip_u {b : Bool} (hg : o.guard = some (j, b)) (hd : (ops[j]?).bind (·.dst) = some d) (hv : a.tmps.toList[d]? = some v) (hb : v = undef) (hn : wpQuiet P ops (Ext W) Q rest (a.put o.dst undef)) : wpQuiet P ops (Ext W) Q (o :: rest) a :=
  quiet_skip (by simp [Region.wanted, hg, yields_undef hd hv hb]) hn
theorem want_0 (hg : o.guard = none) : Region.wanted o (yielded ops a.tmps) = true := by simp [Region.wanted, hg]
theorem want_b {b : Bool} (hg : o.guard = some (j, b)) (hd : (ops[j]?).bind (·.dst) = some d) (hv : a.tmps.toList[d]? = some v) (hb : v = .bool b) : Region.wanted o (yielded ops a.tmps) = true := by
  simp [Region.wanted, hg, yields_bool hd hv hb]
end
theorem callq {f : FuncId} {args : Array Value} {w : World} {R : Value → Prop} {v : Value} (hw : Ext W w) (h : Calls P f args w fun e w' => e = .returned v ∧ Ext w w') (hR : R v) : Calls P f args w (qPost W R) :=
  h.mono fun _ _ ⟨he, hx⟩ => ⟨⟨v, he, hR⟩, hw.trans (hx.mono hw.size)⟩
theorem callq_same {f : FuncId} {args : Array Value} {w : World} {R : Value → Prop} {v : Value} (hw : Ext W w) (h : Calls P f args w fun e w' => e = .returned v ∧ w = w') (hR : R v) : Calls P f args w (qPost W R) :=
  h.mono fun _ _ ⟨he, hx⟩ => ⟨⟨v, he, hR⟩, hx ▸ hw⟩
theorem region_ext {id : Nat} {Q : Exit → Act → World → Prop} {w : World} {l : List Oper} (hm : P.follows .mixedOrders = true) (hB : Region.lexB .any l.toArray = true)
    (h : wpQuiet P l.toArray (Ext w) (fun a' => ∀ w', Ext w w' → Q .normal a' w') l a) : (Code.region id l.toArray true).wp P Q a w :=
  wp_region_quiet (C := Ext w) hm hB (Below.refl _ _).drew (by simpa using h)
end
section
variable {P : Program} {ops : Array Oper} {w : World} {Q : Exit → Act → World → Prop} {a : Act} {n : Nat} {listed : Array Bool}
/-- The region, order by order: its beginning. -/
theorem region_any {id : Nat} {l : List Oper} (hm : P.follows .mixedOrders = true)
    (h : wpAny P .any l.toArray Q l.length (Array.replicate l.length false) a w.drew) : (Code.region id l.toArray true).wp P Q a w :=
  wp_region_any hm (by simpa using h)
/-- One operation alone can come next. -/
theorem any_one (k : Nat) {o : Oper} {r : List Nat} (hr : Region.ready .any ops listed = r) (hk : r = [k]) (ho : ops[k]? = some o)
    (h : ∀ K' : Act → World → Prop, (∀ a w, wpAny P .any ops Q n (listed.setIfInBounds k true) a w → K' a w) → if Region.wanted o (yielded ops a.tmps) then o.wp P a w K' Q else K' (a.put o.dst undef) w) :
    wpAny P .any ops Q (n + 1) listed a w := by
  have h := h _ (fun _ _ h => h)
  subst hk
  refine ⟨fun h0 => by rw [hr] at h0; simp at h0, fun i hi => ?_⟩
  rw [hr] at hi
  obtain rfl : i = k := by simpa using hi
  unfold wpOp
  simp only [ho]
  split
  · rename_i hw; rw [if_pos hw] at h; exact .inl h
  · rename_i hw; rw [if_neg hw] at h; exact h
/-- One of two operations can come next. -/
theorem any_two (j k : Nat) {p o : Oper} {r : List Nat} (hr : Region.ready .any ops listed = r) (hk : r = [j, k]) (hp : ops[j]? = some p) (ho : ops[k]? = some o)
    (h1 : ∀ K' : Act → World → Prop, (∀ a w, wpAny P .any ops Q n (listed.setIfInBounds j true) a w → K' a w) → if Region.wanted p (yielded ops a.tmps) then p.wp P a w K' Q else K' (a.put p.dst undef) w)
    (h2 : ∀ K' : Act → World → Prop, (∀ a w, wpAny P .any ops Q n (listed.setIfInBounds k true) a w → K' a w) → if Region.wanted o (yielded ops a.tmps) then o.wp P a w K' Q else K' (a.put o.dst undef) w) :
    wpAny P .any ops Q (n + 1) listed a w := by
  have h1 := h1 _ (fun _ _ h => h)
  have h2 := h2 _ (fun _ _ h => h)
  subst hk
  refine ⟨fun h0 => by rw [hr] at h0; simp at h0, fun i hi => ?_⟩
  rw [hr] at hi
  simp at hi
  rcases hi with rfl | rfl
  · unfold wpOp
    simp only [hp]
    split
    · rename_i hw; rw [if_pos hw] at h1; exact .inl h1
    · rename_i hw; rw [if_neg hw] at h1; exact h1
  · unfold wpOp
    simp only [ho]
    split
    · rename_i hw; rw [if_pos hw] at h2; exact .inl h2
    · rename_i hw; rw [if_neg hw] at h2; exact h2
/-- From operation k on all are quiet: one walk in the order of the text. -/
theorem any_quiet (k : Nat) {l : List Oper} (hn : (l.drop k).length = n) (hs : Region.noSelect l.toArray = true) (hB : Region.lexFrom .any l.toArray n k listed = true)
    (h : wpQuiet P l.toArray (Ext w) (fun a' => ∀ w', Ext w w' → Q .normal a' w') (l.drop k) a) : wpAny P .any l.toArray Q n listed a w := by
  subst hn
  refine wpAny_of_quiet (C := Ext w) (Q := fun a' => ∀ w', Ext w w' → Q .normal a' w') (fun _ w' hw' h => h w' hw') _ _ _ _ (Below.refl _ _) ?_
  exact wpAnyQ_lex hs _ k listed a (fun j => by simp) hB h
/-- All is done. -/
theorem any_done (hr : Region.ready .any ops listed = []) (h : Q .normal a w) : wpAny P .any ops Q 0 listed a w := ⟨hr, h⟩
end
theorem ret_int {k : IntKind} {a b : Int} (h : a = b) : Ending.returned (.int k a) = .returned (.int k b) := by rw [h]
theorem ret_bool {a b : Bool} (h : a = b) : Ending.returned (.bool a) = .returned (.bool b) := by rw [h]
end Go.Proofs.Ytflbpkgnadjokaa
