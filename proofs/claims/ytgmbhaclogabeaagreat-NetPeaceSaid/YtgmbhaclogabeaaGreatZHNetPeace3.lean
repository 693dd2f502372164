/- Texts of this work, joined: Brg, Within, CidrR, Cidr2a, Mix, Cidr2, Cidr4, BrgC, Pfx, Vpc1, Vpc2, Vpc3, Read, Srt, LV2, Vpc6, VpcR1, DatN, Net1, Net2, Net3. -/
import Derived.Test.YtgmbhaclogabeaaGreatZHNetPeace2
import Derived.Deep.RegionHeld3
import Derived.Deep.Slices
import Derived.Deep.Fields
import Derived.ChangeSame
import Derived.OpenShut
import Derived.ProofKit
import Derived.Carry
import Derived.ChangeMaps5
import Derived.DataShut
import Derived.Shelf.SlSortCmp.WholeK
import Derived.Test.YtgmbhaclogabeaaGreatShelf
set_option linter.unusedSimpArgs false
set_option linter.unusedVariables false
namespace Go.Proofs.YtgmbhaclogabeaaGreat
open Go Go.RowKit
def dval0 : D → Value
  | .v x => x
  | _ => undef
def dval1 : D → Value
  | .v x => x
  | .agg l => .agg (l.map dval0).toArray
  | _ => undef
def dval : D → Value
  | .v x => x
  | .agg l => .agg (l.map dval0).toArray
  | .tup l => .tuple (l.map dval1).toArray
  | _ => undef
theorem ext_list {vs : List Value} {ds : List D} {f : D → Value} (hl : ds.length = vs.length) (h : ∀ (j : Nat) (d : D) (x : Value), ds[j]? = some d → vs[j]? = some x → x = f d) : vs = ds.map f := by
  apply List.ext_getElem?
  intro j
  rw [List.getElem?_map]
  cases hd : ds[j]? with
  | none =>
    have : ds.length ≤ j := by simpa using hd
    rw [List.getElem?_eq_none (by omega)]; rfl
  | some d =>
    have hlt : j < vs.length := by rw [← hl]; exact (List.getElem?_eq_some_iff.1 hd).1
    rw [List.getElem?_eq_getElem hlt, h j d _ hd (List.getElem?_eq_getElem hlt)]; rfl
theorem isV_val {M : Nat → Prop} {w : World} {d : D} {v : Value} (h : RepD M w d v) (hf : d.isV = true) : v = dval0 d := by
  cases d <;> simp [D.isV] at hf
  cases h
  rfl
theorem flat_val {M : Nat → Prop} {w : World} {d : D} {v : Value} (h : RepD M w d v) (hf : d.flat = true) : v = dval d := by
  cases h with
  | v => rfl
  | agg cells vs hl h1 hrep =>
    simp only [D.flat, List.all_eq_true] at hf
    rw [ext_list (f := dval0) hl fun j d x hj hx => isV_val (hrep j d x hj hx) (hf d (List.mem_of_getElem? hj))]
    rfl
  | tup ds vs hl hrep =>
    simp only [D.flat, List.all_eq_true] at hf
    rw [ext_list (f := dval1) hl fun j d x hj hx => ?_]
    · rfl
    · have h0 := hrep j d x hj hx
      have h1 := hf d (List.mem_of_getElem? hj)
      cases h0 with
      | v => rfl
      | agg cells us hl' h1' hrep' =>
        simp only [List.all_eq_true] at h1
        rw [ext_list (f := dval0) hl' fun j d x hj hx => isV_val (hrep' j d x hj hx) (h1 d (List.mem_of_getElem? hj))]
        rfl
      | _ => simp at h1
  | _ => simp [D.flat] at hf
def D.aggOK : D → Bool
  | .agg l => l.all D.one
  | .tup l => l.all fun d => match d with | .agg l => l.all D.one | _ => true
  | _ => true
theorem map_rep {M : Nat → Prop} {w : World} (ds : List D) (hf : ∀ d ∈ ds, d.isV = true) : ∀ (j : Nat) (d : D) (x : Value), ds[j]? = some d → (ds.map dval0)[j]? = some x → RepD M w d x := by
  intro j d x hj hx
  rw [List.getElem?_map, hj] at hx
  cases hx
  have := hf d (List.mem_of_getElem? hj)
  cases d <;> simp [D.isV] at this
  exact .v _
theorem flat_mk {M : Nat → Prop} {w : World} {d : D} (hf : d.flat = true) (h1 : d.aggOK = true) : RepD M w d (dval d) := by
  cases d with
  | v x => exact .v x
  | agg l =>
    simp only [D.flat, List.all_eq_true] at hf
    simp only [D.aggOK, List.all_eq_true] at h1
    exact .agg l _ (by simp) h1 (map_rep l hf)
  | tup l =>
    simp only [D.flat, List.all_eq_true] at hf
    simp only [D.aggOK, List.all_eq_true] at h1
    refine .tup l _ (by simp) fun j d x hj hx => ?_
    rw [List.getElem?_map, hj] at hx
    cases hx
    have h2 := hf d (List.mem_of_getElem? hj)
    have h3 := h1 d (List.mem_of_getElem? hj)
    cases d with
    | v x => exact .v x
    | agg l' =>
      simp only [List.all_eq_true] at h2 h3
      exact .agg l' _ (by simp) h3 (map_rep l' h2)
    | _ => simp at h2
  | _ => simp [D.flat] at hf
theorem pspec_flat {P : Program} {f : Nat} {ds : List D} {r : D} (hn : FnOK P f) (hf : ∀ d ∈ ds, d.flat = true) (hr : r.flat = true) (hr1 : r.aggOK = true) (h : ∀ w, Calls P f (ds.map dval).toArray w fun e w' => e = .returned (dval r) ∧ Ext w w') : PSpec P f ds r := by
  refine ⟨hn, fun M w vs _ hds => ?_⟩
  rw [ext_list (f := dval) hds.1 fun j d x hj hx => flat_val (hds.2 j d x hj hx) (hf d (List.mem_of_getElem? hj))]
  exact (h w).mono fun e w' ⟨he, hx⟩ => ⟨dval r, he, flat_mk hr hr1, hx⟩
end Go.Proofs.YtgmbhaclogabeaaGreat
namespace Go.Proofs.YtgmbhaclogabeaaGreat
open Go Go.RowKit Go.Proofs
set_option maxRecDepth 100000
def within (n lo hi : Int) : Bool := decide (lo ≤ n) && decide (n ≤ hi)
end Go.Proofs.YtgmbhaclogabeaaGreat
namespace Go.Proofs.YtgmbhaclogabeaaGreat
open Go Go.RowKit Go.Proofs
set_option maxRecDepth 100000
def szI (n : Int) : Int := 2 ^ (16 - n).toNat
theorem szI_bd {n : Int} (h0 : 0 ≤ n) : 1 ≤ szI n ∧ szI n ≤ 65536 := by have := pow_bd n h0; unfold szI; omega
def lastI (a l : Int) : Int := a + szI l - 1
def rightB (a l : Int) : Bool := chk a l == 0
def holdB (a l x : Int) : Bool := rightB a l && within x a (lastI a l)
theorem right_bd {a l : Int} (h : rightB a l = true) : 0 ≤ l ∧ l ≤ 16 ∧ 0 ≤ a ∧ a ≤ 65535 ∧ a % szI l = 0 := by
  have h0 : chk a l = 0 := by simpa [rightB] using h
  unfold chk at h0
  split at h0
  · omega
  · rename_i h1
    split at h0
    · rename_i h2; exact ⟨by omega, by omega, by omega, by omega, h2⟩
    · omega
end Go.Proofs.YtgmbhaclogabeaaGreat
namespace Go.Proofs.YtgmbhaclogabeaaGreat
open Go Go.RowKit Go.Proofs
set_option maxRecDepth 100000
theorem cellsAt_cons {w : World} {b off : Nat} {c : Value} {cs : List Value} (h : w.cell? ⟨b, off, none⟩ = some c) (hs : cellsAt w b (off + 1) cs) : cellsAt w b off (c :: cs) := by
  intro i hi
  match i with
  | 0 => simpa using h
  | i + 1 => have := hs i (by simpa using hi); simpa [Nat.add_assoc, Nat.add_comm 1 i] using this
theorem cellsAt_nil {w : World} {b off : Nat} : cellsAt w b off [] := fun i hi => absurd hi (by simp)
theorem right1 {w : World} {b : Nat} (a l : Int) (v : Bool) (hv : rightB a l = v) (h0 : w.cell? ⟨b, 0, none⟩ = some (.int .i64 a)) (h1 : w.cell? ⟨b, 1, none⟩ = some (.int .i64 l)) :
    Calls Tryz.prog 123 #[.slice (some ⟨b, 0, none⟩) 1 1] w fun e w' => e = .returned (.bool v) ∧ Ext w w' := by
  have h : Sl (fun _ => True) w 2 Pfx.R (some ⟨b, 0, none⟩) 1 [(⟨a, l⟩ : Pfx)] := by
    refine ⟨by simp, by omega, fun i hi => ?_⟩
    match i with
    | 0 => exact ⟨b, 0, _, rfl, trivial, rfl, rfl, cellsAt_cons h0 (cellsAt_cons h1 cellsAt_nil)⟩
  refine (right_any h).mono fun e w' hh => ⟨hh.1.trans (ret_bool ?_), hh.2⟩
  rw [← hv]; simp [rightB, Pfx.chk]
theorem right2 {w : World} {b : Nat} (a l c m : Int) (v : Bool) (hv : (rightB a l && rightB c m) = v) (h0 : w.cell? ⟨b, 0, none⟩ = some (.int .i64 a)) (h1 : w.cell? ⟨b, 1, none⟩ = some (.int .i64 l))
    (h2 : w.cell? ⟨b, 2, none⟩ = some (.int .i64 c)) (h3 : w.cell? ⟨b, 3, none⟩ = some (.int .i64 m)) :
    Calls Tryz.prog 123 #[.slice (some ⟨b, 0, none⟩) 2 2] w fun e w' => e = .returned (.bool v) ∧ Ext w w' := by
  have h : Sl (fun _ => True) w 2 Pfx.R (some ⟨b, 0, none⟩) 2 [(⟨a, l⟩ : Pfx), ⟨c, m⟩] := by
    refine ⟨by simp, by omega, fun i hi => ?_⟩
    match i with
    | 0 => exact ⟨b, 0, _, rfl, trivial, rfl, rfl, cellsAt_cons h0 (cellsAt_cons h1 cellsAt_nil)⟩
    | 1 => exact ⟨b, 0, _, rfl, trivial, rfl, rfl, cellsAt_cons h2 (cellsAt_cons h3 cellsAt_nil)⟩
  refine (right_any h).mono fun e w' hh => ⟨hh.1.trans (ret_bool ?_), hh.2⟩
  rw [← hv]; simp [rightB, Pfx.chk]
theorem bv_andnot (x y : BitVec 64) : (x &&& ~~~y).toNat = x.toNat - (x &&& y).toNat := by
  have h1 : (x &&& ~~~y) &&& (x &&& y) = 0#64 := by
    ext i hi
    simp only [BitVec.getElem_and, BitVec.getElem_not, BitVec.getElem_zero]
    cases x[i] <;> cases y[i] <;> rfl
  have h2 : (x &&& ~~~y) + (x &&& y) = x := by
    rw [BitVec.add_eq_or_of_and_eq_zero _ _ h1]
    ext i hi
    simp only [BitVec.getElem_and, BitVec.getElem_not, BitVec.getElem_or]
    cases x[i] <;> cases y[i] <;> rfl
  have h4 := BitVec.toNat_add_of_and_eq_zero h1
  rw [h2] at h4
  omega
theorem andnot_msk (a l : Int) (h0 : 0 ≤ a) (h1 : a ≤ 65535) (h2 : 0 ≤ l) : bits .andNot .i64 a (msk l) = a - a % szI l := by
  obtain ⟨n, rfl⟩ := Int.eq_ofNat_of_zero_le h0
  have hm := msk_bd l h2
  rw [msk_nat] at hm ⊢
  show IntKind.i64.wrap ((BitVec.ofInt 64 (n : Int) &&& ~~~ BitVec.ofInt 64 _).toNat : Int) = _
  rw [bv_andnot, BitVec.toNat_and, ofInt_i64 n (by omega), ofInt_i64 _ (by omega), Nat.and_two_pow_sub_one_eq_mod, IntKind.wrap_i64]
  have := Nat.mod_le n (2 ^ (16 - l).toNat)
  unfold szI
  have h9 : ((n : Int) % 2 ^ (16 - l).toNat) = ((n % 2 ^ (16 - l).toNat : Nat) : Int) := by simp
  omega
def sizeI (a l : Int) : Int := if rightB a l = true then szI l else 0
set_option maxHeartbeats 400000 in
theorem size_any (a l : Int) (w : World) :
    Calls Tryz.prog 137 #[.agg #[.int .i64 a, .int .i64 l]] w fun e w' => e = .returned (.int .i64 (sizeI a l)) ∧ Ext w w' := by
  cases hA : rightB a l
  case false =>
    have hs : sizeI a l = 0 := by simp [sizeI, hA]
    rw [hs]
    have hv := Lib.hid hA
    go_enter Tryz.func137, Tryz.ntmps137
    go_wp2_with (first | (go_at_call 123; refine (right1 a l _ hv.out ?_ ?_).mono ?_; go_simp; go_simp; rintro e w1 ⟨rfl, hw1⟩))
    go_ret
    refine ⟨rfl, Bel.bel (B := _) ?_⟩
    (repeat (first | with_reducible assumption | with_reducible exact Bel.refl _ | with_reducible refine Bel.alloc ?_ _ | with_reducible refine Bel.drewN ?_ _ | with_reducible refine Bel.drew ?_ | (with_reducible refine Bel.setCell0 ?_ ?_ _; rotate_left; (first | omega | (simp; done) | (simp; omega))) | (with_reducible refine Bel.setCell ?_ (p := _) ?_ _; rotate_left; (first | (simp; done) | omega | (simp; omega))) | refine Bel.call ?_ (by assumption) | (refine EX.bel ?_ (by assumption) ?_; rotate_left; (first | omega | (simp; omega)))))
  case true =>
    have hs : sizeI a l = msk l + 1 := by simp [sizeI, hA, msk, szI]
    rw [hs]
    have hv := Lib.hid hA
    obtain ⟨g1, g2, g3, g4, -⟩ := right_bd hA
    obtain ⟨z1, z2⟩ := msk_bd l g1
    go_enter Tryz.func137, Tryz.ntmps137
    go_wp2_with (first | (go_at_call 123; refine (right1 a l _ hv.out ?_ ?_).mono ?_; go_simp; go_simp; rintro e w1 ⟨rfl, hw1⟩; obtain ⟨hcw1, hfw1⟩ := bcell hw1; simp only [World.size_alloc] at hcw1 hfw1) | (go_at_call 88; refine (mask_any _ _ g1 g2).mono ?_; rintro e w2 ⟨rfl, rfl⟩))
    go_ret
    refine ⟨rfl, Bel.bel (B := _) ?_⟩
    (repeat (first | with_reducible assumption | with_reducible exact Bel.refl _ | with_reducible refine Bel.alloc ?_ _ | with_reducible refine Bel.drewN ?_ _ | with_reducible refine Bel.drew ?_ | (with_reducible refine Bel.setCell0 ?_ ?_ _; rotate_left; (first | omega | (simp; done) | (simp; omega))) | (with_reducible refine Bel.setCell ?_ (p := _) ?_ _; rotate_left; (first | (simp; done) | omega | (simp; omega))) | refine Bel.call ?_ (by assumption) | (refine EX.bel ?_ (by assumption) ?_; rotate_left; (first | omega | (simp; omega)))))
end Go.Proofs.YtgmbhaclogabeaaGreat
namespace Go.Proofs.YtgmbhaclogabeaaGreat
open Go Go.RowKit
section
variable {P : Program} {ops : Array Oper} {Q : Exit → Act → World → Prop}
/-- Whatever order is picked, from every world that extends W. -/
def GO (P : Program) (ops : Array Oper) (Q : Exit → Act → World → Prop) : Nat → Array Bool → Act → World → Prop
  | 0, listed, a, W => Region.ready .any ops listed = [] ∧ ∀ w, Ext W w → Q .normal a w
  | fuel + 1, listed, a, W => ∀ w, Ext W w → (Region.ready .any ops listed = [] → Q .normal a w) ∧
      ∀ i ∈ Region.ready .any ops listed, wpOp P ops Q i (fun a' w' => Ext w w' ∧ GO P ops Q fuel (listed.setIfInBounds i true) a' w') a w
theorem GO.world : ∀ {fuel : Nat} {listed : Array Bool} {a : Act} {W W' : World}, Ext W W' → GO P ops Q fuel listed a W → GO P ops Q fuel listed a W'
  | 0, _, _, _, _, hx, h => ⟨h.1, fun w hw => h.2 w (ext_trans hx hw)⟩
  | _ + 1, _, _, _, _, hx, h => fun w hw => h w (ext_trans hx hw)
theorem GO.any : ∀ {fuel : Nat} {listed : Array Bool} {a : Act} {W : World}, GO P ops Q fuel listed a W → wpAny P .any ops Q fuel listed a W
  | 0, _, _, _, h => ⟨h.1, h.2 _ (Below.refl _ _)⟩
  | _ + 1, _, _, W, h => ⟨(h W (Below.refl _ _)).1, fun i hi => wpOp_mono (fun _ _ h' => GO.any h'.2) ((h W (Below.refl _ _)).2 i hi)⟩
/-- In every world that extends W operation o yields v, and at most extends it. -/
def QY (P : Program) (ops : Array Oper) (W : World) (o : Oper) (v : Value) (a : Act) : Prop :=
  (Region.wanted o (yielded ops a.tmps) = true ∧ ∀ w, Ext W w → o.quietAt P a (Ext w) w v) ∨
  (Region.wanted o (yielded ops a.tmps) = false ∧ v = undef)
theorem QY.world {W W' : World} {o : Oper} {v : Value} {a : Act} (hx : Ext W W') (h : QY P ops W o v a) : QY P ops W' o v a :=
  h.imp (fun ⟨h1, h2⟩ => ⟨h1, fun w hw => h2 w (ext_trans hx hw)⟩) id
theorem QY.of_same {W : World} {o : Oper} {v : Value} {a a' : Act} (hy : QY P ops W o v a) (he : execOp a'.eval o = execOp a.eval o)
    (hw : Region.wanted o (yielded ops a'.tmps) = Region.wanted o (yielded ops a.tmps)) : QY P ops W o v a' := by
  unfold QY Oper.quietAt at *
  rw [he, hw]
  exact hy
theorem QY.wpOp {W : World} {i : Nat} {o : Oper} {v : Value} {a : Act} (hi : ops[i]? = some o) (hy : QY P ops W o v a) {K : Act → World → Prop} {w : World} (hw : Ext W w) (h : ∀ w', Ext w w' → K (a.put o.dst v) w') : wpOp P ops Q i K a w := by
  unfold Go.wpOp
  simp only [hi]
  rcases hy with ⟨hwa, hv⟩ | ⟨hwa, rfl⟩
  · simp only [hwa, if_true]
    left
    exact Oper.wp_of_quiet (C := Ext w) (K := fun a' => a' = a.put o.dst v) (Below.refl _ _) (fun a' w' hw' ha => ha ▸ h w' hw') ⟨v, fun w'' hw'' => by
      have := hv w'' (ext_trans hw hw'')
      unfold Oper.quietAt at *
      generalize (execOp a.eval o).run P w'' = r at *
      cases r with
      | ok n u => cases n <;> simp only [Oper.quietUpon] at this ⊢ <;> first | exact this | exact ⟨this.1, this.2.mono fun _ _ ⟨e1, e2⟩ => ⟨e1, ext_trans hw'' e2⟩⟩
      | halt x u => simp only [Oper.quietUpon] at this, rfl⟩
  · simp only [hwa, Bool.false_eq_true, if_false]
    exact h w (Below.refl _ _)
theorem wpOp_putQ {W : World} {j : Nat} {oi oj : Oper} {v : Value} (hj : ops[j]? = some oj) (hap : oi.apart ops oj = true)
    (hsi : ∀ cs b, oi.op ≠ .select cs b) (hsj : ∀ cs b, oj.op ≠ .select cs b)
    (hQ : ∀ c a w, Q (.panic c) (a.put oi.dst v) w → Q (.panic c) a w) {K : Act → World → Prop} {a : Act} {w : World}
    (hy : QY P ops W oi v a) (h : wpOp P ops Q j K (a.put oi.dst v) w) :
    wpOp P ops Q j (fun a' w' => QY P ops W oi v a' ∧ K (a'.put oi.dst v) w') a w := by
  obtain ⟨h1, h2, h3⟩ := Oper.apart_spec hap
  have keep : ∀ (a : Act), QY P ops W oi v a → ∀ u, QY P ops W oi v (a.put oj.dst u) := fun a hy u =>
    hy.of_same (execOp_put oi hsi a oj.dst u h3) (wanted_put oi a oj.dst u h3)
  have keepD : ∀ d, QY P ops W oi v { a with defers := d :: a.defers } := fun d => hy.of_same rfl rfl
  unfold wpOp at *
  simp only [hj] at *
  rw [wanted_put oj a oi.dst v h1] at h
  split
  · rename_i hw
    simp only [hw, if_true] at h
    rcases h with h | ⟨hasks, hlets⟩
    case inr => exact .inr ⟨by unfold Oper.asks at *; rw [execOp_put oj hsj a oi.dst v h1] at hasks; exact hasks, hlets⟩
    refine .inl ?_
    unfold Oper.wp at *
    rw [execOp_put oj hsj a oi.dst v h1] at h
    generalize (execOp a.eval oj).run P w = r at *
    cases r with
    | ok n w' =>
      cases n <;> simp only [Oper.upon] at h ⊢
      case value u => exact ⟨keep a hy u, by rw [← Act.put_comm a v u h2]; exact h⟩
      case skip => exact ⟨keep a hy _, by rw [← Act.put_comm a v undef h2]; exact h⟩
      case defer d =>
        refine ⟨keep _ (keepD d) _, ?_⟩
        rw [← Act.put_comm _ v undef h2, ← Act.put_defers]
        exact h
      case enter f args =>
        refine Calls.mono h fun e w'' he => ?_
        cases e with
        | returned u => exact ⟨keep a hy u, by rw [← Act.put_comm a v u h2]; exact he⟩
        | panicked c => exact hQ _ _ _ he
        | outgrown => exact he
      case row row args => exact Rows.mono h fun u w'' he => ⟨keep a hy u, by rw [← Act.put_comm a v u h2]; exact he⟩
    | halt x w' =>
      cases x <;> simp only [Oper.upon] at h ⊢
      case panic u => exact hQ _ _ _ h
  · rename_i hw
    simp only [hw] at h
    exact ⟨keep a hy _, by rw [← Act.put_comm a v undef h2]; exact h⟩
theorem GO_first {i : Nat} {oi : Oper} {v : Value} (hi : ops[i]? = some oi) (hsel : ∀ (j : Nat) (o : Oper) cs b, ops[j]? = some o → o.op ≠ .select cs b)
    (hQ : ∀ c a w, Q (.panic c) (a.put oi.dst v) w → Q (.panic c) a w) :
    ∀ (fuel : Nat) (listed : Array Bool) (a : Act) (W : World),
      (∀ j oj, ops[j]? = some oj → j ≠ i → listed.getD j true = false → (∀ e ∈ oj.after, Region.binds .any e = true → e.on ≠ i) → oi.apart ops oj = true) →
      i ∈ Region.ready .any ops listed → QY P ops W oi v a →
      GO P ops Q fuel (listed.setIfInBounds i true) (a.put oi.dst v) W → GO P ops Q (fuel + 1) listed a W := by
  intro fuel
  induction fuel with
  | zero =>
    intro listed a W _ hr hy H w hw
    refine ⟨fun h => (by rw [h] at hr; cases hr), fun j hj => ?_⟩
    by_cases hji : j = i
    · subst hji; exact hy.wpOp hi hw fun w' hw' => ⟨hw', H.world (ext_trans hw hw')⟩
    · have := ready_mono hj hji
      rw [H.1] at this
      cases this
  | succ fuel ih =>
    intro listed a W hfree hr hy H w hw
    refine ⟨fun h => (by rw [h] at hr; cases hr), fun j hj => ?_⟩
    by_cases hji : j = i
    · subst hji; exact hy.wpOp hi hw fun w' hw' => ⟨hw', H.world (ext_trans hw hw')⟩
    · have h1 := (H w hw).2 j (ready_mono hj hji)
      obtain ⟨hjun, oj, hoj, hall⟩ := mem_ready.1 hj
      have hnot : ∀ e ∈ oj.after, Region.binds .any e = true → e.on ≠ i := fun e he hb heq => by
        have h1 := hall e he hb
        have h0 := (mem_ready.1 hr).1
        rw [heq] at h1
        rcases Nat.lt_or_ge i listed.size with h' | h'
        · simp [h'] at h0 h1; rw [h0] at h1; cases h1
        · simp [Array.getElem?_eq_none h'] at h1
      have h2 := wpOp_putQ hoj (hfree j oj hoj hji hjun hnot) (fun cs b => hsel i oi cs b hi) (fun cs b => hsel j oj cs b hoj) hQ (hy.world hw) h1
      have hfree' : ∀ k ok, ops[k]? = some ok → k ≠ i → (listed.setIfInBounds j true).getD k true = false →
          (∀ e ∈ ok.after, Region.binds .any e = true → e.on ≠ i) → oi.apart ops ok = true := fun k ok hk hki hun hno => by
        refine hfree k ok hk hki ?_ hno
        by_cases hjk : j = k
        · subst hjk; exact hjun
        · rw [getD_set_ne true hjk] at hun; exact hun
      refine wpOp_mono (fun a' w' h3 => ⟨h3.2.1, ih (listed.setIfInBounds j true) a' w' hfree' (ready_mono hr (Ne.symm hji)) (h3.1.world h3.2.1) ?_⟩) h2
      rw [Array.setIfInBounds_comm _ _ hji]
      exact h3.2.2
/-- The walk in the order of the text. -/
def wpMix (P : Program) (ops : Array Oper) (Q : Exit → Act → World → Prop) : List Oper → Nat → Array Bool → Act → World → Prop
  | [], _, _, a, W => ∀ w, Ext W w → Q .normal a w
  | o :: rest, k, listed, a, W =>
    (∃ v, QY P ops W o v a ∧ wpMix P ops Q rest (k + 1) (listed.setIfInBounds k true) (a.put o.dst v) W) ∨
    (Region.ready .any ops listed = [k] ∧ Region.wanted o (yielded ops a.tmps) = true ∧ ∀ w, Ext W w → o.wp P a w (fun a' w' => Ext w w' ∧ wpMix P ops Q rest (k + 1) (listed.setIfInBounds k true) a' w') Q)
theorem mix_sound (hs : Region.noSelect ops = true) (hQ : ∀ c a d v w, Q (.panic c) (a.put d v) w → Q (.panic c) a w) : ∀ (l : List Oper) (k : Nat) (listed : Array Bool) (a : Act) (W : World), (∀ j, l[j]? = ops[k + j]?) →
    Region.lexFrom .any ops l.length k listed = true → wpMix P ops Q l k listed a W → GO P ops Q l.length listed a W
  | [], _, _, _, _, _, hB, h => ⟨by simpa [Region.lexFrom] using hB, h⟩
  | o :: l, k, listed, a, W, hl, hB, h => by
    have h0 : ops[k]? = some o := by simpa using (hl 0).symm
    simp only [List.length_cons, Region.lexFrom, Bool.and_eq_true] at hB
    obtain ⟨⟨hr, hf⟩, hB'⟩ := hB
    have hl' : ∀ j, l[j]? = ops[k + 1 + j]? := fun j => by have := hl (j + 1); simpa [Nat.add_assoc, Nat.add_comm 1 j] using this
    rcases h with ⟨v, hy, hK⟩ | ⟨hone, hwa, hK⟩
    · exact GO_first h0 (Region.noSelect_spec hs) (fun c a w => hQ c a _ _ w) l.length listed a W (Region.free_spec h0 hf) (by simpa using hr) hy (mix_sound hs hQ l (k + 1) _ _ _ hl' hB' hK)
    · intro w hw
      refine ⟨fun h => by rw [hone] at h; simp at h, fun i hi => ?_⟩
      rw [hone] at hi
      obtain rfl : i = k := by simpa using hi
      unfold wpOp
      simp only [h0, hwa, if_true]
      left
      exact Oper.wp_mono (fun a' w' h' => ⟨h'.1, mix_sound hs hQ l (i + 1) _ _ _ hl' hB' h'.2⟩) (hK w hw)
theorem region_mix {id : Nat} {a : Act} {w : World} {l : List Oper} (hm : P.follows .mixedOrders = true) (hB : Region.lexB .any l.toArray = true) (hQ : ∀ c a d v w, Q (.panic c) (a.put d v) w → Q (.panic c) a w)
    (h : wpMix P l.toArray Q l 0 (Array.replicate l.length false) a w) : (Code.region id l.toArray true).wp P Q a w := by
  simp only [Region.lexB, Bool.and_eq_true] at hB
  refine wp_region_any hm ?_
  have h2 := mix_sound hB.1 hQ l 0 (Array.replicate l.length false) a w (by simp) (by simpa using hB.2) h
  have h3 := (h2.world ((Below.refl _ _).drew : Ext w w.drew)).any
  simpa using h3
section
variable {o : Oper} {rest : List Oper} {k : Nat} {listed : Array Bool} {a : Act} {W : World}
theorem mix_nil (h : ∀ w, Ext W w → Q .normal a w) : wpMix P ops Q [] k listed a W := h
theorem mix_skip (hw : Region.wanted o (yielded ops a.tmps) = false) (hn : wpMix P ops Q rest (k + 1) (listed.setIfInBounds k true) (a.put o.dst undef) W) : wpMix P ops Q (o :: rest) k listed a W :=
  .inl ⟨undef, .inr ⟨hw, rfl⟩, hn⟩
theorem mix_skip_t {j d : Nat} {v : Value} (hg : o.guard = some (j, true)) (hd : (ops[j]?).bind (·.dst) = some d) (hv : a.tmps.toList[d]? = some v) (hb : v = .bool false) (hn : wpMix P ops Q rest (k + 1) (listed.setIfInBounds k true) (a.put o.dst undef) W) : wpMix P ops Q (o :: rest) k listed a W :=
  mix_skip (by simp [Region.wanted, hg, yields_bool hd hv hb]) hn
theorem mix_skip_f {j d : Nat} {v : Value} (hg : o.guard = some (j, false)) (hd : (ops[j]?).bind (·.dst) = some d) (hv : a.tmps.toList[d]? = some v) (hb : v = .bool true) (hn : wpMix P ops Q rest (k + 1) (listed.setIfInBounds k true) (a.put o.dst undef) W) : wpMix P ops Q (o :: rest) k listed a W :=
  mix_skip (by simp [Region.wanted, hg, yields_bool hd hv hb]) hn
theorem mix_skip_u {j d : Nat} {v : Value} {b : Bool} (hg : o.guard = some (j, b)) (hd : (ops[j]?).bind (·.dst) = some d) (hv : a.tmps.toList[d]? = some v) (hb : v = undef) (hn : wpMix P ops Q rest (k + 1) (listed.setIfInBounds k true) (a.put o.dst undef) W) : wpMix P ops Q (o :: rest) k listed a W :=
  mix_skip (by simp [Region.wanted, hg, yields_undef hd hv hb]) hn
theorem mix_take {v : Value} (hw : Region.wanted o (yielded ops a.tmps) = true) (h : ∀ w, Ext W w → ∀ R : Value → Prop, R v → qUp P w w R ((execOp a.eval o).run P w))
    (hn : wpMix P ops Q rest (k + 1) (listed.setIfInBounds k true) (a.put o.dst v) W) : wpMix P ops Q (o :: rest) k listed a W :=
  .inl ⟨v, .inl ⟨hw, fun w hw => qUp_quiet (h w hw)⟩, hn⟩
theorem mix_alone (hr : Region.ready .any ops listed = [k]) (hw : Region.wanted o (yielded ops a.tmps) = true)
    (h : ∀ w, Ext W w → ∀ K : Act → World → Prop, (∀ a' w', Ext w w' → wpMix P ops Q rest (k + 1) (listed.setIfInBounds k true) a' w' → K a' w') → o.wp P a w K Q) : wpMix P ops Q (o :: rest) k listed a W :=
  .inr ⟨hr, hw, fun w hw => h w hw _ fun _ _ h1 h2 => ⟨h1, h2⟩⟩
end
theorem mcall {f : FuncId} {args : Array Value} {w : World} {R : Value → Prop} {v : Value} (h : Calls P f args w fun e w' => e = .returned v ∧ Ext w w') (hR : R v) : Calls P f args w (qPost w R) :=
  h.mono fun _ _ ⟨he, hx⟩ => ⟨⟨v, he, hR⟩, hx⟩
theorem mcall_same {f : FuncId} {args : Array Value} {w : World} {R : Value → Prop} {v : Value} (h : Calls P f args w fun e w' => e = .returned v ∧ w = w') (hR : R v) : Calls P f args w (qPost w R) :=
  h.mono fun _ _ ⟨he, hx⟩ => ⟨⟨v, he, hR⟩, hx ▸ Below.refl _ _⟩
end
end Go.Proofs.YtgmbhaclogabeaaGreat
namespace Go.Proofs.YtgmbhaclogabeaaGreat
open Go Go.RowKit Go.Proofs
set_option maxRecDepth 100000
def insP (a l b m : Int) : Bool := rightB a l && rightB b m && decide (m ≤ l) && (a - a % szI m == b)
set_option maxHeartbeats 1000000 in
theorem inside_any (a l b m : Int) (w : World) :
    Calls Tryz.prog 90 #[.agg #[.int .i64 a, .int .i64 l], .agg #[.int .i64 b, .int .i64 m]] w fun e w' => e = .returned (.bool (insP a l b m)) ∧ Ext w w' := by
  cases hA : (rightB a l && rightB b m)
  case false =>
    have hs : insP a l b m = false := by simp [insP, hA]
    rw [hs]
    have hv := Lib.hid hA
    clear hA hs
    go_enter Tryz.func90, Tryz.ntmps90
    go_wp2_with fail
    refine region_mix (by kernel_rfl) (by kernel_rfl) (fun _ _ d _ _ h => by cases d <;> exact h) ?_
    repeat (first | ((first | refine mix_skip_t rfl rfl rfl (by with_reducible rfl) ?_ | refine mix_skip_f rfl rfl rfl (by with_reducible rfl) ?_ | refine mix_skip_u rfl rfl rfl (by with_reducible rfl) ?_); simp only [Act.put, List.setIfInBounds_toArray, List.set_cons_zero, List.set_cons_succ]) | (apply mix_take; (first | exact want_0 rfl | exact want_b rfl rfl rfl (by with_reducible rfl)); intro wq hwq R hR; ((have hcc := (bcell hwq).1; (try simp only [World.size_alloc, World.size_setCell, World.size_drew, World.heap_drewN] at hcc)); go_simp; first | exact hR | (fail)); simp only [Act.put, List.setIfInBounds_toArray, List.set_cons_zero, List.set_cons_succ]))
    refine mix_alone (by kernel_rfl) (by first | exact want_0 rfl | exact want_b rfl rfl rfl (by with_reducible rfl)) (fun w1 hw1 K hK => ?_)
    obtain ⟨hcw1, hfw1⟩ := bcell hw1
    have hzw1 := bsize hw1
    (try simp only [World.size_alloc, World.size_setCell, World.size_drew, World.heap_drewN] at hcw1 hfw1 hzw1)
    (try have l0w1 : w.heap.size ≤ w1.heap.size := by omega)
    (try have l1w1 : w.heap.size < w1.heap.size := by omega)
    (try have l2w1 : w.heap.size + 1 < w1.heap.size := by omega)
    go_simp
    refine hK _ _ (Bel.bel (B := _) ?_) ?_
    · (repeat (first | with_reducible assumption | with_reducible exact Bel.refl _ | with_reducible refine Bel.alloc ?_ _ | with_reducible refine Bel.drewN ?_ _ | with_reducible refine Bel.drew ?_ | (with_reducible refine Bel.setCell0 ?_ ?_ _; rotate_left; (first | omega | (simp; done) | (simp; omega))) | (with_reducible refine Bel.setCell ?_ (p := _) ?_ _; rotate_left; (first | (simp; done) | omega | (simp; omega))) | refine Bel.call ?_ (by assumption) | (refine EX.bel ?_ (by assumption) ?_; rotate_left; (first | omega | (simp; omega)))))
    clear hK K
    repeat (first | ((first | refine mix_skip_t rfl rfl rfl (by with_reducible rfl) ?_ | refine mix_skip_f rfl rfl rfl (by with_reducible rfl) ?_ | refine mix_skip_u rfl rfl rfl (by with_reducible rfl) ?_); simp only [Act.put, List.setIfInBounds_toArray, List.set_cons_zero, List.set_cons_succ]) | (apply mix_take; (first | exact want_0 rfl | exact want_b rfl rfl rfl (by with_reducible rfl)); intro wq hwq R hR; ((have hcc := (bcell hwq).1; (try simp only [World.size_alloc, World.size_setCell, World.size_drew, World.heap_drewN] at hcc)); go_simp; first | exact hR | ((go_at_call 123; refine mcall (right2 a l b m _ hv.out ?_ ?_ ?_ ?_) hR; go_simp; go_simp; go_simp; go_simp))); simp only [Act.put, List.setIfInBounds_toArray, List.set_cons_zero, List.set_cons_succ]))
    refine mix_nil ?_
    intro w2 hw2
    obtain ⟨hcw2, hfw2⟩ := bcell hw2
    have hzw2 := bsize hw2
    (try simp only [World.size_alloc, World.size_setCell, World.size_drew, World.heap_drewN] at hcw2 hfw2 hzw2)
    go_wp2_with fail
    go_ret
    refine ⟨rfl, Bel.bel (B := _) ?_⟩
    (repeat (first | with_reducible assumption | with_reducible exact Bel.refl _ | with_reducible refine Bel.alloc ?_ _ | with_reducible refine Bel.drewN ?_ _ | with_reducible refine Bel.drew ?_ | (with_reducible refine Bel.setCell0 ?_ ?_ _; rotate_left; (first | omega | (simp; done) | (simp; omega))) | (with_reducible refine Bel.setCell ?_ (p := _) ?_ _; rotate_left; (first | (simp; done) | omega | (simp; omega))) | refine Bel.call ?_ (by assumption) | (refine EX.bel ?_ (by assumption) ?_; rotate_left; (first | omega | (simp; omega)))))
  case true =>
    have hA' := hA
    simp only [Bool.and_eq_true] at hA'
    obtain ⟨g1, g2, g3, g4, -⟩ := right_bd hA'.1
    obtain ⟨k1, k2, k3, k4, -⟩ := right_bd hA'.2
    obtain ⟨z1, z2⟩ := msk_bd m k1
    have hv := Lib.hid hA
    by_cases hm : m ≤ l
    · have hs : insP a l b m = (a - a % szI m == b) := by simp [insP, hA, hm]
      rw [hs]
      have han := andnot_msk a m g3 g4 k1
      have hmI : decide (m ≤ l) = true := by simp [hm]
      clear hA hA' hs hm
      cases hE : (a - a % szI m == b)
      all_goals
        go_enter Tryz.func90, Tryz.ntmps90
        go_wp2_with fail
        refine region_mix (by kernel_rfl) (by kernel_rfl) (fun _ _ d _ _ h => by cases d <;> exact h) ?_
        repeat (first | ((first | refine mix_skip_t rfl rfl rfl (by with_reducible rfl) ?_ | refine mix_skip_f rfl rfl rfl (by with_reducible rfl) ?_ | refine mix_skip_u rfl rfl rfl (by with_reducible rfl) ?_); simp only [Act.put, List.setIfInBounds_toArray, List.set_cons_zero, List.set_cons_succ]) | (apply mix_take; (first | exact want_0 rfl | exact want_b rfl rfl rfl (by with_reducible rfl)); intro wq hwq R hR; ((have hcc := (bcell hwq).1; (try simp only [World.size_alloc, World.size_setCell, World.size_drew, World.heap_drewN] at hcc)); go_simp; first | exact hR | (fail)); simp only [Act.put, List.setIfInBounds_toArray, List.set_cons_zero, List.set_cons_succ]))
        refine mix_alone (by kernel_rfl) (by first | exact want_0 rfl | exact want_b rfl rfl rfl (by with_reducible rfl)) (fun w1 hw1 K hK => ?_)
        obtain ⟨hcw1, hfw1⟩ := bcell hw1
        have hzw1 := bsize hw1
        (try simp only [World.size_alloc, World.size_setCell, World.size_drew, World.heap_drewN] at hcw1 hfw1 hzw1)
        (try have l0w1 : w.heap.size ≤ w1.heap.size := by omega)
        (try have l1w1 : w.heap.size < w1.heap.size := by omega)
        (try have l2w1 : w.heap.size + 1 < w1.heap.size := by omega)
        go_simp
        refine hK _ _ (Bel.bel (B := _) ?_) ?_
        · (repeat (first | with_reducible assumption | with_reducible exact Bel.refl _ | with_reducible refine Bel.alloc ?_ _ | with_reducible refine Bel.drewN ?_ _ | with_reducible refine Bel.drew ?_ | (with_reducible refine Bel.setCell0 ?_ ?_ _; rotate_left; (first | omega | (simp; done) | (simp; omega))) | (with_reducible refine Bel.setCell ?_ (p := _) ?_ _; rotate_left; (first | (simp; done) | omega | (simp; omega))) | refine Bel.call ?_ (by assumption) | (refine EX.bel ?_ (by assumption) ?_; rotate_left; (first | omega | (simp; omega)))))
        clear hK K
        repeat (first | ((first | refine mix_skip_t rfl rfl rfl (by with_reducible rfl) ?_ | refine mix_skip_f rfl rfl rfl (by with_reducible rfl) ?_ | refine mix_skip_u rfl rfl rfl (by with_reducible rfl) ?_); simp only [Act.put, List.setIfInBounds_toArray, List.set_cons_zero, List.set_cons_succ]) | (apply mix_take; (first | exact want_0 rfl | exact want_b rfl rfl rfl (by with_reducible rfl)); intro wq hwq R hR; ((have hcc := (bcell hwq).1; (try simp only [World.size_alloc, World.size_setCell, World.size_drew, World.heap_drewN] at hcc)); go_simp; first | exact hR | (first | (go_at_call 123; refine mcall (right2 a l b m _ hv.out ?_ ?_ ?_ ?_) hR; go_simp; go_simp; go_simp; go_simp) | (go_at_call 88; exact mcall_same (mask_any _ _ k1 k2) hR))); simp only [Act.put, List.setIfInBounds_toArray, List.set_cons_zero, List.set_cons_succ]))
        refine mix_nil ?_
        intro w2 hw2
        obtain ⟨hcw2, hfw2⟩ := bcell hw2
        have hzw2 := bsize hw2
        (try simp only [World.size_alloc, World.size_setCell, World.size_drew, World.heap_drewN] at hcw2 hfw2 hzw2)
        go_wp2_with fail
        go_ret
        refine ⟨rfl, Bel.bel (B := _) ?_⟩
        (repeat (first | with_reducible assumption | with_reducible exact Bel.refl _ | with_reducible refine Bel.alloc ?_ _ | with_reducible refine Bel.drewN ?_ _ | with_reducible refine Bel.drew ?_ | (with_reducible refine Bel.setCell0 ?_ ?_ _; rotate_left; (first | omega | (simp; done) | (simp; omega))) | (with_reducible refine Bel.setCell ?_ (p := _) ?_ _; rotate_left; (first | (simp; done) | omega | (simp; omega))) | refine Bel.call ?_ (by assumption) | (refine EX.bel ?_ (by assumption) ?_; rotate_left; (first | omega | (simp; omega)))))
    · have hs : insP a l b m = false := by simp [insP, hA, hm]
      rw [hs]
      have hmI : decide (m ≤ l) = false := by simp [hm]
      clear hA hA' hs hm
      go_enter Tryz.func90, Tryz.ntmps90
      go_wp2_with fail
      refine region_mix (by kernel_rfl) (by kernel_rfl) (fun _ _ d _ _ h => by cases d <;> exact h) ?_
      repeat (first | ((first | refine mix_skip_t rfl rfl rfl (by with_reducible rfl) ?_ | refine mix_skip_f rfl rfl rfl (by with_reducible rfl) ?_ | refine mix_skip_u rfl rfl rfl (by with_reducible rfl) ?_); simp only [Act.put, List.setIfInBounds_toArray, List.set_cons_zero, List.set_cons_succ]) | (apply mix_take; (first | exact want_0 rfl | exact want_b rfl rfl rfl (by with_reducible rfl)); intro wq hwq R hR; ((have hcc := (bcell hwq).1; (try simp only [World.size_alloc, World.size_setCell, World.size_drew, World.heap_drewN] at hcc)); go_simp; first | exact hR | (fail)); simp only [Act.put, List.setIfInBounds_toArray, List.set_cons_zero, List.set_cons_succ]))
      refine mix_alone (by kernel_rfl) (by first | exact want_0 rfl | exact want_b rfl rfl rfl (by with_reducible rfl)) (fun w1 hw1 K hK => ?_)
      obtain ⟨hcw1, hfw1⟩ := bcell hw1
      have hzw1 := bsize hw1
      (try simp only [World.size_alloc, World.size_setCell, World.size_drew, World.heap_drewN] at hcw1 hfw1 hzw1)
      (try have l0w1 : w.heap.size ≤ w1.heap.size := by omega)
      (try have l1w1 : w.heap.size < w1.heap.size := by omega)
      (try have l2w1 : w.heap.size + 1 < w1.heap.size := by omega)
      go_simp
      refine hK _ _ (Bel.bel (B := _) ?_) ?_
      · (repeat (first | with_reducible assumption | with_reducible exact Bel.refl _ | with_reducible refine Bel.alloc ?_ _ | with_reducible refine Bel.drewN ?_ _ | with_reducible refine Bel.drew ?_ | (with_reducible refine Bel.setCell0 ?_ ?_ _; rotate_left; (first | omega | (simp; done) | (simp; omega))) | (with_reducible refine Bel.setCell ?_ (p := _) ?_ _; rotate_left; (first | (simp; done) | omega | (simp; omega))) | refine Bel.call ?_ (by assumption) | (refine EX.bel ?_ (by assumption) ?_; rotate_left; (first | omega | (simp; omega)))))
      clear hK K
      repeat (first | ((first | refine mix_skip_t rfl rfl rfl (by with_reducible rfl) ?_ | refine mix_skip_f rfl rfl rfl (by with_reducible rfl) ?_ | refine mix_skip_u rfl rfl rfl (by with_reducible rfl) ?_); simp only [Act.put, List.setIfInBounds_toArray, List.set_cons_zero, List.set_cons_succ]) | (apply mix_take; (first | exact want_0 rfl | exact want_b rfl rfl rfl (by with_reducible rfl)); intro wq hwq R hR; ((have hcc := (bcell hwq).1; (try simp only [World.size_alloc, World.size_setCell, World.size_drew, World.heap_drewN] at hcc)); go_simp; first | exact hR | ((go_at_call 123; refine mcall (right2 a l b m _ hv.out ?_ ?_ ?_ ?_) hR; go_simp; go_simp; go_simp; go_simp))); simp only [Act.put, List.setIfInBounds_toArray, List.set_cons_zero, List.set_cons_succ]))
      refine mix_nil ?_
      intro w2 hw2
      obtain ⟨hcw2, hfw2⟩ := bcell hw2
      have hzw2 := bsize hw2
      (try simp only [World.size_alloc, World.size_setCell, World.size_drew, World.heap_drewN] at hcw2 hfw2 hzw2)
      go_wp2_with fail
      go_ret
      refine ⟨rfl, Bel.bel (B := _) ?_⟩
      (repeat (first | with_reducible assumption | with_reducible exact Bel.refl _ | with_reducible refine Bel.alloc ?_ _ | with_reducible refine Bel.drewN ?_ _ | with_reducible refine Bel.drew ?_ | (with_reducible refine Bel.setCell0 ?_ ?_ _; rotate_left; (first | omega | (simp; done) | (simp; omega))) | (with_reducible refine Bel.setCell ?_ (p := _) ?_ _; rotate_left; (first | (simp; done) | omega | (simp; omega))) | refine Bel.call ?_ (by assumption) | (refine EX.bel ?_ (by assumption) ?_; rotate_left; (first | omega | (simp; omega)))))
end Go.Proofs.YtgmbhaclogabeaaGreat
namespace Go.Proofs.YtgmbhaclogabeaaGreat
open Go Go.RowKit Go.Proofs
set_option maxRecDepth 100000
def holdP (a l x : Int) : Bool := rightB a l && (decide (0 ≤ x) && (decide (x ≤ 65535) && (x - x % szI l == a)))
set_option maxHeartbeats 1000000 in
theorem holds_any (a l x : Int) (w : World) :
    Calls Tryz.prog 136 #[.agg #[.int .i64 a, .int .i64 l], .int .i64 x] w fun e w' => e = .returned (.bool (holdP a l x)) ∧ Ext w w' := by
  cases hA : rightB a l
  case false =>
    have hs : holdP a l x = false := by simp [holdP, hA]
    rw [hs]
    have hv := Lib.hid hA
    clear hA hs
    go_enter Tryz.func136, Tryz.ntmps136
    go_wp2_with fail
    refine region_mix (by kernel_rfl) (by kernel_rfl) (fun _ _ d _ _ h => by cases d <;> exact h) ?_
    repeat (first | ((first | refine mix_skip_t rfl rfl rfl (by with_reducible rfl) ?_ | refine mix_skip_f rfl rfl rfl (by with_reducible rfl) ?_ | refine mix_skip_u rfl rfl rfl (by with_reducible rfl) ?_); simp only [Act.put, List.setIfInBounds_toArray, List.set_cons_zero, List.set_cons_succ]) | (apply mix_take; (first | exact want_0 rfl | exact want_b rfl rfl rfl (by with_reducible rfl)); intro wq hwq R hR; ((have hcc := (bcell hwq).1; (try simp only [World.size_alloc, World.size_setCell, World.size_drew, World.heap_drewN] at hcc)); go_simp; first | exact hR | (fail)); simp only [Act.put, List.setIfInBounds_toArray, List.set_cons_zero, List.set_cons_succ]))
    refine mix_alone (by kernel_rfl) (by first | exact want_0 rfl | exact want_b rfl rfl rfl (by with_reducible rfl)) (fun w1 hw1 K hK => ?_)
    obtain ⟨hcw1, hfw1⟩ := bcell hw1
    have hzw1 := bsize hw1
    (try simp only [World.size_alloc, World.size_setCell, World.size_drew, World.heap_drewN] at hcw1 hfw1 hzw1)
    (try have l0w1 : w.heap.size ≤ w1.heap.size := by omega)
    (try have l1w1 : w.heap.size < w1.heap.size := by omega)
    (try have l2w1 : w.heap.size + 1 < w1.heap.size := by omega)
    go_simp
    refine hK _ _ (Bel.bel (B := _) ?_) ?_
    · (repeat (first | with_reducible assumption | with_reducible exact Bel.refl _ | with_reducible refine Bel.alloc ?_ _ | with_reducible refine Bel.drewN ?_ _ | with_reducible refine Bel.drew ?_ | (with_reducible refine Bel.setCell0 ?_ ?_ _; rotate_left; (first | omega | (simp; done) | (simp; omega))) | (with_reducible refine Bel.setCell ?_ (p := _) ?_ _; rotate_left; (first | (simp; done) | omega | (simp; omega))) | refine Bel.call ?_ (by assumption) | (refine EX.bel ?_ (by assumption) ?_; rotate_left; (first | omega | (simp; omega)))))
    clear hK K
    repeat (first | ((first | refine mix_skip_t rfl rfl rfl (by with_reducible rfl) ?_ | refine mix_skip_f rfl rfl rfl (by with_reducible rfl) ?_ | refine mix_skip_u rfl rfl rfl (by with_reducible rfl) ?_); simp only [Act.put, List.setIfInBounds_toArray, List.set_cons_zero, List.set_cons_succ]) | (apply mix_take; (first | exact want_0 rfl | exact want_b rfl rfl rfl (by with_reducible rfl)); intro wq hwq R hR; ((have hcc := (bcell hwq).1; (try simp only [World.size_alloc, World.size_setCell, World.size_drew, World.heap_drewN] at hcc)); go_simp; first | exact hR | ((go_at_call 123; refine mcall (right1 a l _ hv.out ?_ ?_) hR; go_simp; go_simp))); simp only [Act.put, List.setIfInBounds_toArray, List.set_cons_zero, List.set_cons_succ]))
    refine mix_nil ?_
    intro w2 hw2
    obtain ⟨hcw2, hfw2⟩ := bcell hw2
    have hzw2 := bsize hw2
    (try simp only [World.size_alloc, World.size_setCell, World.size_drew, World.heap_drewN] at hcw2 hfw2 hzw2)
    go_wp2_with fail
    go_ret
    refine ⟨rfl, Bel.bel (B := _) ?_⟩
    (repeat (first | with_reducible assumption | with_reducible exact Bel.refl _ | with_reducible refine Bel.alloc ?_ _ | with_reducible refine Bel.drewN ?_ _ | with_reducible refine Bel.drew ?_ | (with_reducible refine Bel.setCell0 ?_ ?_ _; rotate_left; (first | omega | (simp; done) | (simp; omega))) | (with_reducible refine Bel.setCell ?_ (p := _) ?_ _; rotate_left; (first | (simp; done) | omega | (simp; omega))) | refine Bel.call ?_ (by assumption) | (refine EX.bel ?_ (by assumption) ?_; rotate_left; (first | omega | (simp; omega)))))
  case true =>
    obtain ⟨g1, g2, g3, g4, -⟩ := right_bd hA
    obtain ⟨z1, z2⟩ := msk_bd l g1
    have hv := Lib.hid hA
    by_cases h0 : 0 ≤ x
    · by_cases h1 : x ≤ 65535
      · have hs : holdP a l x = (x - x % szI l == a) := by simp [holdP, hA, h0, h1]
        rw [hs]
        have han := andnot_msk x l h0 h1 g1
        have h0I : decide (0 ≤ x) = true := by simp [h0]
        have h1I : decide (x ≤ 65535) = true := by simp [h1]
        clear hA hs
        cases hE : (x - x % szI l == a)
        all_goals
          go_enter Tryz.func136, Tryz.ntmps136
          go_wp2_with fail
          refine region_mix (by kernel_rfl) (by kernel_rfl) (fun _ _ d _ _ h => by cases d <;> exact h) ?_
          repeat (first | ((first | refine mix_skip_t rfl rfl rfl (by with_reducible rfl) ?_ | refine mix_skip_f rfl rfl rfl (by with_reducible rfl) ?_ | refine mix_skip_u rfl rfl rfl (by with_reducible rfl) ?_); simp only [Act.put, List.setIfInBounds_toArray, List.set_cons_zero, List.set_cons_succ]) | (apply mix_take; (first | exact want_0 rfl | exact want_b rfl rfl rfl (by with_reducible rfl)); intro wq hwq R hR; ((have hcc := (bcell hwq).1; (try simp only [World.size_alloc, World.size_setCell, World.size_drew, World.heap_drewN] at hcc)); go_simp; first | exact hR | (fail)); simp only [Act.put, List.setIfInBounds_toArray, List.set_cons_zero, List.set_cons_succ]))
          refine mix_alone (by kernel_rfl) (by first | exact want_0 rfl | exact want_b rfl rfl rfl (by with_reducible rfl)) (fun w1 hw1 K hK => ?_)
          obtain ⟨hcw1, hfw1⟩ := bcell hw1
          have hzw1 := bsize hw1
          (try simp only [World.size_alloc, World.size_setCell, World.size_drew, World.heap_drewN] at hcw1 hfw1 hzw1)
          (try have l0w1 : w.heap.size ≤ w1.heap.size := by omega)
          (try have l1w1 : w.heap.size < w1.heap.size := by omega)
          (try have l2w1 : w.heap.size + 1 < w1.heap.size := by omega)
          go_simp
          refine hK _ _ (Bel.bel (B := _) ?_) ?_
          · (repeat (first | with_reducible assumption | with_reducible exact Bel.refl _ | with_reducible refine Bel.alloc ?_ _ | with_reducible refine Bel.drewN ?_ _ | with_reducible refine Bel.drew ?_ | (with_reducible refine Bel.setCell0 ?_ ?_ _; rotate_left; (first | omega | (simp; done) | (simp; omega))) | (with_reducible refine Bel.setCell ?_ (p := _) ?_ _; rotate_left; (first | (simp; done) | omega | (simp; omega))) | refine Bel.call ?_ (by assumption) | (refine EX.bel ?_ (by assumption) ?_; rotate_left; (first | omega | (simp; omega)))))
          clear hK K
          repeat (first | ((first | refine mix_skip_t rfl rfl rfl (by with_reducible rfl) ?_ | refine mix_skip_f rfl rfl rfl (by with_reducible rfl) ?_ | refine mix_skip_u rfl rfl rfl (by with_reducible rfl) ?_); simp only [Act.put, List.setIfInBounds_toArray, List.set_cons_zero, List.set_cons_succ]) | (apply mix_take; (first | exact want_0 rfl | exact want_b rfl rfl rfl (by with_reducible rfl)); intro wq hwq R hR; ((have hcc := (bcell hwq).1; (try simp only [World.size_alloc, World.size_setCell, World.size_drew, World.heap_drewN] at hcc)); go_simp; first | exact hR | (first | (go_at_call 123; refine mcall (right1 a l _ hv.out ?_ ?_) hR; go_simp; go_simp) | (go_at_call 88; exact mcall_same (mask_any _ _ g1 g2) hR))); simp only [Act.put, List.setIfInBounds_toArray, List.set_cons_zero, List.set_cons_succ]))
          refine mix_nil ?_
          intro w2 hw2
          obtain ⟨hcw2, hfw2⟩ := bcell hw2
          have hzw2 := bsize hw2
          (try simp only [World.size_alloc, World.size_setCell, World.size_drew, World.heap_drewN] at hcw2 hfw2 hzw2)
          go_wp2_with fail
          go_ret
          refine ⟨rfl, Bel.bel (B := _) ?_⟩
          (repeat (first | with_reducible assumption | with_reducible exact Bel.refl _ | with_reducible refine Bel.alloc ?_ _ | with_reducible refine Bel.drewN ?_ _ | with_reducible refine Bel.drew ?_ | (with_reducible refine Bel.setCell0 ?_ ?_ _; rotate_left; (first | omega | (simp; done) | (simp; omega))) | (with_reducible refine Bel.setCell ?_ (p := _) ?_ _; rotate_left; (first | (simp; done) | omega | (simp; omega))) | refine Bel.call ?_ (by assumption) | (refine EX.bel ?_ (by assumption) ?_; rotate_left; (first | omega | (simp; omega)))))
      · have hs : holdP a l x = false := by simp [holdP, h1]
        rw [hs]
        have h0I : decide (0 ≤ x) = true := by simp [h0]
        have h1I : decide (x ≤ 65535) = false := by simp [h1]
        clear hA hs h1
        go_enter Tryz.func136, Tryz.ntmps136
        go_wp2_with fail
        refine region_mix (by kernel_rfl) (by kernel_rfl) (fun _ _ d _ _ h => by cases d <;> exact h) ?_
        repeat (first | ((first | refine mix_skip_t rfl rfl rfl (by with_reducible rfl) ?_ | refine mix_skip_f rfl rfl rfl (by with_reducible rfl) ?_ | refine mix_skip_u rfl rfl rfl (by with_reducible rfl) ?_); simp only [Act.put, List.setIfInBounds_toArray, List.set_cons_zero, List.set_cons_succ]) | (apply mix_take; (first | exact want_0 rfl | exact want_b rfl rfl rfl (by with_reducible rfl)); intro wq hwq R hR; ((have hcc := (bcell hwq).1; (try simp only [World.size_alloc, World.size_setCell, World.size_drew, World.heap_drewN] at hcc)); go_simp; first | exact hR | (fail)); simp only [Act.put, List.setIfInBounds_toArray, List.set_cons_zero, List.set_cons_succ]))
        refine mix_alone (by kernel_rfl) (by first | exact want_0 rfl | exact want_b rfl rfl rfl (by with_reducible rfl)) (fun w1 hw1 K hK => ?_)
        obtain ⟨hcw1, hfw1⟩ := bcell hw1
        have hzw1 := bsize hw1
        (try simp only [World.size_alloc, World.size_setCell, World.size_drew, World.heap_drewN] at hcw1 hfw1 hzw1)
        (try have l0w1 : w.heap.size ≤ w1.heap.size := by omega)
        (try have l1w1 : w.heap.size < w1.heap.size := by omega)
        (try have l2w1 : w.heap.size + 1 < w1.heap.size := by omega)
        go_simp
        refine hK _ _ (Bel.bel (B := _) ?_) ?_
        · (repeat (first | with_reducible assumption | with_reducible exact Bel.refl _ | with_reducible refine Bel.alloc ?_ _ | with_reducible refine Bel.drewN ?_ _ | with_reducible refine Bel.drew ?_ | (with_reducible refine Bel.setCell0 ?_ ?_ _; rotate_left; (first | omega | (simp; done) | (simp; omega))) | (with_reducible refine Bel.setCell ?_ (p := _) ?_ _; rotate_left; (first | (simp; done) | omega | (simp; omega))) | refine Bel.call ?_ (by assumption) | (refine EX.bel ?_ (by assumption) ?_; rotate_left; (first | omega | (simp; omega)))))
        clear hK K
        repeat (first | ((first | refine mix_skip_t rfl rfl rfl (by with_reducible rfl) ?_ | refine mix_skip_f rfl rfl rfl (by with_reducible rfl) ?_ | refine mix_skip_u rfl rfl rfl (by with_reducible rfl) ?_); simp only [Act.put, List.setIfInBounds_toArray, List.set_cons_zero, List.set_cons_succ]) | (apply mix_take; (first | exact want_0 rfl | exact want_b rfl rfl rfl (by with_reducible rfl)); intro wq hwq R hR; ((have hcc := (bcell hwq).1; (try simp only [World.size_alloc, World.size_setCell, World.size_drew, World.heap_drewN] at hcc)); go_simp; first | exact hR | ((go_at_call 123; refine mcall (right1 a l _ hv.out ?_ ?_) hR; go_simp; go_simp))); simp only [Act.put, List.setIfInBounds_toArray, List.set_cons_zero, List.set_cons_succ]))
        refine mix_nil ?_
        intro w2 hw2
        obtain ⟨hcw2, hfw2⟩ := bcell hw2
        have hzw2 := bsize hw2
        (try simp only [World.size_alloc, World.size_setCell, World.size_drew, World.heap_drewN] at hcw2 hfw2 hzw2)
        go_wp2_with fail
        go_ret
        refine ⟨rfl, Bel.bel (B := _) ?_⟩
        (repeat (first | with_reducible assumption | with_reducible exact Bel.refl _ | with_reducible refine Bel.alloc ?_ _ | with_reducible refine Bel.drewN ?_ _ | with_reducible refine Bel.drew ?_ | (with_reducible refine Bel.setCell0 ?_ ?_ _; rotate_left; (first | omega | (simp; done) | (simp; omega))) | (with_reducible refine Bel.setCell ?_ (p := _) ?_ _; rotate_left; (first | (simp; done) | omega | (simp; omega))) | refine Bel.call ?_ (by assumption) | (refine EX.bel ?_ (by assumption) ?_; rotate_left; (first | omega | (simp; omega)))))
    · have hs : holdP a l x = false := by simp [holdP, h0]
      rw [hs]
      have h0I : decide (0 ≤ x) = false := by simp [h0]
      clear hA hs h0
      go_enter Tryz.func136, Tryz.ntmps136
      go_wp2_with fail
      refine region_mix (by kernel_rfl) (by kernel_rfl) (fun _ _ d _ _ h => by cases d <;> exact h) ?_
      repeat (first | ((first | refine mix_skip_t rfl rfl rfl (by with_reducible rfl) ?_ | refine mix_skip_f rfl rfl rfl (by with_reducible rfl) ?_ | refine mix_skip_u rfl rfl rfl (by with_reducible rfl) ?_); simp only [Act.put, List.setIfInBounds_toArray, List.set_cons_zero, List.set_cons_succ]) | (apply mix_take; (first | exact want_0 rfl | exact want_b rfl rfl rfl (by with_reducible rfl)); intro wq hwq R hR; ((have hcc := (bcell hwq).1; (try simp only [World.size_alloc, World.size_setCell, World.size_drew, World.heap_drewN] at hcc)); go_simp; first | exact hR | (fail)); simp only [Act.put, List.setIfInBounds_toArray, List.set_cons_zero, List.set_cons_succ]))
      refine mix_alone (by kernel_rfl) (by first | exact want_0 rfl | exact want_b rfl rfl rfl (by with_reducible rfl)) (fun w1 hw1 K hK => ?_)
      obtain ⟨hcw1, hfw1⟩ := bcell hw1
      have hzw1 := bsize hw1
      (try simp only [World.size_alloc, World.size_setCell, World.size_drew, World.heap_drewN] at hcw1 hfw1 hzw1)
      (try have l0w1 : w.heap.size ≤ w1.heap.size := by omega)
      (try have l1w1 : w.heap.size < w1.heap.size := by omega)
      (try have l2w1 : w.heap.size + 1 < w1.heap.size := by omega)
      go_simp
      refine hK _ _ (Bel.bel (B := _) ?_) ?_
      · (repeat (first | with_reducible assumption | with_reducible exact Bel.refl _ | with_reducible refine Bel.alloc ?_ _ | with_reducible refine Bel.drewN ?_ _ | with_reducible refine Bel.drew ?_ | (with_reducible refine Bel.setCell0 ?_ ?_ _; rotate_left; (first | omega | (simp; done) | (simp; omega))) | (with_reducible refine Bel.setCell ?_ (p := _) ?_ _; rotate_left; (first | (simp; done) | omega | (simp; omega))) | refine Bel.call ?_ (by assumption) | (refine EX.bel ?_ (by assumption) ?_; rotate_left; (first | omega | (simp; omega)))))
      clear hK K
      repeat (first | ((first | refine mix_skip_t rfl rfl rfl (by with_reducible rfl) ?_ | refine mix_skip_f rfl rfl rfl (by with_reducible rfl) ?_ | refine mix_skip_u rfl rfl rfl (by with_reducible rfl) ?_); simp only [Act.put, List.setIfInBounds_toArray, List.set_cons_zero, List.set_cons_succ]) | (apply mix_take; (first | exact want_0 rfl | exact want_b rfl rfl rfl (by with_reducible rfl)); intro wq hwq R hR; ((have hcc := (bcell hwq).1; (try simp only [World.size_alloc, World.size_setCell, World.size_drew, World.heap_drewN] at hcc)); go_simp; first | exact hR | ((go_at_call 123; refine mcall (right1 a l _ hv.out ?_ ?_) hR; go_simp; go_simp))); simp only [Act.put, List.setIfInBounds_toArray, List.set_cons_zero, List.set_cons_succ]))
      refine mix_nil ?_
      intro w2 hw2
      obtain ⟨hcw2, hfw2⟩ := bcell hw2
      have hzw2 := bsize hw2
      (try simp only [World.size_alloc, World.size_setCell, World.size_drew, World.heap_drewN] at hcw2 hfw2 hzw2)
      go_wp2_with fail
      go_ret
      refine ⟨rfl, Bel.bel (B := _) ?_⟩
      (repeat (first | with_reducible assumption | with_reducible exact Bel.refl _ | with_reducible refine Bel.alloc ?_ _ | with_reducible refine Bel.drewN ?_ _ | with_reducible refine Bel.drew ?_ | (with_reducible refine Bel.setCell0 ?_ ?_ _; rotate_left; (first | omega | (simp; done) | (simp; omega))) | (with_reducible refine Bel.setCell ?_ (p := _) ?_ _; rotate_left; (first | (simp; done) | omega | (simp; omega))) | refine Bel.call ?_ (by assumption) | (refine EX.bel ?_ (by assumption) ?_; rotate_left; (first | omega | (simp; omega)))))
def meetP (a l b m : Int) : Bool := insP a l b m || insP b m a l
set_option maxHeartbeats 1000000 in
theorem meets_any (a l b m : Int) (w : World) :
    Calls Tryz.prog 58 #[.agg #[.int .i64 a, .int .i64 l], .agg #[.int .i64 b, .int .i64 m]] w fun e w' => e = .returned (.bool (meetP a l b m)) ∧ Ext w w' := by
  unfold meetP
  cases hA : insP a l b m
  case true =>
    have hc := inside_any a l b m
    rw [hA] at hc
    replace hc := Lib.hid hc
    clear hA
    go_enter Tryz.func58, Tryz.ntmps58
    go_wp2_with fail
    refine (hc.out _).mono ?_
    rintro e w1 ⟨rfl, hw1⟩
    obtain ⟨hcw1, hfw1⟩ := bcell hw1
    have hzw1 := bsize hw1
    (try simp only [World.size_alloc, World.size_setCell, World.size_drew, World.heap_drewN] at hcw1 hfw1 hzw1)
    go_wp2_with fail
    go_ret
    refine ⟨rfl, Bel.bel (B := _) ?_⟩
    (repeat (first | with_reducible assumption | with_reducible exact Bel.refl _ | with_reducible refine Bel.alloc ?_ _ | with_reducible refine Bel.drewN ?_ _ | with_reducible refine Bel.drew ?_ | (with_reducible refine Bel.setCell0 ?_ ?_ _; rotate_left; (first | omega | (simp; done) | (simp; omega))) | (with_reducible refine Bel.setCell ?_ (p := _) ?_ _; rotate_left; (first | (simp; done) | omega | (simp; omega))) | refine Bel.call ?_ (by assumption) | (refine EX.bel ?_ (by assumption) ?_; rotate_left; (first | omega | (simp; omega)))))
  case false =>
    have hc := inside_any a l b m
    rw [hA] at hc
    replace hc := Lib.hid hc
    clear hA
    obtain ⟨r, hr⟩ : ∃ r, r = insP b m a l := ⟨_, rfl⟩
    have hd := inside_any b m a l
    rw [← hr] at hd ⊢
    clear hr
    replace hd := Lib.hid hd
    go_enter Tryz.func58, Tryz.ntmps58
    go_wp2_with fail
    refine (hc.out _).mono ?_
    rintro e w1 ⟨rfl, hw1⟩
    obtain ⟨hcw1, hfw1⟩ := bcell hw1
    have hzw1 := bsize hw1
    (try simp only [World.size_alloc, World.size_setCell, World.size_drew, World.heap_drewN] at hcw1 hfw1 hzw1)
    go_wp2_with fail
    refine (hd.out _).mono ?_
    rintro e w2 ⟨rfl, hw2⟩
    obtain ⟨hcw2, hfw2⟩ := bcell hw2
    have hzw2 := bsize hw2
    (try simp only [World.size_alloc, World.size_setCell, World.size_drew, World.heap_drewN] at hcw2 hfw2 hzw2)
    go_wp2_with fail
    go_ret
    refine ⟨rfl, Bel.bel (B := _) ?_⟩
    (repeat (first | with_reducible assumption | with_reducible exact Bel.refl _ | with_reducible refine Bel.alloc ?_ _ | with_reducible refine Bel.drewN ?_ _ | with_reducible refine Bel.drew ?_ | (with_reducible refine Bel.setCell0 ?_ ?_ _; rotate_left; (first | omega | (simp; done) | (simp; omega))) | (with_reducible refine Bel.setCell ?_ (p := _) ?_ _; rotate_left; (first | (simp; done) | omega | (simp; omega))) | refine Bel.call ?_ (by assumption) | (refine EX.bel ?_ (by assumption) ?_; rotate_left; (first | omega | (simp; omega)))))
end Go.Proofs.YtgmbhaclogabeaaGreat
namespace Go.Proofs.YtgmbhaclogabeaaGreat
open Go Go.RowKit
theorem check_p (p : Pfx) : PSpec Tryz.prog 54 [.agg (encP p)] (.v (.int .i64 (chk p.at_ p.len))) := pspec_flat (fnok_of Tryz.func54 (by kernel_rfl) rfl) (by intro d hd; simp at hd; (repeat (first | (obtain rfl := hd; rfl) | (rcases hd with rfl | hd; · rfl)))) rfl rfl (fun w => check_any _ _ _)
theorem size_p (p : Pfx) : PSpec Tryz.prog 137 [.agg (encP p)] (.v (.int .i64 (sizeI p.at_ p.len))) := pspec_flat (fnok_of Tryz.func137 (by kernel_rfl) rfl) (by intro d hd; simp at hd; (repeat (first | (obtain rfl := hd; rfl) | (rcases hd with rfl | hd; · rfl)))) rfl rfl (fun w => size_any _ _ _)
theorem inside_p (p q : Pfx) : PSpec Tryz.prog 90 [.agg (encP p), .agg (encP q)] (.v (.bool (insP p.at_ p.len q.at_ q.len))) := pspec_flat (fnok_of Tryz.func90 (by kernel_rfl) rfl) (by intro d hd; simp at hd; (repeat (first | (obtain rfl := hd; rfl) | (rcases hd with rfl | hd; · rfl)))) rfl rfl (fun w => inside_any _ _ _ _ _)
theorem meets_p (p q : Pfx) : PSpec Tryz.prog 58 [.agg (encP p), .agg (encP q)] (.v (.bool (meetP p.at_ p.len q.at_ q.len))) := pspec_flat (fnok_of Tryz.func58 (by kernel_rfl) rfl) (by intro d hd; simp at hd; (repeat (first | (obtain rfl := hd; rfl) | (rcases hd with rfl | hd; · rfl)))) rfl rfl (fun w => meets_any _ _ _ _ _)
end Go.Proofs.YtgmbhaclogabeaaGreat
namespace Go.Proofs.YtgmbhaclogabeaaGreat
open Go Go.RowKit Go.Proofs
def Pfx.meets (p q : Pfx) : Bool := meetP p.at_ p.len q.at_ q.len
def Pfx.right (p : Pfx) : Bool := rightB p.at_ p.len
def Pfx.v (p : Pfx) : Value := .agg #[.int .i64 p.at_, .int .i64 p.len]
theorem szI_dvd {l m : Int} (h0 : 0 ≤ m) (h1 : m ≤ l) (h2 : l ≤ 16) : ∃ k : Int, szI m = szI l * k ∧ 1 ≤ k := by
  refine ⟨2 ^ (l - m).toNat, ?_, ?_⟩
  · unfold szI
    rw [← Int.pow_add]
    congr 1
    omega
  · have h3 := Nat.one_le_two_pow (n := (l - m).toNat)
    have h4 : ((2 ^ (l - m).toNat : Nat) : Int) = (2 : Int) ^ (l - m).toNat := by simp
    omega
theorem right_fit {a l : Int} (h : rightB a l = true) : a + szI l ≤ 65536 := by
  obtain ⟨g1, g2, g3, g4, g5⟩ := right_bd h
  obtain ⟨k, hk, hk1⟩ := szI_dvd (Int.le_refl 0) g1 g2
  have h0 : szI 0 = 65536 := by decide
  rw [h0] at hk
  have hs := szI_bd g1
  have hd : szI l ∣ 65536 - a := by
    refine Int.dvd_sub ⟨k, hk⟩ (Int.dvd_of_emod_eq_zero g5)
  have := Int.le_of_dvd (by omega) hd
  omega
def insQ (p q : Pfx) : Bool := insP p.at_ p.len q.at_ q.len
/-- Behind a prefix's last address. -/
def Pfx.hi (p : Pfx) : Int := p.at_ + szI p.len
theorem Pfx.bd {p : Pfx} (h : p.right = true) : 0 ≤ p.len ∧ p.len ≤ 16 ∧ 0 ≤ p.at_ ∧ p.at_ ≤ 65535 ∧ p.at_ % szI p.len = 0 := right_bd h
theorem Pfx.hi_bd {p : Pfx} (h : p.right = true) : p.at_ < p.hi ∧ p.hi ≤ 65536 := by
  have h1 := right_fit h
  obtain ⟨g1, -⟩ := p.bd h
  have h2 := szI_bd g1
  unfold Pfx.hi; omega
/-- An address lies in an aligned block just if its block begins there. -/
theorem blk_iff {s a b : Int} (hs : 0 < s) (hb : b % s = 0) : a - a % s = b ↔ b ≤ a ∧ a < b + s := by
  have h1 := Int.emod_nonneg a (b := s) (by omega)
  have h2 := Int.emod_lt_of_pos a hs
  constructor
  · intro h; omega
  · intro ⟨h3, h4⟩
    have h5 : (a - b) % s = a % s := by rw [Int.sub_emod, hb, Int.sub_zero, Int.emod_emod]
    rw [Int.emod_eq_of_lt (by omega) (by omega)] at h5
    omega
theorem dvd_step {s x : Int} (hs : 0 < s) (hx : 0 < x) (hd : s ∣ x) : s ≤ x := Int.le_of_dvd hx hd
/-- Two right prefixes, the second no longer: they meet just if the first lies in the second. -/
theorem nest {p q : Pfx} (hp : p.right = true) (hq : q.right = true) (hl : q.len ≤ p.len) (h1 : p.at_ < q.hi) (h2 : q.at_ < p.hi) : q.at_ ≤ p.at_ ∧ p.hi ≤ q.hi := by
  obtain ⟨a1, a2, a3, a4, a5⟩ := p.bd hp
  obtain ⟨b1, b2, b3, b4, b5⟩ := q.bd hq
  obtain ⟨k, hk, hk1⟩ := szI_dvd b1 hl a2
  have s1 := szI_bd a1
  have s2 := szI_bd b1
  unfold Pfx.hi at *
  have dq : szI p.len ∣ q.at_ := Int.dvd_trans ⟨k, hk⟩ (Int.dvd_of_emod_eq_zero b5)
  have dp : szI p.len ∣ p.at_ := Int.dvd_of_emod_eq_zero a5
  have dm : szI p.len ∣ szI q.len := ⟨k, hk⟩
  refine ⟨?_, ?_⟩
  · rcases Int.lt_or_le p.at_ q.at_ with h | h
    · have := dvd_step (by omega) (show 0 < q.at_ - p.at_ by omega) (Int.dvd_sub dq dp)
      omega
    · exact h
  · have := dvd_step (by omega) (show 0 < q.at_ + szI q.len - p.at_ by omega) (Int.dvd_sub (Int.dvd_add dq dm) dp)
    omega
theorem insQ_iff {p q : Pfx} : insQ p q = true ↔ p.right = true ∧ q.right = true ∧ q.len ≤ p.len ∧ q.at_ ≤ p.at_ ∧ p.at_ < q.hi := by
  unfold insQ insP Pfx.right
  constructor
  · intro h
    simp only [Bool.and_eq_true, decide_eq_true_eq, beq_iff_eq] at h
    obtain ⟨⟨⟨h1, h2⟩, h3⟩, h4⟩ := h
    obtain ⟨b1, b2, b3, b4, b5⟩ := right_bd h2
    have := (blk_iff (by have := szI_bd b1; omega) b5).1 h4
    exact ⟨h1, h2, h3, this.1, this.2⟩
  · intro ⟨h1, h2, h3, h4, h5⟩
    obtain ⟨b1, b2, b3, b4, b5⟩ := right_bd h2
    simp only [Bool.and_eq_true, decide_eq_true_eq, beq_iff_eq]
    exact ⟨⟨⟨h1, h2⟩, h3⟩, (blk_iff (by have := szI_bd b1; omega) b5).2 ⟨h4, h5⟩⟩
theorem meets_iff {p q : Pfx} : p.meets q = true ↔ p.right = true ∧ q.right = true ∧ p.at_ < q.hi ∧ q.at_ < p.hi := by
  have e : p.meets q = (insQ p q || insQ q p) := rfl
  rw [e, Bool.or_eq_true, insQ_iff, insQ_iff]
  constructor
  · rintro (⟨h1, h2, h3, h4, h5⟩ | ⟨h1, h2, h3, h4, h5⟩)
    · exact ⟨h1, h2, h5, by have := p.hi_bd h1; omega⟩
    · exact ⟨h2, h1, by have := q.hi_bd h1; omega, h5⟩
  · intro ⟨h1, h2, h3, h4⟩
    rcases Int.le_total q.len p.len with hl | hl
    · exact .inl ⟨h1, h2, hl, (nest h1 h2 hl h3 h4).1, h3⟩
    · exact .inr ⟨h2, h1, hl, (nest h2 h1 hl h4 h3).1, h4⟩
theorem holdB_iff {p : Pfx} {x : Int} : holdB p.at_ p.len x = true ↔ p.right = true ∧ p.at_ ≤ x ∧ x < p.hi := by
  unfold holdB within lastI Pfx.right Pfx.hi
  simp only [Bool.and_eq_true, decide_eq_true_eq]
  constructor
  · intro ⟨h1, h2, h3⟩; exact ⟨h1, h2, by omega⟩
  · intro ⟨h1, h2, h3⟩; exact ⟨h1, h2, by omega⟩
theorem holdP_eq (p : Pfx) (x : Int) : holdP p.at_ p.len x = holdB p.at_ p.len x := by
  rw [Bool.eq_iff_iff, holdB_iff]
  unfold holdP Pfx.right
  simp only [Bool.and_eq_true, decide_eq_true_eq, beq_iff_eq]
  constructor
  · intro ⟨h1, h2, h3, h4⟩
    obtain ⟨b1, b2, b3, b4, b5⟩ := right_bd h1
    have := (blk_iff (by have := szI_bd b1; omega) b5).1 h4
    exact ⟨h1, this.1, this.2⟩
  · intro ⟨h1, h2, h3⟩
    obtain ⟨b1, b2, b3, b4, b5⟩ := right_bd h1
    have hf := p.hi_bd h1
    exact ⟨h1, by omega, by omega, (blk_iff (by have := szI_bd b1; omega) b5).2 ⟨h2, h3⟩⟩
theorem sizeI_right {a l : Int} (h : rightB a l = true) : sizeI a l = szI l := by unfold sizeI; rw [if_pos h]
end Go.Proofs.YtgmbhaclogabeaaGreat
namespace Go.Proofs.YtgmbhaclogabeaaGreat
open Go Go.RowKit
/-- May it be a pool's or a network's number? -/
def idOK (n : Int) : Bool := decide (1 ≤ n) && decide (n ≤ 65536)
theorem vids_p (n : Int) : PSpec Tryz.prog 55 [.v (.int .i64 n)] (.v (.bool (idOK n))) := by
  cases e1 : decide (n ≥ 1) with
  | true =>
    have h1 : decide (1 ≤ n) = true := e1
    refine ps_i tab_ok mixed Tryz.func55 rfl Tryz.ntmps55 Tryz.results55 (by kernel_rfl) ?_
    repeat' (first | (with_reducible refine And.intro ?_ ?_) | (with_reducible refine gK_i (fun _ => ?_) (fun _ => ?_)) | (with_reducible refine condS_i (fun _ => ?_) (fun _ => ?_)) | (with_reducible refine drw_i (by kernel_rfl)) | simp -dsimp only [go_sem, seval, *, e1] | ((with_reducible refine opK_c ?_); simp -dsimp only [go_sem, seval, e1]; first | refine callK_r (by first | assumption | fail) (by first | exact .inl rfl | exact .inr rfl) ?_ | (refine callK_i (by assumption) ?_ ?_ ?_; (solve | (repeat (first | exact DLe.refl _ | exact DLe.nil _ | (refine DLe.tup ?_) | (refine DLe.agg ?_ rfl) | exact trivial | (refine And.intro ?_ ?_)))); (solve | exact .inl rfl | exact .inr rfl))) | fail | omega | exact decide_eq_true (by omega) | exact DLe.refl _)
    all_goals (unfold idOK; rw [h1]; exact DLe.refl _)
  | false =>
    have h1 : decide (1 ≤ n) = false := e1
    refine ps_i tab_ok mixed Tryz.func55 rfl Tryz.ntmps55 Tryz.results55 (by kernel_rfl) ?_
    repeat' (first | (with_reducible refine And.intro ?_ ?_) | (with_reducible refine gK_i (fun _ => ?_) (fun _ => ?_)) | (with_reducible refine condS_i (fun _ => ?_) (fun _ => ?_)) | (with_reducible refine drw_i (by kernel_rfl)) | simp -dsimp only [go_sem, seval, *, e1] | ((with_reducible refine opK_c ?_); simp -dsimp only [go_sem, seval, e1]; first | refine callK_r (by first | assumption | fail) (by first | exact .inl rfl | exact .inr rfl) ?_ | (refine callK_i (by assumption) ?_ ?_ ?_; (solve | (repeat (first | exact DLe.refl _ | exact DLe.nil _ | (refine DLe.tup ?_) | (refine DLe.agg ?_ rfl) | exact trivial | (refine And.intro ?_ ?_)))); (solve | exact .inl rfl | exact .inr rfl))) | fail | omega | exact decide_eq_true (by omega) | exact DLe.refl _)
    all_goals (unfold idOK; rw [h1]; exact DLe.refl _)
theorem dle_b {x y : Bool} (h : x = y) : DLe (.v (.bool x)) (.v (.bool y)) := h ▸ DLe.refl _
/-- More than there may be. -/
def manyF (f : Fce) : Bool := decide ((f.addrs.length : Int) > 4)
def manyN (s : Sbn) : Bool := decide ((s.faces.length : Int) > 8) || s.faces.any manyF
def manyV (v : Vpc) : Bool := decide ((v.ranges.length : Int) > 4) || (decide ((v.subs.length : Int) > 6) || v.subs.any manyN)
theorem many11_p (f : Fce) : PSpec Tryz.prog 101 [.agg (encF f)] (.v (.bool (manyF f))) := by
  refine ps_i tab_ok mixed Tryz.func101 rfl Tryz.ntmps101 Tryz.results101 (by kernel_rfl) ?_
  repeat' (first | (with_reducible refine And.intro ?_ ?_) | (with_reducible refine gK_i (fun _ => ?_) (fun _ => ?_)) | (with_reducible refine condS_i (fun _ => ?_) (fun _ => ?_)) | (with_reducible refine drw_i (by kernel_rfl)) | simp -dsimp only [go_sem, seval, *, encF] | ((with_reducible refine opK_c ?_); simp -dsimp only [go_sem, seval, encF]; first | refine callK_r (by first | assumption | fail) (by first | exact .inl rfl | exact .inr rfl) ?_ | (refine callK_i (by assumption) ?_ ?_ ?_; (solve | (repeat (first | exact DLe.refl _ | exact DLe.nil _ | (refine DLe.tup ?_) | (refine DLe.agg ?_ rfl) | exact trivial | (refine And.intro ?_ ?_)))); (solve | exact .inl rfl | exact .inr rfl))) | fail | omega | exact decide_eq_true (by omega) | exact DLe.refl _)
  all_goals exact DLe.refl _
theorem many1_p (s : Sbn) : PSpec Tryz.prog 99 [.agg (encN s)] (.v (.bool (manyN s))) := by
  unfold manyN
  by_cases h : s.faces.length > 8
  · have h1 : decide ((s.faces.length : Int) > 8) = true := by simp; omega
    rw [h1]
    refine ps_i tab_ok mixed Tryz.func99 rfl Tryz.ntmps99 Tryz.results99 (by kernel_rfl) ?_
    repeat' (first | (with_reducible refine And.intro ?_ ?_) | (with_reducible refine gK_i (fun _ => ?_) (fun _ => ?_)) | (with_reducible refine condS_i (fun _ => ?_) (fun _ => ?_)) | (with_reducible refine drw_i (by kernel_rfl)) | simp -dsimp only [go_sem, seval, *, encN, h1, undef] | ((with_reducible refine opK_c ?_); simp -dsimp only [go_sem, seval, encN, h1, undef]; first | refine callK_r (by first | assumption | fail) (by first | exact .inl rfl | exact .inr rfl) ?_ | (refine callK_i (by assumption) ?_ ?_ ?_; (solve | (repeat (first | exact DLe.refl _ | exact DLe.nil _ | (refine DLe.tup ?_) | (refine DLe.agg ?_ rfl) | exact trivial | (refine And.intro ?_ ?_)))); (solve | exact .inl rfl | exact .inr rfl))) | fail | omega | exact decide_eq_true (by omega) | exact DLe.refl _)
    all_goals exact DLe.refl _
  · have h1 : decide ((s.faces.length : Int) > 8) = false := by simp; omega
    have hc := cntf_Face encF_len manyF s.faces 101 [] (by omega) (fun f _ => many11_p f)
    rw [h1]
    refine ps_i tab_ok mixed Tryz.func99 rfl Tryz.ntmps99 Tryz.results99 (by kernel_rfl) ?_
    repeat' (first | (with_reducible refine And.intro ?_ ?_) | (with_reducible refine gK_i (fun _ => ?_) (fun _ => ?_)) | (with_reducible refine condS_i (fun _ => ?_) (fun _ => ?_)) | (with_reducible refine drw_i (by kernel_rfl)) | simp -dsimp only [go_sem, seval, *, encN, h1, undef] | ((with_reducible refine opK_c ?_); simp -dsimp only [go_sem, seval, encN, h1, undef]; first | refine callK_r (by first | assumption | exact hc) (by first | exact .inl rfl | exact .inr rfl) ?_ | (refine callK_i (by assumption) ?_ ?_ ?_; (solve | (repeat (first | exact DLe.refl _ | exact DLe.nil _ | (refine DLe.tup ?_) | (refine DLe.agg ?_ rfl) | exact trivial | (refine And.intro ?_ ?_)))); (solve | exact .inl rfl | exact .inr rfl))) | fail | omega | exact decide_eq_true (by omega) | exact DLe.refl _)
    all_goals exact DLe.refl _
theorem many_p (v : Vpc) : PSpec Tryz.prog 68 [.agg (encV v)] (.v (.bool (manyV v))) := by
  unfold manyV
  cases h1 : decide ((v.ranges.length : Int) > 4) with
  | true =>
    refine ps_i tab_ok mixed Tryz.func68 rfl Tryz.ntmps68 Tryz.results68 (by kernel_rfl) ?_
    repeat' (first | (with_reducible refine And.intro ?_ ?_) | (with_reducible refine gK_i (fun _ => ?_) (fun _ => ?_)) | (with_reducible refine condS_i (fun _ => ?_) (fun _ => ?_)) | (with_reducible refine drw_i (by kernel_rfl)) | simp -dsimp only [go_sem, seval, *, encV, h1, undef] | ((with_reducible refine opK_c ?_); simp -dsimp only [go_sem, seval, encV, h1, undef]; first | refine callK_r (by first | assumption | fail) (by first | exact .inl rfl | exact .inr rfl) ?_ | (refine callK_i (by assumption) ?_ ?_ ?_; (solve | (repeat (first | exact DLe.refl _ | exact DLe.nil _ | (refine DLe.tup ?_) | (refine DLe.agg ?_ rfl) | exact trivial | (refine And.intro ?_ ?_)))); (solve | exact .inl rfl | exact .inr rfl))) | fail | omega | exact decide_eq_true (by omega) | exact DLe.refl _)
    all_goals exact DLe.refl _
  | false =>
    cases h2 : decide ((v.subs.length : Int) > 6) with
    | true =>
      refine ps_i tab_ok mixed Tryz.func68 rfl Tryz.ntmps68 Tryz.results68 (by kernel_rfl) ?_
      repeat' (first | (with_reducible refine And.intro ?_ ?_) | (with_reducible refine gK_i (fun _ => ?_) (fun _ => ?_)) | (with_reducible refine condS_i (fun _ => ?_) (fun _ => ?_)) | (with_reducible refine drw_i (by kernel_rfl)) | simp -dsimp only [go_sem, seval, *, encV, h1, h2, undef] | ((with_reducible refine opK_c ?_); simp -dsimp only [go_sem, seval, encV, h1, h2, undef]; first | refine callK_r (by first | assumption | fail) (by first | exact .inl rfl | exact .inr rfl) ?_ | (refine callK_i (by assumption) ?_ ?_ ?_; (solve | (repeat (first | exact DLe.refl _ | exact DLe.nil _ | (refine DLe.tup ?_) | (refine DLe.agg ?_ rfl) | exact trivial | (refine And.intro ?_ ?_)))); (solve | exact .inl rfl | exact .inr rfl))) | fail | omega | exact decide_eq_true (by omega) | exact DLe.refl _)
      all_goals exact DLe.refl _
    | false =>
      have hl : v.subs.length ≤ 6 := by simp at h2; omega
      have hc := cntf_Sub encN_len manyN v.subs 99 [] (by omega) (fun f _ => many1_p f)
      refine ps_i tab_ok mixed Tryz.func68 rfl Tryz.ntmps68 Tryz.results68 (by kernel_rfl) ?_
      repeat' (first | (with_reducible refine And.intro ?_ ?_) | (with_reducible refine gK_i (fun _ => ?_) (fun _ => ?_)) | (with_reducible refine condS_i (fun _ => ?_) (fun _ => ?_)) | (with_reducible refine drw_i (by kernel_rfl)) | simp -dsimp only [go_sem, seval, *, encV, h1, h2, undef] | ((with_reducible refine opK_c ?_); simp -dsimp only [go_sem, seval, encV, h1, h2, undef]; first | refine callK_r (by first | assumption | exact hc) (by first | exact .inl rfl | exact .inr rfl) ?_ | (refine callK_i (by assumption) ?_ ?_ ?_; (solve | (repeat (first | exact DLe.refl _ | exact DLe.nil _ | (refine DLe.tup ?_) | (refine DLe.agg ?_ rfl) | exact trivial | (refine And.intro ?_ ?_)))); (solve | exact .inl rfl | exact .inr rfl))) | fail | omega | exact decide_eq_true (by omega) | exact DLe.refl _)
      all_goals exact DLe.refl _
theorem manyV_ok {v : Vpc} (h : manyV v = false) : v.ranges.length ≤ 4 ∧ v.subs.length ≤ 6 ∧ ∀ s ∈ v.subs, s.faces.length ≤ 8 ∧ ∀ f ∈ s.faces, f.addrs.length ≤ 4 := by
  simp only [manyV, manyN, manyF, Bool.or_eq_false_iff, decide_eq_false_iff_not, List.any_eq_false] at h
  refine ⟨by omega, by omega, fun s hs => ?_⟩
  have h1 := h.2.2 s hs
  simp only [Bool.not_eq_true, Bool.or_eq_false_iff, decide_eq_false_iff_not, List.any_eq_false, decide_eq_true_eq] at h1
  exact ⟨by omega, fun f hf => by have h2 := h1.2 f hf; revert h2; simp [manyF]; omega⟩
/-- Is a prefix inside of a range? -/
def holdsV (v : Vpc) (p : Pfx) : Bool := v.ranges.any fun r => insQ p r.at_
theorem holds1_p (r : Rng) (p : Pfx) : PSpec Tryz.prog 102 [.agg (encG r), .ept (encP p)] (.v (.bool (insQ p r.at_))) := by
  have hi : PSpec Tryz.prog 90 [.agg (encP p), .agg (encP r.at_)] (.v (.bool (insQ p r.at_))) := inside_p p r.at_
  refine ps_i tab_ok mixed Tryz.func102 rfl Tryz.ntmps102 Tryz.results102 (by kernel_rfl) ?_
  repeat' (first | (with_reducible refine And.intro ?_ ?_) | (with_reducible refine gK_i (fun _ => ?_) (fun _ => ?_)) | (with_reducible refine condS_i (fun _ => ?_) (fun _ => ?_)) | (with_reducible refine drw_i (by kernel_rfl)) | simp -dsimp only [go_sem, seval, *, encG, encP] | ((with_reducible refine opK_c ?_); simp -dsimp only [go_sem, seval, encG, encP]; first | refine callK_r (by first | assumption | exact hi) (by first | exact .inl rfl | exact .inr rfl) ?_ | (refine callK_i (by assumption) ?_ ?_ ?_; (solve | (repeat (first | exact DLe.refl _ | exact DLe.nil _ | (refine DLe.tup ?_) | (refine DLe.agg ?_ rfl) | exact trivial | (refine And.intro ?_ ?_)))); (solve | exact .inl rfl | exact .inr rfl))) | fail | omega | exact decide_eq_true (by omega) | exact DLe.refl _)
theorem vholds_p (v : Vpc) (p : Pfx) (hl : v.ranges.length ≤ 1000000000) : PSpec Tryz.prog 73 [.agg (encV v), .agg (encP p)] (.v (.bool (holdsV v p))) := by
  have hc := cntf_Range encG_len (fun r => insQ p r.at_) v.ranges 102 [.ept (encP p)] hl (fun r _ => holds1_p r p)
  refine ps_i tab_ok mixed Tryz.func73 rfl Tryz.ntmps73 Tryz.results73 (by kernel_rfl) ?_
  repeat' (first | (with_reducible refine And.intro ?_ ?_) | (with_reducible refine gK_i (fun _ => ?_) (fun _ => ?_)) | (with_reducible refine condS_i (fun _ => ?_) (fun _ => ?_)) | (with_reducible refine drw_i (by kernel_rfl)) | simp -dsimp only [go_sem, seval, *, encV, encP] | ((with_reducible refine opK_c ?_); simp -dsimp only [go_sem, seval, encV, encP]; first | refine callK_r (by first | assumption | exact hc) (by first | exact .inl rfl | exact .inr rfl) ?_ | (refine callK_i (by assumption) ?_ ?_ ?_; (solve | (repeat (first | exact DLe.refl _ | exact DLe.nil _ | (refine DLe.tup ?_) | (refine DLe.agg ?_ rfl) | exact trivial | (refine And.intro ?_ ?_)))); (solve | exact .inl rfl | exact .inr rfl))) | fail | omega | exact decide_eq_true (by omega) | exact DLe.refl _)
theorem holds_p (p : Pfx) (x : Int) : PSpec Tryz.prog 136 [.agg (encP p), .v (.int .i64 x)] (.v (.bool (holdP p.at_ p.len x))) := pspec_flat (fnok_of Tryz.func136 (by kernel_rfl) rfl) (by intro d hd; simp at hd; (repeat (first | (obtain rfl := hd; rfl) | (rcases hd with rfl | hd; · rfl)))) rfl rfl (fun w => holds_any _ _ _ _)
/-- May a face have an address? -/
def innB (p : Pfx) (x : Int) : Bool := holdP p.at_ p.len x && (decide (x > p.at_) && decide (x < p.at_ + szI p.len - 1))
set_option maxRecDepth 100000 in
theorem inner_p (p : Pfx) (x : Int) : PSpec Tryz.prog 105 [.agg (encP p), .v (.int .i64 x)] (.v (.bool (innB p x))) := by
  have hh := holds_p p x
  unfold innB
  cases h1 : holdP p.at_ p.len x with
  | false =>
    rw [h1] at hh
    refine ps_i tab_ok mixed Tryz.func105 rfl Tryz.ntmps105 Tryz.results105 (by kernel_rfl) ?_
    repeat' (first | (with_reducible refine And.intro ?_ ?_) | (with_reducible refine gK_i (fun _ => ?_) (fun _ => ?_)) | (with_reducible refine condS_i (fun _ => ?_) (fun _ => ?_)) | (with_reducible refine drw_i (by kernel_rfl)) | simp -dsimp only [go_sem, seval, *, encP, undef] | ((with_reducible refine opK_c ?_); simp -dsimp only [go_sem, seval, encP, undef]; first | refine callK_r (by first | assumption | exact hh) (by first | exact .inl rfl | exact .inr rfl) ?_ | (refine callK_i (by assumption) ?_ ?_ ?_; (solve | (repeat (first | exact DLe.refl _ | exact DLe.nil _ | (refine DLe.tup ?_) | (refine DLe.agg ?_ rfl) | exact trivial | (refine And.intro ?_ ?_)))); (solve | exact .inl rfl | exact .inr rfl))) | fail | omega | exact decide_eq_true (by omega) | exact DLe.refl _)
    all_goals exact DLe.refl _
  | true =>
    have hr : p.right = true := (holdB_iff.1 (by rw [← holdP_eq]; exact h1)).1
    obtain ⟨b1, b2, b3, b4, -⟩ := p.bd hr
    have hs := szI_bd b1
    have hsi := size_p p
    rw [sizeI_right hr] at hsi
    have hw1 : IntKind.i64.wrap (p.at_ + szI p.len) = p.at_ + szI p.len := by rw [IntKind.wrap_i64]; omega
    have hw2 : IntKind.i64.wrap (p.at_ + szI p.len - 1) = p.at_ + szI p.len - 1 := by rw [IntKind.wrap_i64]; omega
    rw [h1] at hh
    generalize szI p.len = Z at *
    cases h2 : decide (x > p.at_) with
    | false =>
      refine ps_i tab_ok mixed Tryz.func105 rfl Tryz.ntmps105 Tryz.results105 (by kernel_rfl) ?_
      repeat' (first | (with_reducible refine And.intro ?_ ?_) | (with_reducible refine gK_i (fun _ => ?_) (fun _ => ?_)) | (with_reducible refine condS_i (fun _ => ?_) (fun _ => ?_)) | (with_reducible refine drw_i (by kernel_rfl)) | simp -dsimp only [go_sem, seval, *, encP, h2, undef] | ((with_reducible refine opK_c ?_); simp -dsimp only [go_sem, seval, encP, h2, undef]; first | refine callK_r (by first | assumption | exact hh) (by first | exact .inl rfl | exact .inr rfl) ?_ | (refine callK_i (by assumption) ?_ ?_ ?_; (solve | (repeat (first | exact DLe.refl _ | exact DLe.nil _ | (refine DLe.tup ?_) | (refine DLe.agg ?_ rfl) | exact trivial | (refine And.intro ?_ ?_)))); (solve | exact .inl rfl | exact .inr rfl))) | fail | omega | exact decide_eq_true (by omega) | exact DLe.refl _)
      all_goals exact DLe.refl _
    | true =>
      refine ps_i tab_ok mixed Tryz.func105 rfl Tryz.ntmps105 Tryz.results105 (by kernel_rfl) ?_
      repeat' (first | (with_reducible refine And.intro ?_ ?_) | (with_reducible refine gK_i (fun _ => ?_) (fun _ => ?_)) | (with_reducible refine condS_i (fun _ => ?_) (fun _ => ?_)) | (with_reducible refine drw_i (by kernel_rfl)) | simp -dsimp only [go_sem, seval, *, encP, h2, hw1, hw2, undef] | ((with_reducible refine opK_c ?_); simp -dsimp only [go_sem, seval, encP, h2, hw1, hw2, undef]; first | refine callK_r (by first | assumption | exact hh | exact hsi) (by first | exact .inl rfl | exact .inr rfl) ?_ | (refine callK_i (by assumption) ?_ ?_ ?_; (solve | (repeat (first | exact DLe.refl _ | exact DLe.nil _ | (refine DLe.tup ?_) | (refine DLe.agg ?_ rfl) | exact trivial | (refine And.intro ?_ ?_)))); (solve | exact .inl rfl | exact .inr rfl))) | fail | omega | exact decide_eq_true (by omega) | exact DLe.refl _)
      all_goals exact DLe.refl _
/-- Do these numbers rise? -/
def risB {α : Type} (key : α → Int) : List α → Bool
  | a :: b :: l => decide (key a < key b) && risB key (b :: l)
  | _ => true
theorem risB_at {α : Type} {key : α → Int} : ∀ (l : List α), risB key l = true ↔ ∀ j (h : j + 1 < l.length), key l[j] < key l[j + 1]
  | [] => by simp [risB]
  | [a] => by simp [risB]
  | a :: b :: l => by
    have ih := risB_at (key := key) (b :: l)
    simp only [risB, Bool.and_eq_true, decide_eq_true_eq, ih]
    constructor
    · rintro ⟨h1, h2⟩ j hj
      cases j with
      | zero => exact h1
      | succ j => exact h2 j (by simpa using hj)
    · intro h
      exact ⟨h 0 (by simp), fun j hj => h (j + 1) (by simpa using hj)⟩
theorem risB_pair {α : Type} {key : α → Int} : ∀ (l : List α), risB key l = true ↔ l.Pairwise fun a b => key a < key b
  | [] => by simp [risB]
  | [a] => by simp [risB]
  | a :: b :: l => by
    have ih := risB_pair (key := key) (b :: l)
    simp only [risB, Bool.and_eq_true, decide_eq_true_eq, ih]
    constructor
    · rintro ⟨h1, h2⟩
      refine List.pairwise_cons.2 ⟨fun x hx => ?_, h2⟩
      rcases List.mem_cons.1 hx with rfl | hx
      · exact h1
      · have := (List.pairwise_cons.1 h2).1 x hx; omega
    · intro h
      obtain ⟨h1, h2⟩ := List.pairwise_cons.1 h
      exact ⟨h1 b (by simp), h2⟩
set_option maxHeartbeats 1000000 in
theorem rises_Range {α : Type} {enc : α → List D} (henc : ∀ x, (enc x).length = 3) (key : α → Int) (l : List α) (g : Nat) (hl : l.length ≤ 1000000000) (hc : ∀ x ∈ l, PSpec Tryz.prog g [.agg (enc x)] (.v (.int .i64 (key x)))) :
    PSpec Tryz.prog 69 [.sl 3 (l.map enc), .clo g []] (.v (.bool (risB key l))) := by
  refine ps_i tab_ok mixed Tryz.func69 rfl Tryz.ntmps69 Tryz.results69 (by kernel_rfl) ?_
  repeat' (first | (with_reducible refine And.intro ?_ ?_) | (with_reducible refine gK_i (fun _ => ?_) (fun _ => ?_)) | (with_reducible refine condS_i (fun _ => ?_) (fun _ => ?_)) | (with_reducible refine drw_i (by kernel_rfl)) | simp -dsimp only [go_sem, seval, *, bne_self_eq_false] | ((with_reducible refine opK_c ?_); simp -dsimp only [go_sem, seval, bne_self_eq_false]; first | refine callK_r (by first | assumption | fail) (by first | exact .inl rfl | exact .inr rfl) ?_ | (refine callK_i (by assumption) ?_ ?_ ?_; (solve | (repeat (first | exact DLe.refl _ | exact DLe.nil _ | (refine DLe.tup ?_) | (refine DLe.agg ?_ rfl) | exact trivial | (refine And.intro ?_ ?_)))); (solve | exact .inl rfl | exact .inr rfl))) | fail | omega | exact decide_eq_true (by omega) | exact DLe.refl _)
  refine loopG tab_ok mixed (fun m e h => ∃ k : Nat, 1 ≤ k ∧ (∀ j (h : j + 1 < l.length), j + 1 < k → key l[j] < key l[j + 1]) ∧ m = l.length - k ∧ e = [(5, .d (.v (.int .i64 k))), (4, .d (.v (.bool false))), (1, .d (.clo g [])), (0, .d (.sl 3 (l.map enc)))] ∧ h = []) _ _ _ ⟨1, Nat.le_refl _, fun j h h1 => by omega, rfl, rfl, rfl⟩ ?_ ?_
  · exact weak_forget [] (by simp) rfl ⟨rfl, rfl, rfl, rfl, trivial⟩ (by first | rfl | simp only [belowH, belowE, belowC, belowL, belowR, belowP, belowL_d, belowR_d, List.length_cons, List.length_nil, Nat.reduceAdd, Nat.reduceLT, decide_true, Bool.and_self, Bool.and_true]) (by first | rfl | simp only [belowH, belowE, belowC, belowL, belowR, belowP, belowL_d, belowR_d, List.length_cons, List.length_nil, Nat.reduceAdd, Nat.reduceLT, decide_true, Bool.and_self, Bool.and_true])
  · rintro m e h ⟨k, hk1, hok, hm, rfl, rfl⟩ CL hCL
    by_cases hlt : k < l.length
    · obtain ⟨x, hx⟩ : ∃ x, l[k - 1]? = some x := ⟨_, List.getElem?_eq_getElem (by omega)⟩
      obtain ⟨y, hy⟩ : ∃ y, l[k]? = some y := ⟨_, List.getElem?_eq_getElem hlt⟩
      have hltI : (k : Int) < (l.length : Int) := by omega
      have hwr : IntKind.i64.wrap ((k : Int) + 1) = ((k + 1 : Nat) : Int) := by rw [IntKind.wrap_i64]; omega
      have hwm : IntKind.i64.wrap ((k : Int) - 1) = ((k - 1 : Nat) : Int) := by rw [IntKind.wrap_i64]; omega
      have hlx := henc x
      have hly := henc y
      have htx : (enc x).take 3 = enc x := List.take_of_length_le (by omega)
      have hty : (enc y).take 3 = enc y := List.take_of_length_le (by omega)
      have hcx := hc x (List.mem_of_getElem? hx)
      have hcy := hc y (List.mem_of_getElem? hy)
      have hxe : l[k - 1]'(by omega) = x := by rw [List.getElem?_eq_getElem (by omega)] at hx; exact Option.some.inj hx
      have hye : l[k] = y := by rw [List.getElem?_eq_getElem hlt] at hy; exact Option.some.inj hy
      replace hxe := Lib.hid hxe
      replace hye := Lib.hid hye
      replace hm := Lib.hid hm
      cases hge : decide (key x ≥ key y) with
      | true =>
        have hr : risB key l = false := by
          rw [Bool.eq_false_iff, ne_eq, risB_at]
          intro h
          have := h (k - 1) (by omega)
          simp only [show k - 1 + 1 = k by omega, hxe.out, hye.out] at this
          simp at hge; omega
        repeat' (first | (with_reducible refine And.intro ?_ ?_) | (with_reducible refine gK_i (fun _ => ?_) (fun _ => ?_)) | (with_reducible refine condS_i (fun _ => ?_) (fun _ => ?_)) | (with_reducible refine drw_i (by kernel_rfl)) | simp -dsimp only [go_sem, seval, *, hx, hy, hltI, hwm, htx, hty, hlx, hly, hge, vwL_d, tcL_d] | ((with_reducible refine opK_c ?_); simp -dsimp only [go_sem, seval, hx, hy, hltI, hwm, htx, hty, hlx, hly, hge, vwL_d, tcL_d]; first | refine callK_r (by first | assumption | exact hcx | exact hcy) (by first | exact .inl rfl | exact .inr rfl) ?_ | (refine callK_i (by assumption) ?_ ?_ ?_; (solve | (repeat (first | exact DLe.refl _ | exact DLe.nil _ | (refine DLe.tup ?_) | (refine DLe.agg ?_ rfl) | exact trivial | (refine And.intro ?_ ?_)))); (solve | exact .inl rfl | exact .inr rfl))) | fail | omega | exact decide_eq_true (by omega) | exact DLe.refl _)
        all_goals (rw [hr]; exact DLe.refl _)
      | false =>
        repeat' (first | (with_reducible refine And.intro ?_ ?_) | (with_reducible refine gK_i (fun _ => ?_) (fun _ => ?_)) | (with_reducible refine condS_i (fun _ => ?_) (fun _ => ?_)) | (with_reducible refine drw_i (by kernel_rfl)) | simp -dsimp only [go_sem, seval, *, hx, hy, hltI, hwr, hwm, htx, hty, hlx, hly, hge, vwL_d, tcL_d] | ((with_reducible refine opK_c ?_); simp -dsimp only [go_sem, seval, hx, hy, hltI, hwr, hwm, htx, hty, hlx, hly, hge, vwL_d, tcL_d]; first | refine callK_r (by first | assumption | exact hcx | exact hcy) (by first | exact .inl rfl | exact .inr rfl) ?_ | (refine callK_i (by assumption) ?_ ?_ ?_; (solve | (repeat (first | exact DLe.refl _ | exact DLe.nil _ | (refine DLe.tup ?_) | (refine DLe.agg ?_ rfl) | exact trivial | (refine And.intro ?_ ?_)))); (solve | exact .inl rfl | exact .inr rfl))) | fail | omega | exact decide_eq_true (by omega) | exact DLe.refl _)
        refine hCL _ _ _ _ _ ?_ ⟨k + 1, by omega, fun j hj hjk => ?_, rfl, rfl, rfl⟩ (weak_forget [] (by simp) rfl ⟨rfl, rfl, rfl, rfl, trivial⟩ (by first | rfl | simp only [belowH, belowE, belowC, belowL, belowR, belowP, belowL_d, belowR_d, List.length_cons, List.length_nil, Nat.reduceAdd, Nat.reduceLT, decide_true, Bool.and_self, Bool.and_true]) (by first | rfl | simp only [belowH, belowE, belowC, belowL, belowR, belowP, belowL_d, belowR_d, List.length_cons, List.length_nil, Nat.reduceAdd, Nat.reduceLT, decide_true, Bool.and_self, Bool.and_true]))
        · have := hm.out; omega
        · rcases Nat.lt_or_ge (j + 1) k with h | h
          · exact hok j hj h
          · obtain rfl : j = k - 1 := by omega
            simp only [show k - 1 + 1 = k by omega, hxe.out, hye.out]
            simp at hge; omega
    · have hltI : decide ((k : Int) < (l.length : Int)) = false := by simp; omega
      have hr : risB key l = true := (risB_at l).2 fun j hj => hok j hj (by omega)
      replace hm := Lib.hid hm
      repeat' (first | (with_reducible refine And.intro ?_ ?_) | (with_reducible refine gK_i (fun _ => ?_) (fun _ => ?_)) | (with_reducible refine condS_i (fun _ => ?_) (fun _ => ?_)) | (with_reducible refine drw_i (by kernel_rfl)) | simp -dsimp only [go_sem, seval, *, hltI] | ((with_reducible refine opK_c ?_); simp -dsimp only [go_sem, seval, hltI]; first | refine callK_r (by first | assumption | fail) (by first | exact .inl rfl | exact .inr rfl) ?_ | (refine callK_i (by assumption) ?_ ?_ ?_; (solve | (repeat (first | exact DLe.refl _ | exact DLe.nil _ | (refine DLe.tup ?_) | (refine DLe.agg ?_ rfl) | exact trivial | (refine And.intro ?_ ?_)))); (solve | exact .inl rfl | exact .inr rfl))) | fail | omega | exact decide_eq_true (by omega) | exact DLe.refl _)
      all_goals (rw [hr]; exact DLe.refl _)
set_option maxHeartbeats 1000000 in
theorem rises_Sub {α : Type} {enc : α → List D} (henc : ∀ x, (enc x).length = 4) (key : α → Int) (l : List α) (g : Nat) (hl : l.length ≤ 1000000000) (hc : ∀ x ∈ l, PSpec Tryz.prog g [.agg (enc x)] (.v (.int .i64 (key x)))) :
    PSpec Tryz.prog 71 [.sl 4 (l.map enc), .clo g []] (.v (.bool (risB key l))) := by
  refine ps_i tab_ok mixed Tryz.func71 rfl Tryz.ntmps71 Tryz.results71 (by kernel_rfl) ?_
  repeat' (first | (with_reducible refine And.intro ?_ ?_) | (with_reducible refine gK_i (fun _ => ?_) (fun _ => ?_)) | (with_reducible refine condS_i (fun _ => ?_) (fun _ => ?_)) | (with_reducible refine drw_i (by kernel_rfl)) | simp -dsimp only [go_sem, seval, *, bne_self_eq_false] | ((with_reducible refine opK_c ?_); simp -dsimp only [go_sem, seval, bne_self_eq_false]; first | refine callK_r (by first | assumption | fail) (by first | exact .inl rfl | exact .inr rfl) ?_ | (refine callK_i (by assumption) ?_ ?_ ?_; (solve | (repeat (first | exact DLe.refl _ | exact DLe.nil _ | (refine DLe.tup ?_) | (refine DLe.agg ?_ rfl) | exact trivial | (refine And.intro ?_ ?_)))); (solve | exact .inl rfl | exact .inr rfl))) | fail | omega | exact decide_eq_true (by omega) | exact DLe.refl _)
  refine loopG tab_ok mixed (fun m e h => ∃ k : Nat, 1 ≤ k ∧ (∀ j (h : j + 1 < l.length), j + 1 < k → key l[j] < key l[j + 1]) ∧ m = l.length - k ∧ e = [(5, .d (.v (.int .i64 k))), (4, .d (.v (.bool false))), (1, .d (.clo g [])), (0, .d (.sl 4 (l.map enc)))] ∧ h = []) _ _ _ ⟨1, Nat.le_refl _, fun j h h1 => by omega, rfl, rfl, rfl⟩ ?_ ?_
  · exact weak_forget [] (by simp) rfl ⟨rfl, rfl, rfl, rfl, trivial⟩ (by first | rfl | simp only [belowH, belowE, belowC, belowL, belowR, belowP, belowL_d, belowR_d, List.length_cons, List.length_nil, Nat.reduceAdd, Nat.reduceLT, decide_true, Bool.and_self, Bool.and_true]) (by first | rfl | simp only [belowH, belowE, belowC, belowL, belowR, belowP, belowL_d, belowR_d, List.length_cons, List.length_nil, Nat.reduceAdd, Nat.reduceLT, decide_true, Bool.and_self, Bool.and_true])
  · rintro m e h ⟨k, hk1, hok, hm, rfl, rfl⟩ CL hCL
    by_cases hlt : k < l.length
    · obtain ⟨x, hx⟩ : ∃ x, l[k - 1]? = some x := ⟨_, List.getElem?_eq_getElem (by omega)⟩
      obtain ⟨y, hy⟩ : ∃ y, l[k]? = some y := ⟨_, List.getElem?_eq_getElem hlt⟩
      have hltI : (k : Int) < (l.length : Int) := by omega
      have hwr : IntKind.i64.wrap ((k : Int) + 1) = ((k + 1 : Nat) : Int) := by rw [IntKind.wrap_i64]; omega
      have hwm : IntKind.i64.wrap ((k : Int) - 1) = ((k - 1 : Nat) : Int) := by rw [IntKind.wrap_i64]; omega
      have hlx := henc x
      have hly := henc y
      have htx : (enc x).take 4 = enc x := List.take_of_length_le (by omega)
      have hty : (enc y).take 4 = enc y := List.take_of_length_le (by omega)
      have hcx := hc x (List.mem_of_getElem? hx)
      have hcy := hc y (List.mem_of_getElem? hy)
      have hxe : l[k - 1]'(by omega) = x := by rw [List.getElem?_eq_getElem (by omega)] at hx; exact Option.some.inj hx
      have hye : l[k] = y := by rw [List.getElem?_eq_getElem hlt] at hy; exact Option.some.inj hy
      replace hxe := Lib.hid hxe
      replace hye := Lib.hid hye
      replace hm := Lib.hid hm
      cases hge : decide (key x ≥ key y) with
      | true =>
        have hr : risB key l = false := by
          rw [Bool.eq_false_iff, ne_eq, risB_at]
          intro h
          have := h (k - 1) (by omega)
          simp only [show k - 1 + 1 = k by omega, hxe.out, hye.out] at this
          simp at hge; omega
        repeat' (first | (with_reducible refine And.intro ?_ ?_) | (with_reducible refine gK_i (fun _ => ?_) (fun _ => ?_)) | (with_reducible refine condS_i (fun _ => ?_) (fun _ => ?_)) | (with_reducible refine drw_i (by kernel_rfl)) | simp -dsimp only [go_sem, seval, *, hx, hy, hltI, hwm, htx, hty, hlx, hly, hge, vwL_d, tcL_d] | ((with_reducible refine opK_c ?_); simp -dsimp only [go_sem, seval, hx, hy, hltI, hwm, htx, hty, hlx, hly, hge, vwL_d, tcL_d]; first | refine callK_r (by first | assumption | exact hcx | exact hcy) (by first | exact .inl rfl | exact .inr rfl) ?_ | (refine callK_i (by assumption) ?_ ?_ ?_; (solve | (repeat (first | exact DLe.refl _ | exact DLe.nil _ | (refine DLe.tup ?_) | (refine DLe.agg ?_ rfl) | exact trivial | (refine And.intro ?_ ?_)))); (solve | exact .inl rfl | exact .inr rfl))) | fail | omega | exact decide_eq_true (by omega) | exact DLe.refl _)
        all_goals (rw [hr]; exact DLe.refl _)
      | false =>
        repeat' (first | (with_reducible refine And.intro ?_ ?_) | (with_reducible refine gK_i (fun _ => ?_) (fun _ => ?_)) | (with_reducible refine condS_i (fun _ => ?_) (fun _ => ?_)) | (with_reducible refine drw_i (by kernel_rfl)) | simp -dsimp only [go_sem, seval, *, hx, hy, hltI, hwr, hwm, htx, hty, hlx, hly, hge, vwL_d, tcL_d] | ((with_reducible refine opK_c ?_); simp -dsimp only [go_sem, seval, hx, hy, hltI, hwr, hwm, htx, hty, hlx, hly, hge, vwL_d, tcL_d]; first | refine callK_r (by first | assumption | exact hcx | exact hcy) (by first | exact .inl rfl | exact .inr rfl) ?_ | (refine callK_i (by assumption) ?_ ?_ ?_; (solve | (repeat (first | exact DLe.refl _ | exact DLe.nil _ | (refine DLe.tup ?_) | (refine DLe.agg ?_ rfl) | exact trivial | (refine And.intro ?_ ?_)))); (solve | exact .inl rfl | exact .inr rfl))) | fail | omega | exact decide_eq_true (by omega) | exact DLe.refl _)
        refine hCL _ _ _ _ _ ?_ ⟨k + 1, by omega, fun j hj hjk => ?_, rfl, rfl, rfl⟩ (weak_forget [] (by simp) rfl ⟨rfl, rfl, rfl, rfl, trivial⟩ (by first | rfl | simp only [belowH, belowE, belowC, belowL, belowR, belowP, belowL_d, belowR_d, List.length_cons, List.length_nil, Nat.reduceAdd, Nat.reduceLT, decide_true, Bool.and_self, Bool.and_true]) (by first | rfl | simp only [belowH, belowE, belowC, belowL, belowR, belowP, belowL_d, belowR_d, List.length_cons, List.length_nil, Nat.reduceAdd, Nat.reduceLT, decide_true, Bool.and_self, Bool.and_true]))
        · have := hm.out; omega
        · rcases Nat.lt_or_ge (j + 1) k with h | h
          · exact hok j hj h
          · obtain rfl : j = k - 1 := by omega
            simp only [show k - 1 + 1 = k by omega, hxe.out, hye.out]
            simp at hge; omega
    · have hltI : decide ((k : Int) < (l.length : Int)) = false := by simp; omega
      have hr : risB key l = true := (risB_at l).2 fun j hj => hok j hj (by omega)
      replace hm := Lib.hid hm
      repeat' (first | (with_reducible refine And.intro ?_ ?_) | (with_reducible refine gK_i (fun _ => ?_) (fun _ => ?_)) | (with_reducible refine condS_i (fun _ => ?_) (fun _ => ?_)) | (with_reducible refine drw_i (by kernel_rfl)) | simp -dsimp only [go_sem, seval, *, hltI] | ((with_reducible refine opK_c ?_); simp -dsimp only [go_sem, seval, hltI]; first | refine callK_r (by first | assumption | fail) (by first | exact .inl rfl | exact .inr rfl) ?_ | (refine callK_i (by assumption) ?_ ?_ ?_; (solve | (repeat (first | exact DLe.refl _ | exact DLe.nil _ | (refine DLe.tup ?_) | (refine DLe.agg ?_ rfl) | exact trivial | (refine And.intro ?_ ?_)))); (solve | exact .inl rfl | exact .inr rfl))) | fail | omega | exact decide_eq_true (by omega) | exact DLe.refl _)
      all_goals (rw [hr]; exact DLe.refl _)
set_option maxHeartbeats 1000000 in
theorem rises_Face {α : Type} {enc : α → List D} (henc : ∀ x, (enc x).length = 2) (key : α → Int) (l : List α) (g : Nat) (hl : l.length ≤ 1000000000) (hc : ∀ x ∈ l, PSpec Tryz.prog g [.agg (enc x)] (.v (.int .i64 (key x)))) :
    PSpec Tryz.prog 106 [.sl 2 (l.map enc), .clo g []] (.v (.bool (risB key l))) := by
  refine ps_i tab_ok mixed Tryz.func106 rfl Tryz.ntmps106 Tryz.results106 (by kernel_rfl) ?_
  repeat' (first | (with_reducible refine And.intro ?_ ?_) | (with_reducible refine gK_i (fun _ => ?_) (fun _ => ?_)) | (with_reducible refine condS_i (fun _ => ?_) (fun _ => ?_)) | (with_reducible refine drw_i (by kernel_rfl)) | simp -dsimp only [go_sem, seval, *, bne_self_eq_false] | ((with_reducible refine opK_c ?_); simp -dsimp only [go_sem, seval, bne_self_eq_false]; first | refine callK_r (by first | assumption | fail) (by first | exact .inl rfl | exact .inr rfl) ?_ | (refine callK_i (by assumption) ?_ ?_ ?_; (solve | (repeat (first | exact DLe.refl _ | exact DLe.nil _ | (refine DLe.tup ?_) | (refine DLe.agg ?_ rfl) | exact trivial | (refine And.intro ?_ ?_)))); (solve | exact .inl rfl | exact .inr rfl))) | fail | omega | exact decide_eq_true (by omega) | exact DLe.refl _)
  refine loopG tab_ok mixed (fun m e h => ∃ k : Nat, 1 ≤ k ∧ (∀ j (h : j + 1 < l.length), j + 1 < k → key l[j] < key l[j + 1]) ∧ m = l.length - k ∧ e = [(5, .d (.v (.int .i64 k))), (4, .d (.v (.bool false))), (1, .d (.clo g [])), (0, .d (.sl 2 (l.map enc)))] ∧ h = []) _ _ _ ⟨1, Nat.le_refl _, fun j h h1 => by omega, rfl, rfl, rfl⟩ ?_ ?_
  · exact weak_forget [] (by simp) rfl ⟨rfl, rfl, rfl, rfl, trivial⟩ (by first | rfl | simp only [belowH, belowE, belowC, belowL, belowR, belowP, belowL_d, belowR_d, List.length_cons, List.length_nil, Nat.reduceAdd, Nat.reduceLT, decide_true, Bool.and_self, Bool.and_true]) (by first | rfl | simp only [belowH, belowE, belowC, belowL, belowR, belowP, belowL_d, belowR_d, List.length_cons, List.length_nil, Nat.reduceAdd, Nat.reduceLT, decide_true, Bool.and_self, Bool.and_true])
  · rintro m e h ⟨k, hk1, hok, hm, rfl, rfl⟩ CL hCL
    by_cases hlt : k < l.length
    · obtain ⟨x, hx⟩ : ∃ x, l[k - 1]? = some x := ⟨_, List.getElem?_eq_getElem (by omega)⟩
      obtain ⟨y, hy⟩ : ∃ y, l[k]? = some y := ⟨_, List.getElem?_eq_getElem hlt⟩
      have hltI : (k : Int) < (l.length : Int) := by omega
      have hwr : IntKind.i64.wrap ((k : Int) + 1) = ((k + 1 : Nat) : Int) := by rw [IntKind.wrap_i64]; omega
      have hwm : IntKind.i64.wrap ((k : Int) - 1) = ((k - 1 : Nat) : Int) := by rw [IntKind.wrap_i64]; omega
      have hlx := henc x
      have hly := henc y
      have htx : (enc x).take 2 = enc x := List.take_of_length_le (by omega)
      have hty : (enc y).take 2 = enc y := List.take_of_length_le (by omega)
      have hcx := hc x (List.mem_of_getElem? hx)
      have hcy := hc y (List.mem_of_getElem? hy)
      have hxe : l[k - 1]'(by omega) = x := by rw [List.getElem?_eq_getElem (by omega)] at hx; exact Option.some.inj hx
      have hye : l[k] = y := by rw [List.getElem?_eq_getElem hlt] at hy; exact Option.some.inj hy
      replace hxe := Lib.hid hxe
      replace hye := Lib.hid hye
      replace hm := Lib.hid hm
      cases hge : decide (key x ≥ key y) with
      | true =>
        have hr : risB key l = false := by
          rw [Bool.eq_false_iff, ne_eq, risB_at]
          intro h
          have := h (k - 1) (by omega)
          simp only [show k - 1 + 1 = k by omega, hxe.out, hye.out] at this
          simp at hge; omega
        repeat' (first | (with_reducible refine And.intro ?_ ?_) | (with_reducible refine gK_i (fun _ => ?_) (fun _ => ?_)) | (with_reducible refine condS_i (fun _ => ?_) (fun _ => ?_)) | (with_reducible refine drw_i (by kernel_rfl)) | simp -dsimp only [go_sem, seval, *, hx, hy, hltI, hwm, htx, hty, hlx, hly, hge, vwL_d, tcL_d] | ((with_reducible refine opK_c ?_); simp -dsimp only [go_sem, seval, hx, hy, hltI, hwm, htx, hty, hlx, hly, hge, vwL_d, tcL_d]; first | refine callK_r (by first | assumption | exact hcx | exact hcy) (by first | exact .inl rfl | exact .inr rfl) ?_ | (refine callK_i (by assumption) ?_ ?_ ?_; (solve | (repeat (first | exact DLe.refl _ | exact DLe.nil _ | (refine DLe.tup ?_) | (refine DLe.agg ?_ rfl) | exact trivial | (refine And.intro ?_ ?_)))); (solve | exact .inl rfl | exact .inr rfl))) | fail | omega | exact decide_eq_true (by omega) | exact DLe.refl _)
        all_goals (rw [hr]; exact DLe.refl _)
      | false =>
        repeat' (first | (with_reducible refine And.intro ?_ ?_) | (with_reducible refine gK_i (fun _ => ?_) (fun _ => ?_)) | (with_reducible refine condS_i (fun _ => ?_) (fun _ => ?_)) | (with_reducible refine drw_i (by kernel_rfl)) | simp -dsimp only [go_sem, seval, *, hx, hy, hltI, hwr, hwm, htx, hty, hlx, hly, hge, vwL_d, tcL_d] | ((with_reducible refine opK_c ?_); simp -dsimp only [go_sem, seval, hx, hy, hltI, hwr, hwm, htx, hty, hlx, hly, hge, vwL_d, tcL_d]; first | refine callK_r (by first | assumption | exact hcx | exact hcy) (by first | exact .inl rfl | exact .inr rfl) ?_ | (refine callK_i (by assumption) ?_ ?_ ?_; (solve | (repeat (first | exact DLe.refl _ | exact DLe.nil _ | (refine DLe.tup ?_) | (refine DLe.agg ?_ rfl) | exact trivial | (refine And.intro ?_ ?_)))); (solve | exact .inl rfl | exact .inr rfl))) | fail | omega | exact decide_eq_true (by omega) | exact DLe.refl _)
        refine hCL _ _ _ _ _ ?_ ⟨k + 1, by omega, fun j hj hjk => ?_, rfl, rfl, rfl⟩ (weak_forget [] (by simp) rfl ⟨rfl, rfl, rfl, rfl, trivial⟩ (by first | rfl | simp only [belowH, belowE, belowC, belowL, belowR, belowP, belowL_d, belowR_d, List.length_cons, List.length_nil, Nat.reduceAdd, Nat.reduceLT, decide_true, Bool.and_self, Bool.and_true]) (by first | rfl | simp only [belowH, belowE, belowC, belowL, belowR, belowP, belowL_d, belowR_d, List.length_cons, List.length_nil, Nat.reduceAdd, Nat.reduceLT, decide_true, Bool.and_self, Bool.and_true]))
        · have := hm.out; omega
        · rcases Nat.lt_or_ge (j + 1) k with h | h
          · exact hok j hj h
          · obtain rfl : j = k - 1 := by omega
            simp only [show k - 1 + 1 = k by omega, hxe.out, hye.out]
            simp at hge; omega
    · have hltI : decide ((k : Int) < (l.length : Int)) = false := by simp; omega
      have hr : risB key l = true := (risB_at l).2 fun j hj => hok j hj (by omega)
      replace hm := Lib.hid hm
      repeat' (first | (with_reducible refine And.intro ?_ ?_) | (with_reducible refine gK_i (fun _ => ?_) (fun _ => ?_)) | (with_reducible refine condS_i (fun _ => ?_) (fun _ => ?_)) | (with_reducible refine drw_i (by kernel_rfl)) | simp -dsimp only [go_sem, seval, *, hltI] | ((with_reducible refine opK_c ?_); simp -dsimp only [go_sem, seval, hltI]; first | refine callK_r (by first | assumption | fail) (by first | exact .inl rfl | exact .inr rfl) ?_ | (refine callK_i (by assumption) ?_ ?_ ?_; (solve | (repeat (first | exact DLe.refl _ | exact DLe.nil _ | (refine DLe.tup ?_) | (refine DLe.agg ?_ rfl) | exact trivial | (refine And.intro ?_ ?_)))); (solve | exact .inl rfl | exact .inr rfl))) | fail | omega | exact decide_eq_true (by omega) | exact DLe.refl _)
      all_goals (rw [hr]; exact DLe.refl _)
set_option maxHeartbeats 1000000 in
theorem rises_int (l : List Int) (g : Nat) (hl : l.length ≤ 1000000000) (hc : ∀ x, PSpec Tryz.prog g [.v (.int .i64 x)] (.v (.int .i64 x))) :
    PSpec Tryz.prog 103 [.sl 1 (l.map encA), .clo g []] (.v (.bool (risB (fun x => x) l))) := by
  refine ps_i tab_ok mixed Tryz.func103 rfl Tryz.ntmps103 Tryz.results103 (by kernel_rfl) ?_
  repeat' (first | (with_reducible refine And.intro ?_ ?_) | (with_reducible refine gK_i (fun _ => ?_) (fun _ => ?_)) | (with_reducible refine condS_i (fun _ => ?_) (fun _ => ?_)) | (with_reducible refine drw_i (by kernel_rfl)) | simp -dsimp only [go_sem, seval, *, bne_self_eq_false] | ((with_reducible refine opK_c ?_); simp -dsimp only [go_sem, seval, bne_self_eq_false]; first | refine callK_r (by first | assumption | fail) (by first | exact .inl rfl | exact .inr rfl) ?_ | (refine callK_i (by assumption) ?_ ?_ ?_; (solve | (repeat (first | exact DLe.refl _ | exact DLe.nil _ | (refine DLe.tup ?_) | (refine DLe.agg ?_ rfl) | exact trivial | (refine And.intro ?_ ?_)))); (solve | exact .inl rfl | exact .inr rfl))) | fail | omega | exact decide_eq_true (by omega) | exact DLe.refl _)
  refine loopG tab_ok mixed (fun m e h => ∃ k : Nat, 1 ≤ k ∧ (∀ j (h : j + 1 < l.length), j + 1 < k → l[j] < l[j + 1]) ∧ m = l.length - k ∧ e = [(5, .d (.v (.int .i64 k))), (4, .d (.v (.bool false))), (1, .d (.clo g [])), (0, .d (.sl 1 (l.map encA)))] ∧ h = []) _ _ _ ⟨1, Nat.le_refl _, fun j h h1 => by omega, rfl, rfl, rfl⟩ ?_ ?_
  · exact weak_forget [] (by simp) rfl ⟨rfl, rfl, rfl, rfl, trivial⟩ (by first | rfl | simp only [belowH, belowE, belowC, belowL, belowR, belowP, belowL_d, belowR_d, List.length_cons, List.length_nil, Nat.reduceAdd, Nat.reduceLT, decide_true, Bool.and_self, Bool.and_true]) (by first | rfl | simp only [belowH, belowE, belowC, belowL, belowR, belowP, belowL_d, belowR_d, List.length_cons, List.length_nil, Nat.reduceAdd, Nat.reduceLT, decide_true, Bool.and_self, Bool.and_true])
  · rintro m e h ⟨k, hk1, hok, hm, rfl, rfl⟩ CL hCL
    by_cases hlt : k < l.length
    · obtain ⟨x, hx⟩ : ∃ x, l[k - 1]? = some x := ⟨_, List.getElem?_eq_getElem (by omega)⟩
      obtain ⟨y, hy⟩ : ∃ y, l[k]? = some y := ⟨_, List.getElem?_eq_getElem hlt⟩
      have hltI : (k : Int) < (l.length : Int) := by omega
      have hwr : IntKind.i64.wrap ((k : Int) + 1) = ((k + 1 : Nat) : Int) := by rw [IntKind.wrap_i64]; omega
      have hwm : IntKind.i64.wrap ((k : Int) - 1) = ((k - 1 : Nat) : Int) := by rw [IntKind.wrap_i64]; omega
      have hcx := hc x
      have hcy := hc y
      have hxe : l[k - 1]'(by omega) = x := by rw [List.getElem?_eq_getElem (by omega)] at hx; exact Option.some.inj hx
      have hye : l[k] = y := by rw [List.getElem?_eq_getElem hlt] at hy; exact Option.some.inj hy
      replace hxe := Lib.hid hxe
      replace hye := Lib.hid hye
      replace hm := Lib.hid hm
      cases hge : decide (x ≥ y) with
      | true =>
        have hr : risB (fun x => x) l = false := by
          rw [Bool.eq_false_iff, ne_eq, risB_at]
          intro h
          have := h (k - 1) (by omega)
          simp only [show k - 1 + 1 = k by omega, hxe.out, hye.out] at this
          simp at hge; omega
        repeat' (first | (with_reducible refine And.intro ?_ ?_) | (with_reducible refine gK_i (fun _ => ?_) (fun _ => ?_)) | (with_reducible refine condS_i (fun _ => ?_) (fun _ => ?_)) | (with_reducible refine drw_i (by kernel_rfl)) | simp -dsimp only [go_sem, seval, *, encA, hx, hy, hltI, hwm, hge] | ((with_reducible refine opK_c ?_); simp -dsimp only [go_sem, seval, encA, hx, hy, hltI, hwm, hge]; first | refine callK_r (by first | assumption | exact hcx | exact hcy) (by first | exact .inl rfl | exact .inr rfl) ?_ | (refine callK_i (by assumption) ?_ ?_ ?_; (solve | (repeat (first | exact DLe.refl _ | exact DLe.nil _ | (refine DLe.tup ?_) | (refine DLe.agg ?_ rfl) | exact trivial | (refine And.intro ?_ ?_)))); (solve | exact .inl rfl | exact .inr rfl))) | fail | omega | exact decide_eq_true (by omega) | exact DLe.refl _)
        all_goals (rw [hr]; exact DLe.refl _)
      | false =>
        repeat' (first | (with_reducible refine And.intro ?_ ?_) | (with_reducible refine gK_i (fun _ => ?_) (fun _ => ?_)) | (with_reducible refine condS_i (fun _ => ?_) (fun _ => ?_)) | (with_reducible refine drw_i (by kernel_rfl)) | simp -dsimp only [go_sem, seval, *, encA, hx, hy, hltI, hwr, hwm, hge] | ((with_reducible refine opK_c ?_); simp -dsimp only [go_sem, seval, encA, hx, hy, hltI, hwr, hwm, hge]; first | refine callK_r (by first | assumption | exact hcx | exact hcy) (by first | exact .inl rfl | exact .inr rfl) ?_ | (refine callK_i (by assumption) ?_ ?_ ?_; (solve | (repeat (first | exact DLe.refl _ | exact DLe.nil _ | (refine DLe.tup ?_) | (refine DLe.agg ?_ rfl) | exact trivial | (refine And.intro ?_ ?_)))); (solve | exact .inl rfl | exact .inr rfl))) | fail | omega | exact decide_eq_true (by omega) | exact DLe.refl _)
        refine hCL _ _ _ _ _ ?_ ⟨k + 1, by omega, fun j hj hjk => ?_, rfl, rfl, rfl⟩ (weak_forget [] (by simp) rfl ⟨rfl, rfl, rfl, rfl, trivial⟩ (by first | rfl | simp only [belowH, belowE, belowC, belowL, belowR, belowP, belowL_d, belowR_d, List.length_cons, List.length_nil, Nat.reduceAdd, Nat.reduceLT, decide_true, Bool.and_self, Bool.and_true]) (by first | rfl | simp only [belowH, belowE, belowC, belowL, belowR, belowP, belowL_d, belowR_d, List.length_cons, List.length_nil, Nat.reduceAdd, Nat.reduceLT, decide_true, Bool.and_self, Bool.and_true]))
        · have := hm.out; omega
        · rcases Nat.lt_or_ge (j + 1) k with h | h
          · exact hok j hj h
          · obtain rfl : j = k - 1 := by omega
            simp only [show k - 1 + 1 = k by omega, hxe.out, hye.out]
            simp at hge; omega
    · have hltI : decide ((k : Int) < (l.length : Int)) = false := by simp; omega
      have hr : risB (fun x => x) l = true := (risB_at l).2 fun j hj => hok j hj (by omega)
      replace hm := Lib.hid hm
      repeat' (first | (with_reducible refine And.intro ?_ ?_) | (with_reducible refine gK_i (fun _ => ?_) (fun _ => ?_)) | (with_reducible refine condS_i (fun _ => ?_) (fun _ => ?_)) | (with_reducible refine drw_i (by kernel_rfl)) | simp -dsimp only [go_sem, seval, *, hltI] | ((with_reducible refine opK_c ?_); simp -dsimp only [go_sem, seval, hltI]; first | refine callK_r (by first | assumption | fail) (by first | exact .inl rfl | exact .inr rfl) ?_ | (refine callK_i (by assumption) ?_ ?_ ?_; (solve | (repeat (first | exact DLe.refl _ | exact DLe.nil _ | (refine DLe.tup ?_) | (refine DLe.agg ?_ rfl) | exact trivial | (refine And.intro ?_ ?_)))); (solve | exact .inl rfl | exact .inr rfl))) | fail | omega | exact decide_eq_true (by omega) | exact DLe.refl _)
      all_goals (rw [hr]; exact DLe.refl _)
/-- Does no prefix meet another one? -/
def apaF : List Pfx → List Pfx → Bool
  | _, [] => true
  | pre, p :: l => !(pre.any p.meets) && apaF (pre ++ [p]) l
theorem apart1_p (q p : Pfx) : PSpec Tryz.prog 109 [.agg (encP q), .ept (encP p)] (.v (.bool (p.meets q))) := by
  have hm : PSpec Tryz.prog 58 [.agg (encP p), .agg (encP q)] (.v (.bool (p.meets q))) := meets_p p q
  refine ps_i tab_ok mixed Tryz.func109 rfl Tryz.ntmps109 Tryz.results109 (by kernel_rfl) ?_
  repeat' (first | (with_reducible refine And.intro ?_ ?_) | (with_reducible refine gK_i (fun _ => ?_) (fun _ => ?_)) | (with_reducible refine condS_i (fun _ => ?_) (fun _ => ?_)) | (with_reducible refine drw_i (by kernel_rfl)) | simp -dsimp only [go_sem, seval, *, encP] | ((with_reducible refine opK_c ?_); simp -dsimp only [go_sem, seval, encP]; first | refine callK_r (by first | assumption | exact hm) (by first | exact .inl rfl | exact .inr rfl) ?_ | (refine callK_i (by assumption) ?_ ?_ ?_; (solve | (repeat (first | exact DLe.refl _ | exact DLe.nil _ | (refine DLe.tup ?_) | (refine DLe.agg ?_ rfl) | exact trivial | (refine And.intro ?_ ?_)))); (solve | exact .inl rfl | exact .inr rfl))) | fail | omega | exact decide_eq_true (by omega) | exact DLe.refl _)
theorem drop_get {α : Type} {l : List α} {k : Nat} {x : α} (h : l[k]? = some x) : l.drop k = x :: l.drop (k + 1) := by
  obtain ⟨hk, rfl⟩ := List.getElem?_eq_some_iff.1 h
  exact List.drop_eq_getElem_cons hk
set_option maxHeartbeats 1000000 in
theorem apart_p (l : List Pfx) (hl : l.length ≤ 1000000000) : PSpec Tryz.prog 75 [.sl 2 (l.map encP)] (.v (.bool (apaF [] l))) := by
  refine ps_i tab_ok mixed Tryz.func75 rfl Tryz.ntmps75 Tryz.results75 (by kernel_rfl) ?_
  repeat' (first | (with_reducible refine And.intro ?_ ?_) | (with_reducible refine gK_i (fun _ => ?_) (fun _ => ?_)) | (with_reducible refine condS_i (fun _ => ?_) (fun _ => ?_)) | (with_reducible refine drw_i (by kernel_rfl)) | simp -dsimp only [go_sem, seval, *, bne_self_eq_false] | ((with_reducible refine opK_c ?_); simp -dsimp only [go_sem, seval, bne_self_eq_false]; first | refine callK_r (by first | assumption | fail) (by first | exact .inl rfl | exact .inr rfl) ?_ | (refine callK_i (by assumption) ?_ ?_ ?_; (solve | (repeat (first | exact DLe.refl _ | exact DLe.nil _ | (refine DLe.tup ?_) | (refine DLe.agg ?_ rfl) | exact trivial | (refine And.intro ?_ ?_)))); (solve | exact .inl rfl | exact .inr rfl))) | fail | omega | exact decide_eq_true (by omega) | exact DLe.refl _)
  refine loopL tab_ok mixed l (fun k => apaF [] l = apaF (l.take k) (l.drop k)) (fun k => [(7, .d (.v (.int .i64 k))), (6, .d (.v (.int .i64 l.length))), (5, .d (.sl 2 (l.map encP))), (2, .d (.v (.bool false))), (0, .d (.sl 2 (l.map encP)))]) (fun _ => []) rfl (weak_forget [] (by simp) rfl ⟨rfl, rfl, rfl, rfl, rfl, trivial⟩ (by first | rfl | simp only [belowH, belowE, belowC, belowL, belowR, belowP, belowL_d, belowR_d, List.length_cons, List.length_nil, Nat.reduceAdd, Nat.reduceLT, decide_true, Bool.and_self, Bool.and_true]) (by first | rfl | simp only [belowH, belowE, belowC, belowL, belowR, belowP, belowL_d, belowR_d, List.length_cons, List.length_nil, Nat.reduceAdd, Nat.reduceLT, decide_true, Bool.and_self, Bool.and_true])) ?_ ?_
  · intro k p hp hk hI C hC
    have hkI : (k : Int) < (l.length : Int) := by omega
    have hwr : IntKind.i64.wrap ((k : Int) + 1) = ((k + 1 : Nat) : Int) := by rw [IntKind.wrap_i64]; omega
    have hcn := cntf_Prefix encP_len p.meets (l.take k) 109 [.ept (encP p)] (by rw [List.length_take]; omega) (fun q _ => apart1_p q p)
    rw [List.map_take] at hcn
    rw [drop_get hp] at hI
    simp only [apaF, ← take_snoc hp] at hI
    replace hI := Lib.hid hI
    have hkl : k ≤ l.length := by omega
    cases ha : (l.take k).any p.meets with
    | true =>
      rw [ha] at hcn
      repeat' (first | (with_reducible refine And.intro ?_ ?_) | (with_reducible refine gK_i (fun _ => ?_) (fun _ => ?_)) | (with_reducible refine condS_i (fun _ => ?_) (fun _ => ?_)) | (with_reducible refine drw_i (by kernel_rfl)) | simp -dsimp only [go_sem, seval, *, encP, hkI, hwr, hp, hkl] | ((with_reducible refine opK_c ?_); simp -dsimp only [go_sem, seval, encP, hkI, hwr, hp, hkl]; first | refine callK_r (by first | assumption | exact hcn) (by first | exact .inl rfl | exact .inr rfl) ?_ | (refine callK_i (by assumption) ?_ ?_ ?_; (solve | (repeat (first | exact DLe.refl _ | exact DLe.nil _ | (refine DLe.tup ?_) | (refine DLe.agg ?_ rfl) | exact trivial | (refine And.intro ?_ ?_)))); (solve | exact .inl rfl | exact .inr rfl))) | fail | omega | exact decide_eq_true (by omega) | exact DLe.refl _)
      all_goals (rw [hI.out, ha]; exact DLe.refl _)
    | false =>
      rw [ha] at hcn
      repeat' (first | (with_reducible refine And.intro ?_ ?_) | (with_reducible refine gK_i (fun _ => ?_) (fun _ => ?_)) | (with_reducible refine condS_i (fun _ => ?_) (fun _ => ?_)) | (with_reducible refine drw_i (by kernel_rfl)) | simp -dsimp only [go_sem, seval, *, encP, hkI, hwr, hp, hkl] | ((with_reducible refine opK_c ?_); simp -dsimp only [go_sem, seval, encP, hkI, hwr, hp, hkl]; first | refine callK_r (by first | assumption | exact hcn) (by first | exact .inl rfl | exact .inr rfl) ?_ | (refine callK_i (by assumption) ?_ ?_ ?_; (solve | (repeat (first | exact DLe.refl _ | exact DLe.nil _ | (refine DLe.tup ?_) | (refine DLe.agg ?_ rfl) | exact trivial | (refine And.intro ?_ ?_)))); (solve | exact .inl rfl | exact .inr rfl))) | fail | omega | exact decide_eq_true (by omega) | exact DLe.refl _)
      exact hC _ _ (by rw [hI.out, ha]; rfl) (weak_forget _ (by simp) (by (try simp only [encP]); rfl) (by (repeat' (first | exact trivial | (refine ⟨rfl, ?_⟩)))) (by first | rfl | simp only [belowH, belowE, belowC, belowL, belowR, belowP, belowL_d, belowR_d, List.length_cons, List.length_nil, Nat.reduceAdd, Nat.reduceLT, decide_true, Bool.and_self, Bool.and_true]) (by first | rfl | simp only [belowH, belowE, belowC, belowL, belowR, belowP, belowL_d, belowR_d, List.length_cons, List.length_nil, Nat.reduceAdd, Nat.reduceLT, decide_true, Bool.and_self, Bool.and_true]))
  · intro hI C
    rw [List.drop_length] at hI
    replace hI := Lib.hid hI
    repeat' (first | (with_reducible refine And.intro ?_ ?_) | (with_reducible refine gK_i (fun _ => ?_) (fun _ => ?_)) | (with_reducible refine condS_i (fun _ => ?_) (fun _ => ?_)) | (with_reducible refine drw_i (by kernel_rfl)) | simp -dsimp only [go_sem, seval, *, Int.lt_irrefl] | ((with_reducible refine opK_c ?_); simp -dsimp only [go_sem, seval, Int.lt_irrefl]; first | refine callK_r (by first | assumption | fail) (by first | exact .inl rfl | exact .inr rfl) ?_ | (refine callK_i (by assumption) ?_ ?_ ?_; (solve | (repeat (first | exact DLe.refl _ | exact DLe.nil _ | (refine DLe.tup ?_) | (refine DLe.agg ?_ rfl) | exact trivial | (refine And.intro ?_ ?_)))); (solve | exact .inl rfl | exact .inr rfl))) | fail | omega | exact decide_eq_true (by omega) | exact DLe.refl _)
    all_goals (rw [hI.out]; exact DLe.refl _)
end Go.Proofs.YtgmbhaclogabeaaGreat
namespace Go.Proofs.YtgmbhaclogabeaaGreat
open Go Go.RowKit
/-- A subnet's faces, may they be? -/
def faceB (at_ : Pfx) (f : Fce) : Bool := idOK f.id && (!((f.addrs.length : Int) == 0) && (risB (fun x => x) f.addrs && f.addrs.all (innB at_)))
def facesB (s : Sbn) : Bool := s.faces.all (faceB s.at_) && (decide (s.faces.flatMap (·.addrs)).Nodup && risB (·.id) s.faces)
theorem faces1_p (n : Int) : PSpec Tryz.prog 104 [.v (.int .i64 n)] (.v (.int .i64 n)) := by
  refine ps_i tab_ok mixed Tryz.func104 rfl Tryz.ntmps104 Tryz.results104 (by kernel_rfl) ?_
  repeat' (first | (with_reducible refine And.intro ?_ ?_) | (with_reducible refine gK_i (fun _ => ?_) (fun _ => ?_)) | (with_reducible refine condS_i (fun _ => ?_) (fun _ => ?_)) | (with_reducible refine drw_i (by kernel_rfl)) | simp -dsimp only [go_sem, seval, *, encA] | ((with_reducible refine opK_c ?_); simp -dsimp only [go_sem, seval, encA]; first | refine callK_r (by first | assumption | fail) (by first | exact .inl rfl | exact .inr rfl) ?_ | (refine callK_i (by assumption) ?_ ?_ ?_; (solve | (repeat (first | exact DLe.refl _ | exact DLe.nil _ | (refine DLe.tup ?_) | (refine DLe.agg ?_ rfl) | exact trivial | (refine And.intro ?_ ?_)))); (solve | exact .inl rfl | exact .inr rfl))) | fail | omega | exact decide_eq_true (by omega) | exact DLe.refl _)
theorem faces2_p (f : Fce) : PSpec Tryz.prog 107 [.agg (encF f)] (.v (.int .i64 f.id)) := by
  refine ps_i tab_ok mixed Tryz.func107 rfl Tryz.ntmps107 Tryz.results107 (by kernel_rfl) ?_
  repeat' (first | (with_reducible refine And.intro ?_ ?_) | (with_reducible refine gK_i (fun _ => ?_) (fun _ => ?_)) | (with_reducible refine condS_i (fun _ => ?_) (fun _ => ?_)) | (with_reducible refine drw_i (by kernel_rfl)) | simp -dsimp only [go_sem, seval, *, encF] | ((with_reducible refine opK_c ?_); simp -dsimp only [go_sem, seval, encF]; first | refine callK_r (by first | assumption | fail) (by first | exact .inl rfl | exact .inr rfl) ?_ | (refine callK_i (by assumption) ?_ ?_ ?_; (solve | (repeat (first | exact DLe.refl _ | exact DLe.nil _ | (refine DLe.tup ?_) | (refine DLe.agg ?_ rfl) | exact trivial | (refine And.intro ?_ ?_)))); (solve | exact .inl rfl | exact .inr rfl))) | fail | omega | exact decide_eq_true (by omega) | exact DLe.refl _)
/-- A map that counts, where each is once at most. -/
def Cnt (ents : List (List Int × Int)) (done : List Int) : Prop := ∀ a, lkE ents [a] = if a ∈ done then some 1 else none
theorem cnt_nil : Cnt [] [] := fun a => by simp [lkE]
theorem cnt_snoc {ents : List (List Int × Int)} {done : List Int} (h : Cnt ents done) {a : Int} (ha : a ∉ done) : Cnt (upE ents [a] 1) (done ++ [a]) := by
  intro b
  rw [lkE_up, h b]
  by_cases hb : a = b
  · subst hb; simp
  · have hb' : ¬ b = a := fun e => hb e.symm
    simp [hb, hb']
theorem nodup_snoc {l : List Int} {a : Int} : (l ++ [a]).Nodup ↔ l.Nodup ∧ a ∉ l := by
  rw [List.nodup_append]
  simp
  intro _
  constructor
  · intro h hm; exact h a hm rfl
  · intro h b hb e; subst e; exact h hb
set_option maxRecDepth 100000 in
set_option maxHeartbeats 4000000 in
theorem faces_p (s : Sbn) (h8 : s.faces.length ≤ 8) (h4 : ∀ f ∈ s.faces, f.addrs.length ≤ 4) : PSpec Tryz.prog 74 [.agg (encN s)] (.v (.bool (facesB s))) := by
  have hri := rises_Face encF_len (·.id) s.faces 107 (by omega) (fun f _ => faces2_p f)
  refine ps_i tab_ok mixed Tryz.func74 rfl Tryz.ntmps74 Tryz.results74 (by kernel_rfl) ?_
  repeat' (first | (with_reducible refine And.intro ?_ ?_) | (with_reducible refine gK_i (fun _ => ?_) (fun _ => ?_)) | (with_reducible refine condS_i (fun _ => ?_) (fun _ => ?_)) | (with_reducible refine drw_i (by kernel_rfl)) | simp -dsimp only [go_sem, seval, *, encN] | ((with_reducible refine opK_c ?_); simp -dsimp only [go_sem, seval, encN]; first | refine callK_r (by first | assumption | fail) (by first | exact .inl rfl | exact .inr rfl) ?_ | (refine callK_i (by assumption) ?_ ?_ ?_; (solve | (repeat (first | exact DLe.refl _ | exact DLe.nil _ | (refine DLe.tup ?_) | (refine DLe.agg ?_ rfl) | exact trivial | (refine And.intro ?_ ?_)))); (solve | exact .inl rfl | exact .inr rfl))) | fail | omega | exact decide_eq_true (by omega) | exact DLe.refl _)
  refine loopG tab_ok mixed (fun m e h => ∃ (k : Nat) (ents : List (List Int × Int)), k ≤ s.faces.length ∧ Cnt ents ((s.faces.take k).flatMap (·.addrs)) ∧ ((s.faces.take k).flatMap (·.addrs)).Nodup ∧ (∀ f ∈ s.faces.take k, faceB s.at_ f = true) ∧ m = s.faces.length - k ∧
    e = [(12, .d (.v (.int .i64 k))), (11, .d (.v (.int .i64 s.faces.length))), (10, .d (.sl 2 (s.faces.map encF))), (3, .mref 1), (2, .d (.v (.bool false))), (1, .ptr 0 0)] ∧ h = [.box 86 ((encN s).map .d), .mp 1 false ents]) _ _ _ ⟨0, [], Nat.zero_le _, cnt_nil, List.nodup_nil, fun f h => by simp at h, rfl, rfl, rfl⟩ (weak_forget _ (by simp) (by (try simp only [encN]); rfl) (by (repeat' (first | exact trivial | (refine ⟨rfl, ?_⟩)))) (by first | rfl | simp only [belowH, belowE, belowC, belowL, belowR, belowP, belowL_d, belowR_d, List.length_cons, List.length_nil, Nat.reduceAdd, Nat.reduceLT, decide_true, Bool.and_self, Bool.and_true]) (by first | rfl | simp only [belowH, belowE, belowC, belowL, belowR, belowP, belowL_d, belowR_d, List.length_cons, List.length_nil, Nat.reduceAdd, Nat.reduceLT, decide_true, Bool.and_self, Bool.and_true])) ?_
  rintro m e h ⟨k, ents, hk, hcnt, hnd, hall, hm, rfl, rfl⟩ C hC
  by_cases hlt : k < s.faces.length
  · have hkI : (k : Int) < (s.faces.length : Int) := by omega
    have hwr : IntKind.i64.wrap ((k : Int) + 1) = ((k + 1 : Nat) : Int) := by rw [IntKind.wrap_i64]; omega
    obtain ⟨f, hf⟩ : ∃ f, s.faces[k]? = some f := ⟨_, List.getElem?_eq_getElem hlt⟩
    have hfm := List.mem_of_getElem? hf
    have hid := vids_p f.id
    have hrf := rises_int f.addrs 104 (by have := h4 f hfm; omega) faces1_p
    have hfl := h4 f hfm
    have hbad : faceB s.at_ f = false → facesB s = false := fun h => by
      unfold facesB
      rw [Bool.and_eq_false_iff]
      left
      rw [List.all_eq_false]
      exact ⟨f, hfm, by rw [h]; simp⟩
    replace hbad := Lib.hid hbad
    replace hm := Lib.hid hm
    replace hcnt := Lib.hid hcnt
    replace hnd := Lib.hid hnd
    replace hall := Lib.hid hall
    have hfbd : faceB s.at_ f = (idOK f.id && (!((f.addrs.length : Int) == 0) && (risB (fun x => x) f.addrs && f.addrs.all (innB s.at_)))) := rfl
    replace hfbd := Lib.hid hfbd
    cases b1 : idOK f.id with
    | false =>
      rw [b1] at hid
      repeat' (first | (with_reducible refine And.intro ?_ ?_) | (with_reducible refine gK_i (fun _ => ?_) (fun _ => ?_)) | (with_reducible refine condS_i (fun _ => ?_) (fun _ => ?_)) | (with_reducible refine drw_i (by kernel_rfl)) | simp -dsimp only [go_sem, seval, *, encN, encF, hkI, hf, undef] | ((with_reducible refine opK_c ?_); simp -dsimp only [go_sem, seval, encN, encF, hkI, hf, undef]; first | refine callK_r (by first | assumption | exact hid) (by first | exact .inl rfl | exact .inr rfl) ?_ | (refine callK_i (by assumption) ?_ ?_ ?_; (solve | (repeat (first | exact DLe.refl _ | exact DLe.nil _ | (refine DLe.tup ?_) | (refine DLe.agg ?_ rfl) | exact trivial | (refine And.intro ?_ ?_)))); (solve | exact .inl rfl | exact .inr rfl))) | fail | omega | exact decide_eq_true (by omega) | exact DLe.refl _)
      all_goals (rw [hbad.out (by rw [hfbd.out, b1]; rfl)]; exact DLe.refl _)
    | true =>
    rw [b1] at hid
    cases b2 : (f.addrs.length : Int) == 0 with
    | true =>
      repeat' (first | (with_reducible refine And.intro ?_ ?_) | (with_reducible refine gK_i (fun _ => ?_) (fun _ => ?_)) | (with_reducible refine condS_i (fun _ => ?_) (fun _ => ?_)) | (with_reducible refine drw_i (by kernel_rfl)) | simp -dsimp only [go_sem, seval, *, encN, encF, hkI, hf, b2, undef] | ((with_reducible refine opK_c ?_); simp -dsimp only [go_sem, seval, encN, encF, hkI, hf, b2, undef]; first | refine callK_r (by first | assumption | exact hid) (by first | exact .inl rfl | exact .inr rfl) ?_ | (refine callK_i (by assumption) ?_ ?_ ?_; (solve | (repeat (first | exact DLe.refl _ | exact DLe.nil _ | (refine DLe.tup ?_) | (refine DLe.agg ?_ rfl) | exact trivial | (refine And.intro ?_ ?_)))); (solve | exact .inl rfl | exact .inr rfl))) | fail | omega | exact decide_eq_true (by omega) | exact DLe.refl _)
      all_goals (rw [hbad.out (by rw [hfbd.out, b1, b2]; rfl)]; exact DLe.refl _)
    | false =>
    cases b3 : risB (fun x => x) f.addrs with
    | false =>
      rw [b3] at hrf
      repeat' (first | (with_reducible refine And.intro ?_ ?_) | (with_reducible refine gK_i (fun _ => ?_) (fun _ => ?_)) | (with_reducible refine condS_i (fun _ => ?_) (fun _ => ?_)) | (with_reducible refine drw_i (by kernel_rfl)) | simp -dsimp only [go_sem, seval, *, encN, encF, hkI, hf, b2, undef] | ((with_reducible refine opK_c ?_); simp -dsimp only [go_sem, seval, encN, encF, hkI, hf, b2, undef]; first | refine callK_r (by first | assumption | exact hid | exact hrf) (by first | exact .inl rfl | exact .inr rfl) ?_ | (refine callK_i (by assumption) ?_ ?_ ?_; (solve | (repeat (first | exact DLe.refl _ | exact DLe.nil _ | (refine DLe.tup ?_) | (refine DLe.agg ?_ rfl) | exact trivial | (refine And.intro ?_ ?_)))); (solve | exact .inl rfl | exact .inr rfl))) | fail | omega | exact decide_eq_true (by omega) | exact DLe.refl _)
      all_goals (rw [hbad.out (by rw [hfbd.out, b1, b2, b3]; rfl)]; exact DLe.refl _)
    | true =>
    rw [b3] at hrf
    repeat' (first | (with_reducible refine And.intro ?_ ?_) | (with_reducible refine gK_i (fun _ => ?_) (fun _ => ?_)) | (with_reducible refine condS_i (fun _ => ?_) (fun _ => ?_)) | (with_reducible refine drw_i (by kernel_rfl)) | simp -dsimp only [go_sem, seval, *, encN, encF, hkI, hf, b2, undef] | ((with_reducible refine opK_c ?_); simp -dsimp only [go_sem, seval, encN, encF, hkI, hf, b2, undef]; first | refine callK_r (by first | assumption | exact hid | exact hrf) (by first | exact .inl rfl | exact .inr rfl) ?_ | (refine callK_i (by assumption) ?_ ?_ ?_; (solve | (repeat (first | exact DLe.refl _ | exact DLe.nil _ | (refine DLe.tup ?_) | (refine DLe.agg ?_ rfl) | exact trivial | (refine And.intro ?_ ?_)))); (solve | exact .inl rfl | exact .inr rfl))) | fail | omega | exact decide_eq_true (by omega) | exact DLe.refl _)
    refine loopG tab_ok mixed (fun m e h => ∃ (j : Nat) (ents : List (List Int × Int)), j ≤ f.addrs.length ∧ Cnt ents ((s.faces.take k).flatMap (·.addrs) ++ f.addrs.take j) ∧ ((s.faces.take k).flatMap (·.addrs) ++ f.addrs.take j).Nodup ∧ (∀ a ∈ f.addrs.take j, innB s.at_ a = true) ∧ m = f.addrs.length - j ∧
      e = [(35, .d (.v (.int .i64 j))), (34, .d (.v (.int .i64 f.addrs.length))), (33, .d (.sl 1 (f.addrs.map encA))), (12, .d (.v (.int .i64 k))), (11, .d (.v (.int .i64 s.faces.length))), (10, .d (.sl 2 (s.faces.map encF))), (3, .mref 1), (2, .d (.v (.bool false))), (1, .ptr 0 0)] ∧ h = [.box 86 ((encN s).map .d), .mp 1 false ents]) _ _ _ ⟨0, ents, Nat.zero_le _, by simpa using hcnt.out, by simpa using hnd.out, fun f h => by simp at h, rfl, rfl, rfl⟩ (weak_forget _ (by simp) (by (try simp only [encN]); rfl) (by (repeat' (first | exact trivial | (refine ⟨rfl, ?_⟩)))) (by first | rfl | simp only [belowH, belowE, belowC, belowL, belowR, belowP, belowL_d, belowR_d, List.length_cons, List.length_nil, Nat.reduceAdd, Nat.reduceLT, decide_true, Bool.and_self, Bool.and_true]) (by first | rfl | simp only [belowH, belowE, belowC, belowL, belowR, belowP, belowL_d, belowR_d, List.length_cons, List.length_nil, Nat.reduceAdd, Nat.reduceLT, decide_true, Bool.and_self, Bool.and_true])) ?_
    rintro m2 e h ⟨j, en2, hj, hcnt2, hnd2, hall2, hm2, rfl, rfl⟩ C2 hC2
    by_cases hlj : j < f.addrs.length
    · have hjI : (j : Int) < (f.addrs.length : Int) := by omega
      have hwj : IntKind.i64.wrap ((j : Int) + 1) = ((j + 1 : Nat) : Int) := by rw [IntKind.wrap_i64]; omega
      obtain ⟨a, ha⟩ : ∃ a, f.addrs[j]? = some a := ⟨_, List.getElem?_eq_getElem hlj⟩
      have ham := List.mem_of_getElem? ha
      have hin := inner_p s.at_ a
      have hca := hcnt2 a
      have htk : f.addrs.take (j + 1) = f.addrs.take j ++ [a] := take_snoc ha
      replace htk := Lib.hid htk
      replace hm2 := Lib.hid hm2
      replace hall2 := Lib.hid hall2
      replace hnd2 := Lib.hid hnd2
      by_cases hd : a ∈ (s.faces.take k).flatMap (·.addrs) ++ f.addrs.take j
      · rw [if_pos hd] at hca
        have hr : facesB s = false := by
          have : ¬ (s.faces.flatMap (·.addrs)).Nodup := by
            intro hn
            have hsub : ((s.faces.take k).flatMap (·.addrs) ++ f.addrs.take (j + 1)).Sublist (s.faces.flatMap (·.addrs)) := by
              conv => rhs; rw [← List.take_append_drop k s.faces, drop_get hf, List.flatMap_append, List.flatMap_cons]
              exact List.Sublist.append (List.Sublist.refl _) ((List.take_sublist _ _).trans (List.sublist_append_left _ _))
            have := hsub.nodup hn
            rw [htk.out, ← List.append_assoc, nodup_snoc] at this
            exact this.2 hd
          unfold facesB
          simp [this]
        have hup : lkE (upE en2 [a] 2) [a] = some 2 := by rw [lkE_up, if_pos rfl]
        replace hcnt2 := Lib.hid hcnt2
        have hw2 : IntKind.i64.wrap 2 = 2 := by decide
        have hgt : decide ((2 : Int) > 1) = true := rfl
        repeat' (first | (with_reducible refine And.intro ?_ ?_) | (with_reducible refine gK_i (fun _ => ?_) (fun _ => ?_)) | (with_reducible refine condS_i (fun _ => ?_) (fun _ => ?_)) | (with_reducible refine drw_i (by kernel_rfl)) | simp -dsimp only [go_sem, seval, *, encN, encA, hjI, ha, hca, hup, hw2, hgt, undef] | ((with_reducible refine opK_c ?_); simp -dsimp only [go_sem, seval, encN, encA, hjI, ha, hca, hup, hw2, hgt, undef]; first | refine callK_r (by first | assumption | exact hin) (by first | exact .inl rfl | exact .inr rfl) ?_ | (refine callK_i (by assumption) ?_ ?_ ?_; (solve | (repeat (first | exact DLe.refl _ | exact DLe.nil _ | (refine DLe.tup ?_) | (refine DLe.agg ?_ rfl) | exact trivial | (refine And.intro ?_ ?_)))); (solve | exact .inl rfl | exact .inr rfl))) | fail | omega | exact decide_eq_true (by omega) | exact DLe.refl _)
        all_goals (rw [hr]; exact DLe.refl _)
      · rw [if_neg hd] at hca
        have hup : lkE (upE en2 [a] 1) [a] = some 1 := by rw [lkE_up, if_pos rfl]
        have hcs := cnt_snoc hcnt2 hd
        replace hcnt2 := Lib.hid hcnt2
        replace hcs := Lib.hid hcs
        have hw2 : IntKind.i64.wrap 1 = 1 := by decide
        have hgt : decide ((1 : Int) > 1) = false := rfl
        cases b4 : innB s.at_ a with
        | false =>
          rw [b4] at hin
          have hr : facesB s = false := hbad.out (by
            rw [hfbd.out, b1, b2, b3]
            have : f.addrs.all (innB s.at_) = false := by rw [List.all_eq_false]; exact ⟨a, ham, by rw [b4]; simp⟩
            rw [this]; rfl)
          repeat' (first | (with_reducible refine And.intro ?_ ?_) | (with_reducible refine gK_i (fun _ => ?_) (fun _ => ?_)) | (with_reducible refine condS_i (fun _ => ?_) (fun _ => ?_)) | (with_reducible refine drw_i (by kernel_rfl)) | simp -dsimp only [go_sem, seval, *, encN, encA, hjI, ha, hca, hup, hw2, hgt, undef] | ((with_reducible refine opK_c ?_); simp -dsimp only [go_sem, seval, encN, encA, hjI, ha, hca, hup, hw2, hgt, undef]; first | refine callK_r (by first | assumption | exact hin) (by first | exact .inl rfl | exact .inr rfl) ?_ | (refine callK_i (by assumption) ?_ ?_ ?_; (solve | (repeat (first | exact DLe.refl _ | exact DLe.nil _ | (refine DLe.tup ?_) | (refine DLe.agg ?_ rfl) | exact trivial | (refine And.intro ?_ ?_)))); (solve | exact .inl rfl | exact .inr rfl))) | fail | omega | exact decide_eq_true (by omega) | exact DLe.refl _)
          all_goals (rw [hr]; exact DLe.refl _)
        | true =>
          rw [b4] at hin
          repeat' (first | (with_reducible refine And.intro ?_ ?_) | (with_reducible refine gK_i (fun _ => ?_) (fun _ => ?_)) | (with_reducible refine condS_i (fun _ => ?_) (fun _ => ?_)) | (with_reducible refine drw_i (by kernel_rfl)) | simp -dsimp only [go_sem, seval, *, encN, encA, hjI, hwj, ha, hca, hup, hw2, hgt, undef] | ((with_reducible refine opK_c ?_); simp -dsimp only [go_sem, seval, encN, encA, hjI, hwj, ha, hca, hup, hw2, hgt, undef]; first | refine callK_r (by first | assumption | exact hin) (by first | exact .inl rfl | exact .inr rfl) ?_ | (refine callK_i (by assumption) ?_ ?_ ?_; (solve | (repeat (first | exact DLe.refl _ | exact DLe.nil _ | (refine DLe.tup ?_) | (refine DLe.agg ?_ rfl) | exact trivial | (refine And.intro ?_ ?_)))); (solve | exact .inl rfl | exact .inr rfl))) | fail | omega | exact decide_eq_true (by omega) | exact DLe.refl _)
          refine hC2 _ _ _ _ _ ?_ ⟨j + 1, upE en2 [a] 1, hlj, ?_, ?_, ?_, rfl, rfl, rfl⟩ (weak_forget _ (by simp) (by (try simp only [encN]); rfl) (by (repeat' (first | exact trivial | (refine ⟨rfl, ?_⟩)))) (by first | rfl | simp only [belowH, belowE, belowC, belowL, belowR, belowP, belowL_d, belowR_d, List.length_cons, List.length_nil, Nat.reduceAdd, Nat.reduceLT, decide_true, Bool.and_self, Bool.and_true]) (by first | rfl | simp only [belowH, belowE, belowC, belowL, belowR, belowP, belowL_d, belowR_d, List.length_cons, List.length_nil, Nat.reduceAdd, Nat.reduceLT, decide_true, Bool.and_self, Bool.and_true]))
          · have := hm2.out; omega
          · rw [htk.out, ← List.append_assoc]; exact hcs.out
          · rw [htk.out, ← List.append_assoc, nodup_snoc]; exact ⟨hnd2.out, hd⟩
          · intro b hb
            rw [htk.out] at hb
            rcases List.mem_append.1 hb with hb | hb
            · exact hall2.out b hb
            · rw [List.mem_singleton.1 hb]; exact b4
    · obtain rfl : j = f.addrs.length := by omega
      rw [List.take_length] at hcnt2 hnd2 hall2
      have hfl2 : (s.faces.take (k + 1)).flatMap (·.addrs) = (s.faces.take k).flatMap (·.addrs) ++ f.addrs := by rw [take_snoc hf, List.flatMap_append]; simp
      replace hm2 := Lib.hid hm2
      replace hcnt2 := Lib.hid hcnt2
      replace hnd2 := Lib.hid hnd2
      replace hall2 := Lib.hid hall2
      replace hfl2 := Lib.hid hfl2
      repeat' (first | (with_reducible refine And.intro ?_ ?_) | (with_reducible refine gK_i (fun _ => ?_) (fun _ => ?_)) | (with_reducible refine condS_i (fun _ => ?_) (fun _ => ?_)) | (with_reducible refine drw_i (by kernel_rfl)) | simp -dsimp only [go_sem, seval, *, encN, hwr, Int.lt_irrefl, undef] | ((with_reducible refine opK_c ?_); simp -dsimp only [go_sem, seval, encN, hwr, Int.lt_irrefl, undef]; first | refine callK_r (by first | assumption | fail) (by first | exact .inl rfl | exact .inr rfl) ?_ | (refine callK_i (by assumption) ?_ ?_ ?_; (solve | (repeat (first | exact DLe.refl _ | exact DLe.nil _ | (refine DLe.tup ?_) | (refine DLe.agg ?_ rfl) | exact trivial | (refine And.intro ?_ ?_)))); (solve | exact .inl rfl | exact .inr rfl))) | fail | omega | exact decide_eq_true (by omega) | exact DLe.refl _)
      refine hC _ _ _ _ _ ?_ ⟨k + 1, en2, hlt, ?_, ?_, ?_, rfl, rfl, rfl⟩ (weak_forget _ (by simp) (by (try simp only [encN]); rfl) (by (repeat' (first | exact trivial | (refine ⟨rfl, ?_⟩)))) (by first | rfl | simp only [belowH, belowE, belowC, belowL, belowR, belowP, belowL_d, belowR_d, List.length_cons, List.length_nil, Nat.reduceAdd, Nat.reduceLT, decide_true, Bool.and_self, Bool.and_true]) (by first | rfl | simp only [belowH, belowE, belowC, belowL, belowR, belowP, belowL_d, belowR_d, List.length_cons, List.length_nil, Nat.reduceAdd, Nat.reduceLT, decide_true, Bool.and_self, Bool.and_true]))
      · have := hm.out; omega
      · rw [hfl2.out]; exact hcnt2.out
      · rw [hfl2.out]; exact hnd2.out
      · intro g hg
        rw [take_snoc hf] at hg
        rcases List.mem_append.1 hg with hg | hg
        · exact hall.out g hg
        · rw [List.mem_singleton.1 hg, hfbd.out, b1, b2, b3]
          simp only [Bool.true_and, Bool.not_false]
          exact List.all_eq_true.2 hall2.out
  · obtain rfl : k = s.faces.length := by omega
    rw [List.take_length] at hcnt hnd hall
    have hr : facesB s = risB (·.id) s.faces := by
      unfold facesB
      rw [List.all_eq_true.2 hall]
      simp [hnd]
    replace hr := Lib.hid hr
    replace hcnt := Lib.hid hcnt
    replace hnd := Lib.hid hnd
    replace hall := Lib.hid hall
    replace hm := Lib.hid hm
    repeat' (first | (with_reducible refine And.intro ?_ ?_) | (with_reducible refine gK_i (fun _ => ?_) (fun _ => ?_)) | (with_reducible refine condS_i (fun _ => ?_) (fun _ => ?_)) | (with_reducible refine drw_i (by kernel_rfl)) | simp -dsimp only [go_sem, seval, *, encN, Int.lt_irrefl, undef] | ((with_reducible refine opK_c ?_); simp -dsimp only [go_sem, seval, encN, Int.lt_irrefl, undef]; first | refine callK_r (by first | assumption | exact hri) (by first | exact .inl rfl | exact .inr rfl) ?_ | (refine callK_i (by assumption) ?_ ?_ ?_; (solve | (repeat (first | exact DLe.refl _ | exact DLe.nil _ | (refine DLe.tup ?_) | (refine DLe.agg ?_ rfl) | exact trivial | (refine And.intro ?_ ?_)))); (solve | exact .inl rfl | exact .inr rfl))) | fail | omega | exact decide_eq_true (by omega) | exact DLe.refl _)
    all_goals (rw [hr.out]; exact DLe.refl _)
/-- Is a network right? -/
def rangeB (r : Rng) : Bool := idOK r.pool && (chk r.at_.at_ r.at_.len == 0)
def subB (v : Vpc) (s : Sbn) : Bool := idOK s.id && (holdsV v s.at_ && facesB s)
def fineV (v : Vpc) : Bool := (idOK v.id && (risB (·.at_.at_) v.ranges && risB (·.id) v.subs)) && (v.ranges.all rangeB && v.subs.all (subB v))
def chkV (v : Vpc) : Int := if manyV v then 2 else if fineV v && (apaF [] (v.ranges.map (·.at_)) && apaF [] (v.subs.map (·.at_))) then 0 else 1
theorem vcheck1_p (r : Rng) : PSpec Tryz.prog 70 [.agg (encG r)] (.v (.int .i64 r.at_.at_)) := by
  refine ps_i tab_ok mixed Tryz.func70 rfl Tryz.ntmps70 Tryz.results70 (by kernel_rfl) ?_
  repeat' (first | (with_reducible refine And.intro ?_ ?_) | (with_reducible refine gK_i (fun _ => ?_) (fun _ => ?_)) | (with_reducible refine condS_i (fun _ => ?_) (fun _ => ?_)) | (with_reducible refine drw_i (by kernel_rfl)) | simp -dsimp only [go_sem, seval, *, encG] | ((with_reducible refine opK_c ?_); simp -dsimp only [go_sem, seval, encG]; first | refine callK_r (by first | assumption | fail) (by first | exact .inl rfl | exact .inr rfl) ?_ | (refine callK_i (by assumption) ?_ ?_ ?_; (solve | (repeat (first | exact DLe.refl _ | exact DLe.nil _ | (refine DLe.tup ?_) | (refine DLe.agg ?_ rfl) | exact trivial | (refine And.intro ?_ ?_)))); (solve | exact .inl rfl | exact .inr rfl))) | fail | omega | exact decide_eq_true (by omega) | exact DLe.refl _)
theorem vcheck2_p (s : Sbn) : PSpec Tryz.prog 72 [.agg (encN s)] (.v (.int .i64 s.id)) := by
  refine ps_i tab_ok mixed Tryz.func72 rfl Tryz.ntmps72 Tryz.results72 (by kernel_rfl) ?_
  repeat' (first | (with_reducible refine And.intro ?_ ?_) | (with_reducible refine gK_i (fun _ => ?_) (fun _ => ?_)) | (with_reducible refine condS_i (fun _ => ?_) (fun _ => ?_)) | (with_reducible refine drw_i (by kernel_rfl)) | simp -dsimp only [go_sem, seval, *, encN] | ((with_reducible refine opK_c ?_); simp -dsimp only [go_sem, seval, encN]; first | refine callK_r (by first | assumption | fail) (by first | exact .inl rfl | exact .inr rfl) ?_ | (refine callK_i (by assumption) ?_ ?_ ?_; (solve | (repeat (first | exact DLe.refl _ | exact DLe.nil _ | (refine DLe.tup ?_) | (refine DLe.agg ?_ rfl) | exact trivial | (refine And.intro ?_ ?_)))); (solve | exact .inl rfl | exact .inr rfl))) | fail | omega | exact decide_eq_true (by omega) | exact DLe.refl _)
theorem all_snoc {α : Type} {p : α → Bool} {l : List α} {k : Nat} {x : α} (h : l[k]? = some x) : (l.take (k + 1)).all p = ((l.take k).all p && p x) := by
  rw [take_snoc h, List.all_append]; simp
set_option maxRecDepth 100000 in
set_option maxHeartbeats 4000000 in
theorem vcheck_p (v : Vpc) : PSpec Tryz.prog 37 [.agg (encV v)] (.v (.int .i64 (chkV v))) := by
  have hmy := many_p v
  cases hm : manyV v with
  | true =>
    rw [hm] at hmy
    have hr : chkV v = 2 := by unfold chkV; rw [if_pos hm]
    rw [hr]
    refine ps_i tab_ok mixed Tryz.func37 rfl Tryz.ntmps37 Tryz.results37 (by kernel_rfl) ?_
    repeat' (first | (with_reducible refine And.intro ?_ ?_) | (with_reducible refine gK_i (fun _ => ?_) (fun _ => ?_)) | (with_reducible refine condS_i (fun _ => ?_) (fun _ => ?_)) | (with_reducible refine drw_i (by kernel_rfl)) | simp -dsimp only [go_sem, seval, *, encV] | ((with_reducible refine opK_c ?_); simp -dsimp only [go_sem, seval, encV]; first | refine callK_r (by first | assumption | exact hmy) (by first | exact .inl rfl | exact .inr rfl) ?_ | (refine callK_i (by assumption) ?_ ?_ ?_; (solve | (repeat (first | exact DLe.refl _ | exact DLe.nil _ | (refine DLe.tup ?_) | (refine DLe.agg ?_ rfl) | exact trivial | (refine And.intro ?_ ?_)))); (solve | exact .inl rfl | exact .inr rfl))) | fail | omega | exact decide_eq_true (by omega) | exact DLe.refl _)
  | false =>
  obtain ⟨h4, h6, h8⟩ := manyV_ok hm
  rw [hm] at hmy
  have hid := vids_p v.id
  have hr1 := rises_Range encG_len (fun r : Rng => r.at_.at_) v.ranges 70 (by omega) (fun r _ => vcheck1_p r)
  have hr2 := rises_Sub encN_len (fun s : Sbn => s.id) v.subs 72 (by omega) (fun r _ => vcheck2_p r)
  obtain ⟨F0, hF0⟩ : ∃ F0, F0 = (idOK v.id && (risB (·.at_.at_) v.ranges && risB (·.id) v.subs)) := ⟨_, rfl⟩
  have hap1 := apart_p (v.ranges.map (·.at_)) (by rw [List.length_map]; omega)
  have hap2 := apart_p (v.subs.map (·.at_)) (by rw [List.length_map]; omega)
  have hres : chkV v = if (F0 && v.ranges.all rangeB && v.subs.all (subB v)) && (apaF [] (v.ranges.map (·.at_)) && apaF [] (v.subs.map (·.at_))) then 0 else 1 := by
    unfold chkV fineV
    rw [if_neg (by simp [hm]), hF0]
    simp only [Bool.and_assoc]
  rw [hres]
  replace hres := Lib.hid hres
  replace h8 := Lib.hid h8
  replace hm := Lib.hid hm
  replace hmy := Lib.hid hmy
  cases b1 : idOK v.id with
  | false =>
    rw [b1, Bool.false_and] at hF0
    subst hF0
    rw [b1] at hid
    refine ps_i tab_ok mixed Tryz.func37 rfl Tryz.ntmps37 Tryz.results37 (by kernel_rfl) ?_
    repeat' (first | (with_reducible refine And.intro ?_ ?_) | (with_reducible refine gK_i (fun _ => ?_) (fun _ => ?_)) | (with_reducible refine condS_i (fun _ => ?_) (fun _ => ?_)) | (with_reducible refine drw_i (by kernel_rfl)) | simp -dsimp only [go_sem, seval, *, encV, hmy.out, undef] | ((with_reducible refine opK_c ?_); simp -dsimp only [go_sem, seval, encV, hmy.out, undef]; first | refine callK_r (by first | assumption | exact hmy.out | exact hid) (by first | exact .inl rfl | exact .inr rfl) ?_ | (refine callK_i (by assumption) ?_ ?_ ?_; (solve | (repeat (first | exact DLe.refl _ | exact DLe.nil _ | (refine DLe.tup ?_) | (refine DLe.agg ?_ rfl) | exact trivial | (refine And.intro ?_ ?_)))); (solve | exact .inl rfl | exact .inr rfl))) | fail | omega | exact decide_eq_true (by omega) | exact DLe.refl _)
    refine loopG tab_ok mixed (fun m e h => ∃ (k g : Nat) (X : Bool), k ≤ v.ranges.length ∧ X = (false && (v.ranges.take k).all rangeB) ∧ m = v.ranges.length - k ∧ e = [(28, .d (.v (.int .i64 k))), (27, .d (.v (.int .i64 v.ranges.length))), (26, .d (.sl 3 (v.ranges.map encG))), (5, .d (.v (.bool X))), (4, .d (.v (.slice none 0 0))), (3, .own 1 g), (2, .d (.v (.int .i64 0))), (1, .ptr 0 0)] ∧
      h = [.box 56 ((encV v).map .d), .row 27 2 g (dRows (((v.ranges.take k).map (·.at_)).map encP))]) _ _ _ ⟨0, 0, false, Nat.zero_le _, by simp, rfl, rfl, rfl⟩ ((weak_adopt (Nat.zero_le _) 3 27 2 rfl).trans (weak_forget _ (by simp) (by (try simp only [encV]); rfl) (by (repeat' (first | exact trivial | (refine ⟨rfl, ?_⟩)))) (by first | rfl | simp only [belowH, belowE, belowC, belowL, belowR, belowP, belowL_d, belowR_d, List.length_cons, List.length_nil, Nat.reduceAdd, Nat.reduceLT, decide_true, Bool.and_self, Bool.and_true]) (by first | rfl | simp only [belowH, belowE, belowC, belowL, belowR, belowP, belowL_d, belowR_d, List.length_cons, List.length_nil, Nat.reduceAdd, Nat.reduceLT, decide_true, Bool.and_self, Bool.and_true]))) ?_
    rintro m e h ⟨k, g, X, hk, hX, hm0, rfl, rfl⟩ C hC
    by_cases hlt : k < v.ranges.length
    · have hkI : (k : Int) < (v.ranges.length : Int) := by omega
      have hwr : IntKind.i64.wrap ((k : Int) + 1) = ((k + 1 : Nat) : Int) := by rw [IntKind.wrap_i64]; omega
      obtain ⟨r, hr⟩ : ∃ r, v.ranges[k]? = some r := ⟨_, List.getElem?_eq_getElem hlt⟩
      have hrp := vids_p r.pool
      have hrc := check_p r.at_
      have hlk : (List.take k v.ranges).length = k := by rw [List.length_take]; omega
      have hbnd : (k + 1) * 16 ≤ 140737488355328 := by omega
      have hal := all_snoc (p := rangeB) hr
      have hrb : rangeB r = (idOK r.pool && (chk r.at_.at_ r.at_.len == 0)) := rfl
      generalize chk r.at_.at_ r.at_.len = K at *
      generalize idOK r.pool = I at *
      replace hX := Lib.hid hX
      replace hal := Lib.hid hal
      replace hrb := Lib.hid hrb
      replace hm0 := Lib.hid hm0
      replace hr := Lib.hid hr
      have hr1' := hr.out
      repeat' (first | (with_reducible refine And.intro ?_ ?_) | (with_reducible refine gK_i (fun _ => ?_) (fun _ => ?_)) | (with_reducible refine condS_i (fun _ => ?_) (fun _ => ?_)) | (with_reducible refine drw_i (by kernel_rfl)) | simp -dsimp only [go_sem, seval, *, encV, encG, encP, hkI, hwr, hr1', hlk, hbnd, undef] | ((with_reducible refine opK_c ?_); simp -dsimp only [go_sem, seval, encV, encG, encP, hkI, hwr, hr1', hlk, hbnd, undef]; first | refine callK_r (by first | assumption | exact hrp | exact hrc) (by first | exact .inl rfl | exact .inr rfl) ?_ | (refine callK_i (by assumption) ?_ ?_ ?_; (solve | (repeat (first | exact DLe.refl _ | exact DLe.nil _ | (refine DLe.tup ?_) | (refine DLe.agg ?_ rfl) | exact trivial | (refine And.intro ?_ ?_)))); (solve | exact .inl rfl | exact .inr rfl))) | fail | omega | exact decide_eq_true (by omega) | exact DLe.refl _)
      all_goals (refine hC _ _ _ _ _ ?_ ⟨k + 1, g + 1, _, hlt, ?_, rfl, rfl, rfl⟩ (weak_forget _ (by simp) (by rw [take_snoc hr.out]; simp only [encV, List.map_append, List.map_cons, List.map_nil, encP, ← dRows_app]; rfl) (by (repeat' (first | exact trivial | (refine ⟨rfl, ?_⟩)))) (by first | rfl | simp only [belowH, belowE, belowC, belowL, belowR, belowP, belowL_d, belowR_d, List.length_cons, List.length_nil, Nat.reduceAdd, Nat.reduceLT, decide_true, Bool.and_self, Bool.and_true]) (by first | rfl | simp only [belowH, belowE, belowC, belowL, belowR, belowP, belowL_d, belowR_d, List.length_cons, List.length_nil, Nat.reduceAdd, Nat.reduceLT, decide_true, Bool.and_self, Bool.and_true])))
      all_goals first
        | (have := hm0.out; omega)
        | (have h1 := hX.out; have h2 := hal.out; have h3 := hrb.out; clear hap1 hap2 hr1 hr2 hid hrp hrc hC hmy; grind)
    · obtain rfl : k = v.ranges.length := by omega
      rw [List.take_length] at hX ⊢
      replace hX := Lib.hid hX
      replace hm0 := Lib.hid hm0
      repeat' (first | (with_reducible refine And.intro ?_ ?_) | (with_reducible refine gK_i (fun _ => ?_) (fun _ => ?_)) | (with_reducible refine condS_i (fun _ => ?_) (fun _ => ?_)) | (with_reducible refine drw_i (by kernel_rfl)) | simp -dsimp only [go_sem, seval, *, encV, Int.lt_irrefl] | ((with_reducible refine opK_c ?_); simp -dsimp only [go_sem, seval, encV, Int.lt_irrefl]; first | refine callK_r (by first | assumption | fail) (by first | exact .inl rfl | exact .inr rfl) ?_ | (refine callK_i (by assumption) ?_ ?_ ?_; (solve | (repeat (first | exact DLe.refl _ | exact DLe.nil _ | (refine DLe.tup ?_) | (refine DLe.agg ?_ rfl) | exact trivial | (refine And.intro ?_ ?_)))); (solve | exact .inl rfl | exact .inr rfl))) | fail | omega | exact decide_eq_true (by omega) | exact DLe.refl _)
      refine loopG tab_ok mixed (fun m e h => ∃ (k g2 : Nat) (Y : Bool), k ≤ v.subs.length ∧ Y = (X && (v.subs.take k).all (subB v)) ∧ m = v.subs.length - k ∧ e = [(53, .d (.v (.int .i64 k))), (52, .d (.v (.int .i64 v.subs.length))), (51, .d (.sl 4 (v.subs.map encN))), (5, .d (.v (.bool Y))), (4, .own 2 g2), (3, .own 1 g), (2, .d (.v (.int .i64 0))), (1, .ptr 0 0)] ∧
        h = [.box 56 ((encV v).map .d), .row 27 2 g (dRows ((v.ranges.map (·.at_)).map encP)), .row 27 2 g2 (dRows (((v.subs.take k).map (·.at_)).map encP))]) _ _ _ ⟨0, 0, X, Nat.zero_le _, by simp, rfl, rfl, rfl⟩ ((weak_adopt (Nat.zero_le _) 4 27 2 rfl).trans (weak_forget _ (by simp) (by (try simp only [encV]); rfl) (by (repeat' (first | exact trivial | (refine ⟨rfl, ?_⟩)))) (by first | rfl | simp only [belowH, belowE, belowC, belowL, belowR, belowP, belowL_d, belowR_d, List.length_cons, List.length_nil, Nat.reduceAdd, Nat.reduceLT, decide_true, Bool.and_self, Bool.and_true]) (by first | rfl | simp only [belowH, belowE, belowC, belowL, belowR, belowP, belowL_d, belowR_d, List.length_cons, List.length_nil, Nat.reduceAdd, Nat.reduceLT, decide_true, Bool.and_self, Bool.and_true]))) ?_
      rintro m2 e h ⟨k, g2, Y, hk2, hY, hm2, rfl, rfl⟩ C hC
      by_cases hlt : k < v.subs.length
      · have hkI : (k : Int) < (v.subs.length : Int) := by omega
        have hwr : IntKind.i64.wrap ((k : Int) + 1) = ((k + 1 : Nat) : Int) := by rw [IntKind.wrap_i64]; omega
        obtain ⟨s, hs⟩ : ∃ s, v.subs[k]? = some s := ⟨_, List.getElem?_eq_getElem hlt⟩
        have hsm := List.mem_of_getElem? hs
        have hsi := vids_p s.id
        have hsh := vholds_p v s.at_ (by omega)
        have hsf := faces_p s (h8.out s hsm).1 (h8.out s hsm).2
        have hlk : (List.take k v.subs).length = k := by rw [List.length_take]; omega
        have hbnd : (k + 1) * 16 ≤ 140737488355328 := by omega
        have hal := all_snoc (p := subB v) hs
        have hsb : subB v s = (idOK s.id && (holdsV v s.at_ && facesB s)) := rfl
        generalize holdsV v s.at_ = H at *
        generalize idOK s.id = I at *
        generalize facesB s = F at *
        replace hY := Lib.hid hY
        replace hal := Lib.hid hal
        replace hsb := Lib.hid hsb
        replace hm2 := Lib.hid hm2
        replace hs := Lib.hid hs
        have hs1' := hs.out
        repeat' (first | (with_reducible refine And.intro ?_ ?_) | (with_reducible refine gK_i (fun _ => ?_) (fun _ => ?_)) | (with_reducible refine condS_i (fun _ => ?_) (fun _ => ?_)) | (with_reducible refine drw_i (by kernel_rfl)) | simp -dsimp only [go_sem, seval, *, encV, encN, encP, hkI, hwr, hs1', hlk, hbnd, undef] | ((with_reducible refine opK_c ?_); simp -dsimp only [go_sem, seval, encV, encN, encP, hkI, hwr, hs1', hlk, hbnd, undef]; first | refine callK_r (by first | assumption | exact hsi | exact hsh | exact hsf) (by first | exact .inl rfl | exact .inr rfl) ?_ | (refine callK_i (by assumption) ?_ ?_ ?_; (solve | (repeat (first | exact DLe.refl _ | exact DLe.nil _ | (refine DLe.tup ?_) | (refine DLe.agg ?_ rfl) | exact trivial | (refine And.intro ?_ ?_)))); (solve | exact .inl rfl | exact .inr rfl))) | fail | omega | exact decide_eq_true (by omega) | exact DLe.refl _)
        all_goals (refine hC _ _ _ _ _ ?_ ⟨k + 1, g2 + 1, _, hlt, ?_, rfl, rfl, rfl⟩ (weak_forget _ (by simp) (by rw [take_snoc hs.out]; simp only [encV, List.map_append, List.map_cons, List.map_nil, encP, ← dRows_app]; rfl) (by (repeat' (first | exact trivial | (refine ⟨rfl, ?_⟩)))) (by first | rfl | simp only [belowH, belowE, belowC, belowL, belowR, belowP, belowL_d, belowR_d, List.length_cons, List.length_nil, Nat.reduceAdd, Nat.reduceLT, decide_true, Bool.and_self, Bool.and_true]) (by first | rfl | simp only [belowH, belowE, belowC, belowL, belowR, belowP, belowL_d, belowR_d, List.length_cons, List.length_nil, Nat.reduceAdd, Nat.reduceLT, decide_true, Bool.and_self, Bool.and_true])))
        all_goals first
          | (have := hm2.out; omega)
          | (have h1 := hY.out; have h2 := hal.out; have h3 := hsb.out; clear hap1 hap2 hr1 hr2 hid hsi hsh hsf hC hmy; grind)
      · obtain rfl : k = v.subs.length := by omega
        rw [List.take_length] at hY ⊢
        replace hY := Lib.hid hY
        replace hm2 := Lib.hid hm2
        have ha1 : apaF [] (v.ranges.map (·.at_)) = apaF [] (v.ranges.map (·.at_)) := rfl
        generalize hA1 : apaF [] (v.ranges.map (·.at_)) = A1 at *
        generalize hA2 : apaF [] (v.subs.map (·.at_)) = A2 at *
        replace hA1 := Lib.hid hA1
        replace hA2 := Lib.hid hA2
        clear ha1
        repeat' (first | (with_reducible refine And.intro ?_ ?_) | (with_reducible refine gK_i (fun _ => ?_) (fun _ => ?_)) | (with_reducible refine condS_i (fun _ => ?_) (fun _ => ?_)) | (with_reducible refine drw_i (by kernel_rfl)) | simp -dsimp only [go_sem, seval, *, encV, Int.lt_irrefl, undef] | ((with_reducible refine opK_c ?_); simp -dsimp only [go_sem, seval, encV, Int.lt_irrefl, undef]; first | refine callK_r (by first | assumption | exact hap1 | exact hap2) (by first | exact .inl rfl | exact .inr rfl) ?_ | (refine callK_i (by assumption) ?_ ?_ ?_; (solve | (repeat (first | exact DLe.refl _ | exact DLe.nil _ | (refine DLe.tup ?_) | (refine DLe.agg ?_ rfl) | exact trivial | (refine And.intro ?_ ?_)))); (solve | exact .inl rfl | exact .inr rfl))) | fail | omega | exact decide_eq_true (by omega) | exact DLe.refl _)
        all_goals
          have h1 := hX.out
          have h2 := hY.out
          clear hap1 hap2 hr1 hr2 hid hC hmy
          first
            | exact DLe.refl _
            | (rw [if_pos (by grind)]; exact DLe.refl _)
            | (rw [if_neg (by grind)]; exact DLe.refl _)
            | (exfalso; grind)
  | true =>
    rw [b1] at hid
    cases b2 : risB (fun r : Rng => r.at_.at_) v.ranges with
    | false =>
      rw [b1, b2, Bool.false_and, Bool.and_false] at hF0
      subst hF0
      rw [b2] at hr1
      refine ps_i tab_ok mixed Tryz.func37 rfl Tryz.ntmps37 Tryz.results37 (by kernel_rfl) ?_
      repeat' (first | (with_reducible refine And.intro ?_ ?_) | (with_reducible refine gK_i (fun _ => ?_) (fun _ => ?_)) | (with_reducible refine condS_i (fun _ => ?_) (fun _ => ?_)) | (with_reducible refine drw_i (by kernel_rfl)) | simp -dsimp only [go_sem, seval, *, encV, undef] | ((with_reducible refine opK_c ?_); simp -dsimp only [go_sem, seval, encV, undef]; first | refine callK_r (by first | assumption | exact hmy.out | exact hid | exact hr1) (by first | exact .inl rfl | exact .inr rfl) ?_ | (refine callK_i (by assumption) ?_ ?_ ?_; (solve | (repeat (first | exact DLe.refl _ | exact DLe.nil _ | (refine DLe.tup ?_) | (refine DLe.agg ?_ rfl) | exact trivial | (refine And.intro ?_ ?_)))); (solve | exact .inl rfl | exact .inr rfl))) | fail | omega | exact decide_eq_true (by omega) | exact DLe.refl _)
      refine loopG tab_ok mixed (fun m e h => ∃ (k g : Nat) (X : Bool), k ≤ v.ranges.length ∧ X = (false && (v.ranges.take k).all rangeB) ∧ m = v.ranges.length - k ∧ e = [(28, .d (.v (.int .i64 k))), (27, .d (.v (.int .i64 v.ranges.length))), (26, .d (.sl 3 (v.ranges.map encG))), (5, .d (.v (.bool X))), (4, .d (.v (.slice none 0 0))), (3, .own 1 g), (2, .d (.v (.int .i64 0))), (1, .ptr 0 0)] ∧
        h = [.box 56 ((encV v).map .d), .row 27 2 g (dRows (((v.ranges.take k).map (·.at_)).map encP))]) _ _ _ ⟨0, 0, false, Nat.zero_le _, by simp, rfl, rfl, rfl⟩ ((weak_adopt (Nat.zero_le _) 3 27 2 rfl).trans (weak_forget _ (by simp) (by (try simp only [encV]); rfl) (by (repeat' (first | exact trivial | (refine ⟨rfl, ?_⟩)))) (by first | rfl | simp only [belowH, belowE, belowC, belowL, belowR, belowP, belowL_d, belowR_d, List.length_cons, List.length_nil, Nat.reduceAdd, Nat.reduceLT, decide_true, Bool.and_self, Bool.and_true]) (by first | rfl | simp only [belowH, belowE, belowC, belowL, belowR, belowP, belowL_d, belowR_d, List.length_cons, List.length_nil, Nat.reduceAdd, Nat.reduceLT, decide_true, Bool.and_self, Bool.and_true]))) ?_
      rintro m e h ⟨k, g, X, hk, hX, hm0, rfl, rfl⟩ C hC
      by_cases hlt : k < v.ranges.length
      · have hkI : (k : Int) < (v.ranges.length : Int) := by omega
        have hwr : IntKind.i64.wrap ((k : Int) + 1) = ((k + 1 : Nat) : Int) := by rw [IntKind.wrap_i64]; omega
        obtain ⟨r, hr⟩ : ∃ r, v.ranges[k]? = some r := ⟨_, List.getElem?_eq_getElem hlt⟩
        have hrp := vids_p r.pool
        have hrc := check_p r.at_
        have hlk : (List.take k v.ranges).length = k := by rw [List.length_take]; omega
        have hbnd : (k + 1) * 16 ≤ 140737488355328 := by omega
        have hal := all_snoc (p := rangeB) hr
        have hrb : rangeB r = (idOK r.pool && (chk r.at_.at_ r.at_.len == 0)) := rfl
        generalize chk r.at_.at_ r.at_.len = K at *
        generalize idOK r.pool = I at *
        replace hX := Lib.hid hX
        replace hal := Lib.hid hal
        replace hrb := Lib.hid hrb
        replace hm0 := Lib.hid hm0
        replace hr := Lib.hid hr
        have hr1' := hr.out
        repeat' (first | (with_reducible refine And.intro ?_ ?_) | (with_reducible refine gK_i (fun _ => ?_) (fun _ => ?_)) | (with_reducible refine condS_i (fun _ => ?_) (fun _ => ?_)) | (with_reducible refine drw_i (by kernel_rfl)) | simp -dsimp only [go_sem, seval, *, encV, encG, encP, hkI, hwr, hr1', hlk, hbnd, undef] | ((with_reducible refine opK_c ?_); simp -dsimp only [go_sem, seval, encV, encG, encP, hkI, hwr, hr1', hlk, hbnd, undef]; first | refine callK_r (by first | assumption | exact hrp | exact hrc) (by first | exact .inl rfl | exact .inr rfl) ?_ | (refine callK_i (by assumption) ?_ ?_ ?_; (solve | (repeat (first | exact DLe.refl _ | exact DLe.nil _ | (refine DLe.tup ?_) | (refine DLe.agg ?_ rfl) | exact trivial | (refine And.intro ?_ ?_)))); (solve | exact .inl rfl | exact .inr rfl))) | fail | omega | exact decide_eq_true (by omega) | exact DLe.refl _)
        all_goals (refine hC _ _ _ _ _ ?_ ⟨k + 1, g + 1, _, hlt, ?_, rfl, rfl, rfl⟩ (weak_forget _ (by simp) (by rw [take_snoc hr.out]; simp only [encV, List.map_append, List.map_cons, List.map_nil, encP, ← dRows_app]; rfl) (by (repeat' (first | exact trivial | (refine ⟨rfl, ?_⟩)))) (by first | rfl | simp only [belowH, belowE, belowC, belowL, belowR, belowP, belowL_d, belowR_d, List.length_cons, List.length_nil, Nat.reduceAdd, Nat.reduceLT, decide_true, Bool.and_self, Bool.and_true]) (by first | rfl | simp only [belowH, belowE, belowC, belowL, belowR, belowP, belowL_d, belowR_d, List.length_cons, List.length_nil, Nat.reduceAdd, Nat.reduceLT, decide_true, Bool.and_self, Bool.and_true])))
        all_goals first
          | (have := hm0.out; omega)
          | (have h1 := hX.out; have h2 := hal.out; have h3 := hrb.out; clear hap1 hap2 hr1 hr2 hid hrp hrc hC hmy; grind)
      · obtain rfl : k = v.ranges.length := by omega
        rw [List.take_length] at hX ⊢
        replace hX := Lib.hid hX
        replace hm0 := Lib.hid hm0
        repeat' (first | (with_reducible refine And.intro ?_ ?_) | (with_reducible refine gK_i (fun _ => ?_) (fun _ => ?_)) | (with_reducible refine condS_i (fun _ => ?_) (fun _ => ?_)) | (with_reducible refine drw_i (by kernel_rfl)) | simp -dsimp only [go_sem, seval, *, encV, Int.lt_irrefl] | ((with_reducible refine opK_c ?_); simp -dsimp only [go_sem, seval, encV, Int.lt_irrefl]; first | refine callK_r (by first | assumption | fail) (by first | exact .inl rfl | exact .inr rfl) ?_ | (refine callK_i (by assumption) ?_ ?_ ?_; (solve | (repeat (first | exact DLe.refl _ | exact DLe.nil _ | (refine DLe.tup ?_) | (refine DLe.agg ?_ rfl) | exact trivial | (refine And.intro ?_ ?_)))); (solve | exact .inl rfl | exact .inr rfl))) | fail | omega | exact decide_eq_true (by omega) | exact DLe.refl _)
        refine loopG tab_ok mixed (fun m e h => ∃ (k g2 : Nat) (Y : Bool), k ≤ v.subs.length ∧ Y = (X && (v.subs.take k).all (subB v)) ∧ m = v.subs.length - k ∧ e = [(53, .d (.v (.int .i64 k))), (52, .d (.v (.int .i64 v.subs.length))), (51, .d (.sl 4 (v.subs.map encN))), (5, .d (.v (.bool Y))), (4, .own 2 g2), (3, .own 1 g), (2, .d (.v (.int .i64 0))), (1, .ptr 0 0)] ∧
          h = [.box 56 ((encV v).map .d), .row 27 2 g (dRows ((v.ranges.map (·.at_)).map encP)), .row 27 2 g2 (dRows (((v.subs.take k).map (·.at_)).map encP))]) _ _ _ ⟨0, 0, X, Nat.zero_le _, by simp, rfl, rfl, rfl⟩ ((weak_adopt (Nat.zero_le _) 4 27 2 rfl).trans (weak_forget _ (by simp) (by (try simp only [encV]); rfl) (by (repeat' (first | exact trivial | (refine ⟨rfl, ?_⟩)))) (by first | rfl | simp only [belowH, belowE, belowC, belowL, belowR, belowP, belowL_d, belowR_d, List.length_cons, List.length_nil, Nat.reduceAdd, Nat.reduceLT, decide_true, Bool.and_self, Bool.and_true]) (by first | rfl | simp only [belowH, belowE, belowC, belowL, belowR, belowP, belowL_d, belowR_d, List.length_cons, List.length_nil, Nat.reduceAdd, Nat.reduceLT, decide_true, Bool.and_self, Bool.and_true]))) ?_
        rintro m2 e h ⟨k, g2, Y, hk2, hY, hm2, rfl, rfl⟩ C hC
        by_cases hlt : k < v.subs.length
        · have hkI : (k : Int) < (v.subs.length : Int) := by omega
          have hwr : IntKind.i64.wrap ((k : Int) + 1) = ((k + 1 : Nat) : Int) := by rw [IntKind.wrap_i64]; omega
          obtain ⟨s, hs⟩ : ∃ s, v.subs[k]? = some s := ⟨_, List.getElem?_eq_getElem hlt⟩
          have hsm := List.mem_of_getElem? hs
          have hsi := vids_p s.id
          have hsh := vholds_p v s.at_ (by omega)
          have hsf := faces_p s (h8.out s hsm).1 (h8.out s hsm).2
          have hlk : (List.take k v.subs).length = k := by rw [List.length_take]; omega
          have hbnd : (k + 1) * 16 ≤ 140737488355328 := by omega
          have hal := all_snoc (p := subB v) hs
          have hsb : subB v s = (idOK s.id && (holdsV v s.at_ && facesB s)) := rfl
          generalize holdsV v s.at_ = H at *
          generalize idOK s.id = I at *
          generalize facesB s = F at *
          replace hY := Lib.hid hY
          replace hal := Lib.hid hal
          replace hsb := Lib.hid hsb
          replace hm2 := Lib.hid hm2
          replace hs := Lib.hid hs
          have hs1' := hs.out
          repeat' (first | (with_reducible refine And.intro ?_ ?_) | (with_reducible refine gK_i (fun _ => ?_) (fun _ => ?_)) | (with_reducible refine condS_i (fun _ => ?_) (fun _ => ?_)) | (with_reducible refine drw_i (by kernel_rfl)) | simp -dsimp only [go_sem, seval, *, encV, encN, encP, hkI, hwr, hs1', hlk, hbnd, undef] | ((with_reducible refine opK_c ?_); simp -dsimp only [go_sem, seval, encV, encN, encP, hkI, hwr, hs1', hlk, hbnd, undef]; first | refine callK_r (by first | assumption | exact hsi | exact hsh | exact hsf) (by first | exact .inl rfl | exact .inr rfl) ?_ | (refine callK_i (by assumption) ?_ ?_ ?_; (solve | (repeat (first | exact DLe.refl _ | exact DLe.nil _ | (refine DLe.tup ?_) | (refine DLe.agg ?_ rfl) | exact trivial | (refine And.intro ?_ ?_)))); (solve | exact .inl rfl | exact .inr rfl))) | fail | omega | exact decide_eq_true (by omega) | exact DLe.refl _)
          all_goals (refine hC _ _ _ _ _ ?_ ⟨k + 1, g2 + 1, _, hlt, ?_, rfl, rfl, rfl⟩ (weak_forget _ (by simp) (by rw [take_snoc hs.out]; simp only [encV, List.map_append, List.map_cons, List.map_nil, encP, ← dRows_app]; rfl) (by (repeat' (first | exact trivial | (refine ⟨rfl, ?_⟩)))) (by first | rfl | simp only [belowH, belowE, belowC, belowL, belowR, belowP, belowL_d, belowR_d, List.length_cons, List.length_nil, Nat.reduceAdd, Nat.reduceLT, decide_true, Bool.and_self, Bool.and_true]) (by first | rfl | simp only [belowH, belowE, belowC, belowL, belowR, belowP, belowL_d, belowR_d, List.length_cons, List.length_nil, Nat.reduceAdd, Nat.reduceLT, decide_true, Bool.and_self, Bool.and_true])))
          all_goals first
            | (have := hm2.out; omega)
            | (have h1 := hY.out; have h2 := hal.out; have h3 := hsb.out; clear hap1 hap2 hr1 hr2 hid hsi hsh hsf hC hmy; grind)
        · obtain rfl : k = v.subs.length := by omega
          rw [List.take_length] at hY ⊢
          replace hY := Lib.hid hY
          replace hm2 := Lib.hid hm2
          have ha1 : apaF [] (v.ranges.map (·.at_)) = apaF [] (v.ranges.map (·.at_)) := rfl
          generalize hA1 : apaF [] (v.ranges.map (·.at_)) = A1 at *
          generalize hA2 : apaF [] (v.subs.map (·.at_)) = A2 at *
          replace hA1 := Lib.hid hA1
          replace hA2 := Lib.hid hA2
          clear ha1
          repeat' (first | (with_reducible refine And.intro ?_ ?_) | (with_reducible refine gK_i (fun _ => ?_) (fun _ => ?_)) | (with_reducible refine condS_i (fun _ => ?_) (fun _ => ?_)) | (with_reducible refine drw_i (by kernel_rfl)) | simp -dsimp only [go_sem, seval, *, encV, Int.lt_irrefl, undef] | ((with_reducible refine opK_c ?_); simp -dsimp only [go_sem, seval, encV, Int.lt_irrefl, undef]; first | refine callK_r (by first | assumption | exact hap1 | exact hap2) (by first | exact .inl rfl | exact .inr rfl) ?_ | (refine callK_i (by assumption) ?_ ?_ ?_; (solve | (repeat (first | exact DLe.refl _ | exact DLe.nil _ | (refine DLe.tup ?_) | (refine DLe.agg ?_ rfl) | exact trivial | (refine And.intro ?_ ?_)))); (solve | exact .inl rfl | exact .inr rfl))) | fail | omega | exact decide_eq_true (by omega) | exact DLe.refl _)
          all_goals
            have h1 := hX.out
            have h2 := hY.out
            clear hap1 hap2 hr1 hr2 hid hC hmy
            first
              | exact DLe.refl _
              | (rw [if_pos (by grind)]; exact DLe.refl _)
              | (rw [if_neg (by grind)]; exact DLe.refl _)
              | (exfalso; grind)
    | true =>
      rw [b1, b2, Bool.true_and, Bool.true_and] at hF0
      subst hF0
      rw [b2] at hr1
      generalize risB (fun s : Sbn => s.id) v.subs = F0 at *
      refine ps_i tab_ok mixed Tryz.func37 rfl Tryz.ntmps37 Tryz.results37 (by kernel_rfl) ?_
      repeat' (first | (with_reducible refine And.intro ?_ ?_) | (with_reducible refine gK_i (fun _ => ?_) (fun _ => ?_)) | (with_reducible refine condS_i (fun _ => ?_) (fun _ => ?_)) | (with_reducible refine drw_i (by kernel_rfl)) | simp -dsimp only [go_sem, seval, *, encV, undef] | ((with_reducible refine opK_c ?_); simp -dsimp only [go_sem, seval, encV, undef]; first | refine callK_r (by first | assumption | exact hmy.out | exact hid | exact hr1 | exact hr2) (by first | exact .inl rfl | exact .inr rfl) ?_ | (refine callK_i (by assumption) ?_ ?_ ?_; (solve | (repeat (first | exact DLe.refl _ | exact DLe.nil _ | (refine DLe.tup ?_) | (refine DLe.agg ?_ rfl) | exact trivial | (refine And.intro ?_ ?_)))); (solve | exact .inl rfl | exact .inr rfl))) | fail | omega | exact decide_eq_true (by omega) | exact DLe.refl _)
      refine loopG tab_ok mixed (fun m e h => ∃ (k g : Nat) (X : Bool), k ≤ v.ranges.length ∧ X = (F0 && (v.ranges.take k).all rangeB) ∧ m = v.ranges.length - k ∧ e = [(28, .d (.v (.int .i64 k))), (27, .d (.v (.int .i64 v.ranges.length))), (26, .d (.sl 3 (v.ranges.map encG))), (5, .d (.v (.bool X))), (4, .d (.v (.slice none 0 0))), (3, .own 1 g), (2, .d (.v (.int .i64 0))), (1, .ptr 0 0)] ∧
        h = [.box 56 ((encV v).map .d), .row 27 2 g (dRows (((v.ranges.take k).map (·.at_)).map encP))]) _ _ _ ⟨0, 0, F0, Nat.zero_le _, by simp, rfl, rfl, rfl⟩ ((weak_adopt (Nat.zero_le _) 3 27 2 rfl).trans (weak_forget _ (by simp) (by (try simp only [encV]); rfl) (by (repeat' (first | exact trivial | (refine ⟨rfl, ?_⟩)))) (by first | rfl | simp only [belowH, belowE, belowC, belowL, belowR, belowP, belowL_d, belowR_d, List.length_cons, List.length_nil, Nat.reduceAdd, Nat.reduceLT, decide_true, Bool.and_self, Bool.and_true]) (by first | rfl | simp only [belowH, belowE, belowC, belowL, belowR, belowP, belowL_d, belowR_d, List.length_cons, List.length_nil, Nat.reduceAdd, Nat.reduceLT, decide_true, Bool.and_self, Bool.and_true]))) ?_
      rintro m e h ⟨k, g, X, hk, hX, hm0, rfl, rfl⟩ C hC
      by_cases hlt : k < v.ranges.length
      · have hkI : (k : Int) < (v.ranges.length : Int) := by omega
        have hwr : IntKind.i64.wrap ((k : Int) + 1) = ((k + 1 : Nat) : Int) := by rw [IntKind.wrap_i64]; omega
        obtain ⟨r, hr⟩ : ∃ r, v.ranges[k]? = some r := ⟨_, List.getElem?_eq_getElem hlt⟩
        have hrp := vids_p r.pool
        have hrc := check_p r.at_
        have hlk : (List.take k v.ranges).length = k := by rw [List.length_take]; omega
        have hbnd : (k + 1) * 16 ≤ 140737488355328 := by omega
        have hal := all_snoc (p := rangeB) hr
        have hrb : rangeB r = (idOK r.pool && (chk r.at_.at_ r.at_.len == 0)) := rfl
        generalize chk r.at_.at_ r.at_.len = K at *
        generalize idOK r.pool = I at *
        replace hX := Lib.hid hX
        replace hal := Lib.hid hal
        replace hrb := Lib.hid hrb
        replace hm0 := Lib.hid hm0
        replace hr := Lib.hid hr
        have hr1' := hr.out
        repeat' (first | (with_reducible refine And.intro ?_ ?_) | (with_reducible refine gK_i (fun _ => ?_) (fun _ => ?_)) | (with_reducible refine condS_i (fun _ => ?_) (fun _ => ?_)) | (with_reducible refine drw_i (by kernel_rfl)) | simp -dsimp only [go_sem, seval, *, encV, encG, encP, hkI, hwr, hr1', hlk, hbnd, undef] | ((with_reducible refine opK_c ?_); simp -dsimp only [go_sem, seval, encV, encG, encP, hkI, hwr, hr1', hlk, hbnd, undef]; first | refine callK_r (by first | assumption | exact hrp | exact hrc) (by first | exact .inl rfl | exact .inr rfl) ?_ | (refine callK_i (by assumption) ?_ ?_ ?_; (solve | (repeat (first | exact DLe.refl _ | exact DLe.nil _ | (refine DLe.tup ?_) | (refine DLe.agg ?_ rfl) | exact trivial | (refine And.intro ?_ ?_)))); (solve | exact .inl rfl | exact .inr rfl))) | fail | omega | exact decide_eq_true (by omega) | exact DLe.refl _)
        all_goals (refine hC _ _ _ _ _ ?_ ⟨k + 1, g + 1, _, hlt, ?_, rfl, rfl, rfl⟩ (weak_forget _ (by simp) (by rw [take_snoc hr.out]; simp only [encV, List.map_append, List.map_cons, List.map_nil, encP, ← dRows_app]; rfl) (by (repeat' (first | exact trivial | (refine ⟨rfl, ?_⟩)))) (by first | rfl | simp only [belowH, belowE, belowC, belowL, belowR, belowP, belowL_d, belowR_d, List.length_cons, List.length_nil, Nat.reduceAdd, Nat.reduceLT, decide_true, Bool.and_self, Bool.and_true]) (by first | rfl | simp only [belowH, belowE, belowC, belowL, belowR, belowP, belowL_d, belowR_d, List.length_cons, List.length_nil, Nat.reduceAdd, Nat.reduceLT, decide_true, Bool.and_self, Bool.and_true])))
        all_goals first
          | (have := hm0.out; omega)
          | (have h1 := hX.out; have h2 := hal.out; have h3 := hrb.out; clear hap1 hap2 hr1 hr2 hid hrp hrc hC hmy; grind)
      · obtain rfl : k = v.ranges.length := by omega
        rw [List.take_length] at hX ⊢
        replace hX := Lib.hid hX
        replace hm0 := Lib.hid hm0
        repeat' (first | (with_reducible refine And.intro ?_ ?_) | (with_reducible refine gK_i (fun _ => ?_) (fun _ => ?_)) | (with_reducible refine condS_i (fun _ => ?_) (fun _ => ?_)) | (with_reducible refine drw_i (by kernel_rfl)) | simp -dsimp only [go_sem, seval, *, encV, Int.lt_irrefl] | ((with_reducible refine opK_c ?_); simp -dsimp only [go_sem, seval, encV, Int.lt_irrefl]; first | refine callK_r (by first | assumption | fail) (by first | exact .inl rfl | exact .inr rfl) ?_ | (refine callK_i (by assumption) ?_ ?_ ?_; (solve | (repeat (first | exact DLe.refl _ | exact DLe.nil _ | (refine DLe.tup ?_) | (refine DLe.agg ?_ rfl) | exact trivial | (refine And.intro ?_ ?_)))); (solve | exact .inl rfl | exact .inr rfl))) | fail | omega | exact decide_eq_true (by omega) | exact DLe.refl _)
        refine loopG tab_ok mixed (fun m e h => ∃ (k g2 : Nat) (Y : Bool), k ≤ v.subs.length ∧ Y = (X && (v.subs.take k).all (subB v)) ∧ m = v.subs.length - k ∧ e = [(53, .d (.v (.int .i64 k))), (52, .d (.v (.int .i64 v.subs.length))), (51, .d (.sl 4 (v.subs.map encN))), (5, .d (.v (.bool Y))), (4, .own 2 g2), (3, .own 1 g), (2, .d (.v (.int .i64 0))), (1, .ptr 0 0)] ∧
          h = [.box 56 ((encV v).map .d), .row 27 2 g (dRows ((v.ranges.map (·.at_)).map encP)), .row 27 2 g2 (dRows (((v.subs.take k).map (·.at_)).map encP))]) _ _ _ ⟨0, 0, X, Nat.zero_le _, by simp, rfl, rfl, rfl⟩ ((weak_adopt (Nat.zero_le _) 4 27 2 rfl).trans (weak_forget _ (by simp) (by (try simp only [encV]); rfl) (by (repeat' (first | exact trivial | (refine ⟨rfl, ?_⟩)))) (by first | rfl | simp only [belowH, belowE, belowC, belowL, belowR, belowP, belowL_d, belowR_d, List.length_cons, List.length_nil, Nat.reduceAdd, Nat.reduceLT, decide_true, Bool.and_self, Bool.and_true]) (by first | rfl | simp only [belowH, belowE, belowC, belowL, belowR, belowP, belowL_d, belowR_d, List.length_cons, List.length_nil, Nat.reduceAdd, Nat.reduceLT, decide_true, Bool.and_self, Bool.and_true]))) ?_
        rintro m2 e h ⟨k, g2, Y, hk2, hY, hm2, rfl, rfl⟩ C hC
        by_cases hlt : k < v.subs.length
        · have hkI : (k : Int) < (v.subs.length : Int) := by omega
          have hwr : IntKind.i64.wrap ((k : Int) + 1) = ((k + 1 : Nat) : Int) := by rw [IntKind.wrap_i64]; omega
          obtain ⟨s, hs⟩ : ∃ s, v.subs[k]? = some s := ⟨_, List.getElem?_eq_getElem hlt⟩
          have hsm := List.mem_of_getElem? hs
          have hsi := vids_p s.id
          have hsh := vholds_p v s.at_ (by omega)
          have hsf := faces_p s (h8.out s hsm).1 (h8.out s hsm).2
          have hlk : (List.take k v.subs).length = k := by rw [List.length_take]; omega
          have hbnd : (k + 1) * 16 ≤ 140737488355328 := by omega
          have hal := all_snoc (p := subB v) hs
          have hsb : subB v s = (idOK s.id && (holdsV v s.at_ && facesB s)) := rfl
          generalize holdsV v s.at_ = H at *
          generalize idOK s.id = I at *
          generalize facesB s = F at *
          replace hY := Lib.hid hY
          replace hal := Lib.hid hal
          replace hsb := Lib.hid hsb
          replace hm2 := Lib.hid hm2
          replace hs := Lib.hid hs
          have hs1' := hs.out
          repeat' (first | (with_reducible refine And.intro ?_ ?_) | (with_reducible refine gK_i (fun _ => ?_) (fun _ => ?_)) | (with_reducible refine condS_i (fun _ => ?_) (fun _ => ?_)) | (with_reducible refine drw_i (by kernel_rfl)) | simp -dsimp only [go_sem, seval, *, encV, encN, encP, hkI, hwr, hs1', hlk, hbnd, undef] | ((with_reducible refine opK_c ?_); simp -dsimp only [go_sem, seval, encV, encN, encP, hkI, hwr, hs1', hlk, hbnd, undef]; first | refine callK_r (by first | assumption | exact hsi | exact hsh | exact hsf) (by first | exact .inl rfl | exact .inr rfl) ?_ | (refine callK_i (by assumption) ?_ ?_ ?_; (solve | (repeat (first | exact DLe.refl _ | exact DLe.nil _ | (refine DLe.tup ?_) | (refine DLe.agg ?_ rfl) | exact trivial | (refine And.intro ?_ ?_)))); (solve | exact .inl rfl | exact .inr rfl))) | fail | omega | exact decide_eq_true (by omega) | exact DLe.refl _)
          all_goals (refine hC _ _ _ _ _ ?_ ⟨k + 1, g2 + 1, _, hlt, ?_, rfl, rfl, rfl⟩ (weak_forget _ (by simp) (by rw [take_snoc hs.out]; simp only [encV, List.map_append, List.map_cons, List.map_nil, encP, ← dRows_app]; rfl) (by (repeat' (first | exact trivial | (refine ⟨rfl, ?_⟩)))) (by first | rfl | simp only [belowH, belowE, belowC, belowL, belowR, belowP, belowL_d, belowR_d, List.length_cons, List.length_nil, Nat.reduceAdd, Nat.reduceLT, decide_true, Bool.and_self, Bool.and_true]) (by first | rfl | simp only [belowH, belowE, belowC, belowL, belowR, belowP, belowL_d, belowR_d, List.length_cons, List.length_nil, Nat.reduceAdd, Nat.reduceLT, decide_true, Bool.and_self, Bool.and_true])))
          all_goals first
            | (have := hm2.out; omega)
            | (have h1 := hY.out; have h2 := hal.out; have h3 := hsb.out; clear hap1 hap2 hr1 hr2 hid hsi hsh hsf hC hmy; grind)
        · obtain rfl : k = v.subs.length := by omega
          rw [List.take_length] at hY ⊢
          replace hY := Lib.hid hY
          replace hm2 := Lib.hid hm2
          have ha1 : apaF [] (v.ranges.map (·.at_)) = apaF [] (v.ranges.map (·.at_)) := rfl
          generalize hA1 : apaF [] (v.ranges.map (·.at_)) = A1 at *
          generalize hA2 : apaF [] (v.subs.map (·.at_)) = A2 at *
          replace hA1 := Lib.hid hA1
          replace hA2 := Lib.hid hA2
          clear ha1
          repeat' (first | (with_reducible refine And.intro ?_ ?_) | (with_reducible refine gK_i (fun _ => ?_) (fun _ => ?_)) | (with_reducible refine condS_i (fun _ => ?_) (fun _ => ?_)) | (with_reducible refine drw_i (by kernel_rfl)) | simp -dsimp only [go_sem, seval, *, encV, Int.lt_irrefl, undef] | ((with_reducible refine opK_c ?_); simp -dsimp only [go_sem, seval, encV, Int.lt_irrefl, undef]; first | refine callK_r (by first | assumption | exact hap1 | exact hap2) (by first | exact .inl rfl | exact .inr rfl) ?_ | (refine callK_i (by assumption) ?_ ?_ ?_; (solve | (repeat (first | exact DLe.refl _ | exact DLe.nil _ | (refine DLe.tup ?_) | (refine DLe.agg ?_ rfl) | exact trivial | (refine And.intro ?_ ?_)))); (solve | exact .inl rfl | exact .inr rfl))) | fail | omega | exact decide_eq_true (by omega) | exact DLe.refl _)
          all_goals
            have h1 := hX.out
            have h2 := hY.out
            clear hap1 hap2 hr1 hr2 hid hC hmy
            first
              | exact DLe.refl _
              | (rw [if_pos (by grind)]; exact DLe.refl _)
              | (rw [if_neg (by grind)]; exact DLe.refl _)
              | (exfalso; grind)
end Go.Proofs.YtgmbhaclogabeaaGreat
namespace Go.Proofs.YtgmbhaclogabeaaGreat
open Go Go.RowKit
theorem clone_int (l : List Int) (hl : l.length ≤ 1000000000) :
    MSpec Tryz.prog 49 [.d (.sl 1 (l.map encA))] [] (.own 0 1) [.row 3 1 1 (dRows (l.map encA))] := by
  cases l with
  | nil =>
    refine ms_empty (pl := []) (ql := []) fun ao cap => ?_
    cases ao with
    | none =>
      simp only [List.nil_append]
      refine ms_i tab_ok mixed Tryz.func49 rfl Tryz.ntmps49 Tryz.results49 (by kernel_rfl) (by simp) (by simp [belowL, belowP]) (by simp [belowH, belowC, belowL, belowP, belowL_d, belowR_d]) ?_
      repeat' (first | (with_reducible refine And.intro ?_ ?_) | (with_reducible refine gK_i (fun _ => ?_) (fun _ => ?_)) | (with_reducible refine condS_i (fun _ => ?_) (fun _ => ?_)) | (with_reducible refine drw_i (by kernel_rfl)) | simp -dsimp only [go_sem, seval, *, Option.isNone_none, Option.isSome_some] | ((with_reducible refine opK_c ?_); simp -dsimp only [go_sem, seval, Option.isNone_none, Option.isSome_some]; first | refine callK_r (by first | assumption | fail) (by first | exact .inl rfl | exact .inr rfl) ?_ | refine callK_i (by assumption) (by repeat (first | exact DLe.refl _ | exact DLe.nil _ | (refine DLe.tup ?_) | (refine DLe.agg ?_ rfl) | exact trivial | (refine And.intro ?_ ?_))) (by first | exact .inl rfl | exact .inr rfl) ?_) | omega | exact decide_eq_true (by omega) | exact DLe.refl _)
      refine weak_ret_adopt (h := []) (Nat.le_refl _) 3 1 ?_
      exact (weak_ret_bump 0 0 3 1 [] rfl (weak_eq rfl rfl))
    | some a =>
      simp only [List.nil_append]
      refine ms_i tab_ok mixed Tryz.func49 rfl Tryz.ntmps49 Tryz.results49 (by kernel_rfl) (by simp) (by simp [belowL, belowP]) (by simp [belowH, belowC, belowL, belowP, belowL_d, belowR_d]) ?_
      repeat' (first | (with_reducible refine And.intro ?_ ?_) | (with_reducible refine gK_i (fun _ => ?_) (fun _ => ?_)) | (with_reducible refine condS_i (fun _ => ?_) (fun _ => ?_)) | (with_reducible refine drw_i (by kernel_rfl)) | simp -dsimp only [go_sem, seval, *, Option.isNone_some, Option.isSome_some] | ((with_reducible refine opK_c ?_); simp -dsimp only [go_sem, seval, Option.isNone_some, Option.isSome_some]; first | refine callK_r (by first | assumption | fail) (by first | exact .inl rfl | exact .inr rfl) ?_ | refine callK_i (by assumption) (by repeat (first | exact DLe.refl _ | exact DLe.nil _ | (refine DLe.tup ?_) | (refine DLe.agg ?_ rfl) | exact trivial | (refine And.intro ?_ ?_))) (by first | exact .inl rfl | exact .inr rfl) ?_) | omega | exact decide_eq_true (by omega) | exact DLe.refl _)
      exact weak_eq rfl rfl
  | cons x l =>
    simp only [List.length_cons] at hl
    refine ms_i tab_ok mixed Tryz.func49 rfl Tryz.ntmps49 Tryz.results49 (by kernel_rfl) (by simp) (by simp [belowL, belowP]) (by simp [belowH, belowC, belowL, belowP, belowL_d, belowR_d]) ?_
    repeat' (first | (with_reducible refine And.intro ?_ ?_) | (with_reducible refine gK_i (fun _ => ?_) (fun _ => ?_)) | (with_reducible refine condS_i (fun _ => ?_) (fun _ => ?_)) | (with_reducible refine drw_i (by kernel_rfl)) | simp -dsimp only [go_sem, seval, *, Option.isNone_some, Option.isSome_some] | ((with_reducible refine opK_c ?_); simp -dsimp only [go_sem, seval, Option.isNone_some, Option.isSome_some]; first | refine callK_r (by first | assumption | fail) (by first | exact .inl rfl | exact .inr rfl) ?_ | refine callK_i (by assumption) (by repeat (first | exact DLe.refl _ | exact DLe.nil _ | (refine DLe.tup ?_) | (refine DLe.agg ?_ rfl) | exact trivial | (refine And.intro ?_ ?_))) (by first | exact .inl rfl | exact .inr rfl) ?_) | omega | exact decide_eq_true (by omega) | exact DLe.refl _)
    all_goals first | omega | exact weak_eq rfl rfl
def subRow (s : Sbn) (v : PV) : List PV := [.d (.v (.int .i64 s.id)), .d (.v (.int .i64 s.at_.at_)), .d (.v (.int .i64 s.at_.len)), v]
def faceRow (f : Fce) (v : PV) : List PV := [.d (.v (.int .i64 f.id)), v]
/-- Rows of data, one of which has something for itself. -/
def zipG {α : Type} (enc : α → List D) (pre : List α) (r : List PV) (post : List α) : List (List PV) := dRows (pre.map enc) ++ r :: dRows (post.map enc)
section
variable {α : Type} {enc : α → List D}
theorem zipG_len (pre : List α) (r : List PV) (post : List α) : (zipG enc pre r post).length = pre.length + 1 + post.length := by
  simp [zipG, dRows_len]; omega
theorem belowR_app (n : Nat) : ∀ (l m : List (List PV)), belowR n (l ++ m) = (belowR n l && belowR n m)
  | [], m => rfl
  | r :: l, m => by simp only [List.cons_append, belowR, belowR_app n l m, Bool.and_assoc]
theorem belowR_zipG (n : Nat) (pre : List α) (r : List PV) (post : List α) : belowR n (zipG enc pre r post) = belowL n r := by
  simp only [zipG, belowR_app, belowR, belowR_d, Bool.true_and, Bool.and_true]
theorem fzR_zipG (k g : Nat) (d : D) (pre : List α) (r : List PV) (post : List α) : fzR k g d (zipG enc pre r post) = zipG enc pre (fzL k g d r) post := by
  simp only [zipG, fzR_app, fzR, fzR_d]
theorem renR_zipG (ρ : Nat → Nat) (pre : List α) (r : List PV) (post : List α) : renR ρ (zipG enc pre r post) = zipG enc pre (renL ρ r) post := by
  have app : ∀ (l m : List (List PV)), renR ρ (l ++ m) = renR ρ l ++ renR ρ m := by
    intro l m
    rw [renR_map, renR_map, renR_map, List.map_append]
  simp only [zipG, app, renR, renR_d]
end
theorem beginE_m (v : Vpc) (h : chkV v ≠ 0) :
    MSpec Tryz.prog 53 [.d (.agg (encV v))] [] (.tup [.ptr 1 0, .d (.v (.int .i64 (chkV v)))]) [.gone, .box 56 [.d (.v (.int .i64 0)), .d (.v (.slice none 0 0)), .d (.v (.slice none 0 0))]] := by
  have hc := vcheck_p v
  have h1 : (chkV v != 0) = true := by simpa using h
  refine ms_i tab_ok mixed Tryz.func53 rfl Tryz.ntmps53 Tryz.results53 (by kernel_rfl) (by simp) (by simp [belowL, belowP]) (by simp [belowH, belowC, belowL, belowP, belowL_d, belowR_d]) ?_
  repeat' (first | (with_reducible refine And.intro ?_ ?_) | (with_reducible refine gK_i (fun _ => ?_) (fun _ => ?_)) | (with_reducible refine condS_i (fun _ => ?_) (fun _ => ?_)) | (with_reducible refine drw_i (by kernel_rfl)) | simp -dsimp only [go_sem, seval, *, encV, h1] | ((with_reducible refine opK_c ?_); simp -dsimp only [go_sem, seval, encV, h1]; first | refine callK_r (by first | assumption | exact hc) (by first | exact .inl rfl | exact .inr rfl) ?_ | (refine callK_i (by assumption) ?_ ?_ ?_; (solve | (repeat (first | exact DLe.refl _ | exact DLe.nil _ | (refine DLe.tup ?_) | (refine DLe.agg ?_ rfl) | exact trivial | (refine And.intro ?_ ?_)))); (solve | exact .inl rfl | exact .inr rfl))) | fail | omega | exact decide_eq_true (by omega) | exact DLe.refl _)
  exact (weak_gone 0 (by simp)).trans (weak_eq rfl rfl)
set_option maxRecDepth 100000 in
set_option maxHeartbeats 1000000 in
theorem beginD_m (v : Vpc) (h : chkV v = 0) (h4 : v.ranges.length ≤ 4) (h6 : v.subs.length ≤ 6) (h8 : ∀ s ∈ v.subs, s.faces.length ≤ 8 ∧ ∀ f ∈ s.faces, f.addrs.length ≤ 4) :
    MSpec Tryz.prog 53 [.d (.agg (encV v))] [] (.tup [.ptr 2 0, .d (.v (.int .i64 0))]) [.gone, .row 29 3 1 (dRows (v.ranges.map encG)), .box 56 [.d (.v (.int .i64 v.id)), .own 1 1, .own 3 v.subs.length], .row 86 4 v.subs.length (dRows (v.subs.map encN))] := by
  have hc := vcheck_p v
  rw [h] at hc
  replace h := Lib.hid h
  replace h8 := Lib.hid h8
  have hcl := clone_Range encG v.ranges (by omega)
  refine ms_i tab_ok mixed Tryz.func53 rfl Tryz.ntmps53 Tryz.results53 (by kernel_rfl) (by simp) (by simp [belowL, belowP]) (by simp [belowH, belowC, belowL, belowP, belowL_d, belowR_d]) ?_
  repeat' (first | (with_reducible refine And.intro ?_ ?_) | (with_reducible refine gK_i (fun _ => ?_) (fun _ => ?_)) | (with_reducible refine condS_i (fun _ => ?_) (fun _ => ?_)) | (with_reducible refine drw_i (by kernel_rfl)) | simp -dsimp only [go_sem, seval, *, encV] | ((with_reducible refine opK_c ?_); simp -dsimp only [go_sem, seval, encV]; first | refine callK_r (by first | assumption | exact hc) (by first | exact .inl rfl | exact .inr rfl) ?_ | (refine callK_i (by assumption) ?_ ?_ ?_; (solve | (repeat (first | exact DLe.refl _ | exact DLe.nil _ | (refine DLe.tup ?_) | (refine DLe.agg ?_ rfl) | exact trivial | (refine And.intro ?_ ?_)))); (solve | exact .inl rfl | exact .inr rfl))) | (refine opK_M [] (hcl) ?_ ?_ ?_ ?_ ?_ ?_; (solve | rfl | simp only [go_sem, seval, encV]); (solve | rfl); (solve | decide); (solve | simp); (solve | simp only [go_sem, seval, lentOK, encV])) | omega | exact decide_eq_true (by omega) | exact DLe.refl _)
  refine loopL tab_ok mixed v.subs (fun _ => True) (fun k => [(28, .d (.v (.int .i64 k))), (27, .d (.v (.int .i64 v.subs.length))), (26, .d (.sl 4 (v.subs.map encN))), (5, .ptr 2 0)])
    (fun k => [.gone, .row 29 3 1 (dRows (v.ranges.map encG)), .box 56 [.d (.v (.int .i64 v.id)), .own 1 1, .own 3 k], .row 86 4 k (dRows ((v.subs.take k).map encN))]) trivial ?_ ?_ ?_
  · refine (weak_gone 0 (by simp)).trans ((weak_adopt_box (by simp) 2 56 [.d (.v (.int .i64 v.id)), .own 1 1, .d (.v (.slice none 0 0))] 2 86 4 rfl rfl rfl).trans ?_)
    exact weak_forget _ (by simp) (by rfl) (by (repeat' (first | exact trivial | (refine ⟨rfl, ?_⟩)))) (by first | rfl | simp only [belowH, belowE, belowC, belowL, belowR, belowP, belowL_d, belowR_d, belowR_zipG, subRow, faceRow, List.length_cons, List.length_nil, Nat.reduceAdd, Nat.reduceLT, decide_true, Bool.and_self, Bool.and_true]) (by first | rfl | simp only [belowH, belowE, belowC, belowL, belowR, belowP, belowL_d, belowR_d, belowR_zipG, subRow, faceRow, List.length_cons, List.length_nil, Nat.reduceAdd, Nat.reduceLT, decide_true, Bool.and_self, Bool.and_true])
  · intro k s hs hk _ CO hCO
    have hkI : (k : Int) < (v.subs.length : Int) := by omega
    have hwr : IntKind.i64.wrap ((k : Int) + 1) = ((k + 1 : Nat) : Int) := by rw [IntKind.wrap_i64]; omega
    have h8s := h8.out s (List.mem_of_getElem? hs)
    have hb1 : k + 1 ≤ 100 := by omega
    have hlk : (List.take k v.subs).length = k := by rw [List.length_take]; omega
    replace hs := Lib.hid hs
    have hs1 := hs.out
    repeat' (first | (with_reducible refine And.intro ?_ ?_) | (with_reducible refine gK_i (fun _ => ?_) (fun _ => ?_)) | (with_reducible refine condS_i (fun _ => ?_) (fun _ => ?_)) | (with_reducible refine drw_i (by kernel_rfl)) | simp -dsimp only [go_sem, seval, *, encV, encN, hkI, hs1] | ((with_reducible refine opK_c ?_); simp -dsimp only [go_sem, seval, encV, encN, hkI, hs1]; first | refine callK_r (by first | assumption | fail) (by first | exact .inl rfl | exact .inr rfl) ?_ | (refine callK_i (by assumption) ?_ ?_ ?_; (solve | (repeat (first | exact DLe.refl _ | exact DLe.nil _ | (refine DLe.tup ?_) | (refine DLe.agg ?_ rfl) | exact trivial | (refine And.intro ?_ ?_)))); (solve | exact .inl rfl | exact .inr rfl))) | fail | omega | exact decide_eq_true (by omega) | exact DLe.refl _)
    refine loopL tab_ok mixed s.faces (fun _ => True) (fun j => [(40, .d (.v (.int .i64 j))), (39, .d (.v (.int .i64 s.faces.length))), (38, .d (.sl 2 (s.faces.map encF))), (28, .d (.v (.int .i64 k))), (27, .d (.v (.int .i64 v.subs.length))), (26, .d (.sl 4 (v.subs.map encN))), (8, .ptr 5 0), (5, .ptr 2 0)])
      (fun j => [.gone, .row 29 3 1 (dRows (v.ranges.map encG)), .box 56 [.d (.v (.int .i64 v.id)), .own 1 1, .own 3 k], .row 86 4 k (dRows ((v.subs.take k).map encN)), .gone, .box 86 [.d (.v (.int .i64 s.id)), .d (.v (.int .i64 s.at_.at_)), .d (.v (.int .i64 s.at_.len)), .own 6 j], .row 88 2 j (dRows ((s.faces.take j).map encF))]) trivial ?_ ?_ ?_
    · refine (weak_gone 4 (by simp)).trans ((weak_adopt_box (by simp) 5 86 [.d (.v (.int .i64 s.id)), .d (.v (.int .i64 s.at_.at_)), .d (.v (.int .i64 s.at_.len)), .d (.v (.slice none 0 0))] 3 88 2 rfl rfl rfl).trans ?_)
      exact weak_forget _ (by simp) (by rfl) (by (repeat' (first | exact trivial | (refine ⟨rfl, ?_⟩)))) (by first | rfl | simp only [belowH, belowE, belowC, belowL, belowR, belowP, belowL_d, belowR_d, belowR_zipG, subRow, faceRow, List.length_cons, List.length_nil, Nat.reduceAdd, Nat.reduceLT, decide_true, Bool.and_self, Bool.and_true]) (by first | rfl | simp only [belowH, belowE, belowC, belowL, belowR, belowP, belowL_d, belowR_d, belowR_zipG, subRow, faceRow, List.length_cons, List.length_nil, Nat.reduceAdd, Nat.reduceLT, decide_true, Bool.and_self, Bool.and_true])
    · intro j f hf hj _ C hC
      have hjI : (j : Int) < (s.faces.length : Int) := by omega
      have hwj : IntKind.i64.wrap ((j : Int) + 1) = ((j + 1 : Nat) : Int) := by rw [IntKind.wrap_i64]; omega
      have hfl := h8s.2 f (List.mem_of_getElem? hf)
      have hb2 : j + 1 ≤ 100 := by omega
      have hlj : (List.take j s.faces).length = j := by rw [List.length_take]; omega
      replace hf := Lib.hid hf
      have hf1 := hf.out
      repeat' (first | (with_reducible refine And.intro ?_ ?_) | (with_reducible refine gK_i (fun _ => ?_) (fun _ => ?_)) | (with_reducible refine condS_i (fun _ => ?_) (fun _ => ?_)) | (with_reducible refine drw_i (by kernel_rfl)) | simp -dsimp only [go_sem, seval, *, encN, encF, hjI, hwj, hf1, hb2, hlj, renR_zipG, zipG_len] | ((with_reducible refine opK_c ?_); simp -dsimp only [go_sem, seval, encN, encF, hjI, hwj, hf1, hb2, hlj, renR_zipG, zipG_len]; first | refine callK_r (by first | assumption | fail) (by first | exact .inl rfl | exact .inr rfl) ?_ | (refine callK_i (by assumption) ?_ ?_ ?_; (solve | (repeat (first | exact DLe.refl _ | exact DLe.nil _ | (refine DLe.tup ?_) | (refine DLe.agg ?_ rfl) | exact trivial | (refine And.intro ?_ ?_)))); (solve | exact .inl rfl | exact .inr rfl))) | (refine opK_M [] (clone_int f.addrs (by omega)) ?_ ?_ ?_ ?_ ?_ ?_; (solve | rfl | simp only [go_sem, seval, encF]); (solve | rfl); (solve | decide); (solve | simp); (solve | simp only [go_sem, seval, lentOK, encF])) | omega | exact decide_eq_true (by omega) | exact DLe.refl _)
      refine hC _ _ trivial ((weak_freeze 8 1 3 1 (f.addrs.map encA) rfl).trans ?_)
      simp only [fzE, fz, fzL, fzH, fzC, fzR, fzR_app, fzR_d, fzL_d, List.map_cons, List.map_nil, Nat.reduceAdd, Nat.reduceEqDiff, reduceIte, and_true, true_and, and_self, and_false, false_and, Nat.zero_add, Nat.add_zero, reduceCtorEq, fzR_zipG]
      exact weak_forget _ (by simp) (by rw [take_snoc hf.out, List.map_append, List.map_cons, List.map_nil, ← dRows_app]; rfl) (by (repeat' (first | exact trivial | (refine ⟨rfl, ?_⟩)))) (by first | rfl | simp only [belowH, belowE, belowC, belowL, belowR, belowP, belowL_d, belowR_d, belowR_zipG, subRow, faceRow, List.length_cons, List.length_nil, Nat.reduceAdd, Nat.reduceLT, decide_true, Bool.and_self, Bool.and_true]) (by first | rfl | simp only [belowH, belowE, belowC, belowL, belowR, belowP, belowL_d, belowR_d, belowR_zipG, subRow, faceRow, List.length_cons, List.length_nil, Nat.reduceAdd, Nat.reduceLT, decide_true, Bool.and_self, Bool.and_true])
    · intro _ C
      repeat' (first | (with_reducible refine And.intro ?_ ?_) | (with_reducible refine gK_i (fun _ => ?_) (fun _ => ?_)) | (with_reducible refine condS_i (fun _ => ?_) (fun _ => ?_)) | (with_reducible refine drw_i (by kernel_rfl)) | simp -dsimp only [go_sem, seval, *, encN, hwr, hb1, hlk, Int.lt_irrefl, List.take_length] | ((with_reducible refine opK_c ?_); simp -dsimp only [go_sem, seval, encN, hwr, hb1, hlk, Int.lt_irrefl, List.take_length]; first | refine callK_r (by first | assumption | fail) (by first | exact .inl rfl | exact .inr rfl) ?_ | (refine callK_i (by assumption) ?_ ?_ ?_; (solve | (repeat (first | exact DLe.refl _ | exact DLe.nil _ | (refine DLe.tup ?_) | (refine DLe.agg ?_ rfl) | exact trivial | (refine And.intro ?_ ?_)))); (solve | exact .inl rfl | exact .inr rfl))) | fail | omega | exact decide_eq_true (by omega) | exact DLe.refl _)
      refine hCO _ _ trivial ((weak_freeze 6 s.faces.length 88 2 (s.faces.map encF) rfl).trans ?_)
      simp only [fzE, fz, fzL, fzH, fzC, fzR, fzR_app, fzR_d, fzL_d, List.map_cons, List.map_nil, Nat.reduceAdd, Nat.reduceEqDiff, reduceIte, and_true, true_and, and_self, and_false, false_and, Nat.zero_add, Nat.add_zero, reduceCtorEq]
      exact weak_forget _ (by simp) (by rw [take_snoc hs.out, List.map_append, List.map_cons, List.map_nil, ← dRows_app]; rfl) (by (repeat' (first | exact trivial | (refine ⟨rfl, ?_⟩)))) (by first | rfl | simp only [belowH, belowE, belowC, belowL, belowR, belowP, belowL_d, belowR_d, belowR_zipG, subRow, faceRow, List.length_cons, List.length_nil, Nat.reduceAdd, Nat.reduceLT, decide_true, Bool.and_self, Bool.and_true]) (by first | rfl | simp only [belowH, belowE, belowC, belowL, belowR, belowP, belowL_d, belowR_d, belowR_zipG, subRow, faceRow, List.length_cons, List.length_nil, Nat.reduceAdd, Nat.reduceLT, decide_true, Bool.and_self, Bool.and_true])
  · intro _ C
    repeat' (first | (with_reducible refine And.intro ?_ ?_) | (with_reducible refine gK_i (fun _ => ?_) (fun _ => ?_)) | (with_reducible refine condS_i (fun _ => ?_) (fun _ => ?_)) | (with_reducible refine drw_i (by kernel_rfl)) | simp -dsimp only [go_sem, seval, *, encV, Int.lt_irrefl] | ((with_reducible refine opK_c ?_); simp -dsimp only [go_sem, seval, encV, Int.lt_irrefl]; first | refine callK_r (by first | assumption | fail) (by first | exact .inl rfl | exact .inr rfl) ?_ | (refine callK_i (by assumption) ?_ ?_ ?_; (solve | (repeat (first | exact DLe.refl _ | exact DLe.nil _ | (refine DLe.tup ?_) | (refine DLe.agg ?_ rfl) | exact trivial | (refine And.intro ?_ ?_)))); (solve | exact .inl rfl | exact .inr rfl))) | fail | omega | exact decide_eq_true (by omega) | exact DLe.refl _)
    rw [List.take_length]
    exact weak_eq rfl rfl
end Go.Proofs.YtgmbhaclogabeaaGreat
namespace Go.Proofs.YtgmbhaclogabeaaGreat
open Go Go.RowKit Go.Proofs Go.ChangeShapes Go.WideShapes Go.Deep
section
variable {H : Type} {enc : TypeId × Value → H} {P : Program} {w : World} {base : Nat} {spare : Nat → Bool} {held : Bool}
/-- Whatever is read as of type t is an R. -/
def Rd {α : Type} (enc : TypeId × Value → H) (P : Program) (w : World) (base : Nat) (spare : Nat → Bool) (held : Bool) (t : TypeId) (R : List Value → α → Prop) : Prop :=
  ∀ fuel cs x, DataW.trod enc P w base spare held fuel t cs = some x → ∃ a, R cs a
theorem Rd.map {α β : Type} {t : TypeId} {R : List Value → α → Prop} {R' : List Value → β → Prop} (h : Rd enc P w base spare held t R) (f : α → β) (hf : ∀ cs a, R cs a → R' cs (f a)) : Rd enc P w base spare held t R' := by
  intro fuel cs x hx
  obtain ⟨a, ha⟩ := h fuel cs x hx
  exact ⟨f a, hf _ _ ha⟩
def in64 (n : Int) : Prop := -9223372036854775808 ≤ n ∧ n ≤ 9223372036854775807
def IntR (cs : List Value) (n : Int) : Prop := cs = [.int .i64 n] ∧ in64 n
theorem in64_wf {n : Int} (h : (Lit.int .i64 n).wf = true) : in64 n := by
  simp only [Lit.wf, Bool.and_eq_true, decide_eq_true_eq] at h
  have h1 : IntKind.i64.min = -9223372036854775808 := rfl
  have h2 : IntKind.i64.max = 9223372036854775807 := rfl
  rw [h1, h2] at h
  exact h
theorem rd_int {t : TypeId} (ht : P.underlying t = some (.int .i64)) : Rd enc P w base spare held t IntR := by
  intro fuel cs x hx
  obtain ⟨n, h, _, hw⟩ := DataW.trod_int ht hx
  exact ⟨n, h, in64_wf hw⟩
theorem rd_field {α : Type} {t : TypeId} {fs : Array Field} {fuel : Nat} {cs : List Value} {x : DataW H × List MemPlace} (ht : P.underlying t = some (.struct fs)) (h : DataW.trod enc P w base spare held fuel t cs = some x)
    (j : Nat) {f : Field} (hf : fs[j]? = some f) {R : List Value → α → Prop} (hr : Rd enc P w base spare held f.type R) : ∃ a, R ((cs.drop f.offset).take (P.cellsOf f.type)) a := by
  obtain ⟨xs, n, _, _, _, hlen, hg⟩ := DataW.trod_struct ht h
  have h1 := hg j f hf
  have hj : j < xs.length := by rw [hlen]; exact (Array.getElem?_eq_some_iff.1 hf).1
  rw [List.getElem?_eq_getElem hj] at h1
  exact hr _ _ _ h1
theorem rd_len {t : TypeId} {fs : Array Field} {fuel : Nat} {cs : List Value} {x : DataW H × List MemPlace} (ht : P.underlying t = some (.struct fs)) (h : DataW.trod enc P w base spare held fuel t cs = some x) : cs.length = P.cellsOf t := by
  obtain ⟨_, _, _, _, h, _⟩ := DataW.trod_struct ht h
  exact h
theorem pick_list {α : Type} {Q : Nat → α → Prop} : ∀ (n : Nat), (∀ i, i < n → ∃ a, Q i a) → ∃ l : List α, l.length = n ∧ ∀ i (h : i < l.length), Q i l[i]
  | 0, _ => ⟨[], rfl, fun i h => by simp at h⟩
  | n + 1, h => by
    obtain ⟨l, hl, hq⟩ := pick_list n fun i hi => h i (by omega)
    obtain ⟨a, ha⟩ := h n (by omega)
    refine ⟨l ++ [a], by simp [hl], fun i hi => ?_⟩
    rcases Nat.lt_or_ge i l.length with h1 | h1
    · rw [List.getElem_append_left h1]; exact hq i h1
    · have : i = n := by simp at hi; omega
      subst this
      rw [List.getElem_append_right h1]
      simpa using ha
/-- What came in lies below the heap's size. -/
def inW (w : World) : Area := fun b => b < w.heap.size
theorem arg_int {r : Reach} {b0 : Nat} {t : TypeId} {v : Value} {d : DataW H} {p : List MemPlace} (ht : P.underlying t = some (.int .i64)) (hval : Value.okWide P w r b0 t v) (hd : DataW.Trod enc P w base spare held t v d p) : ∃ n, v = .int .i64 n ∧ in64 n := by
  obtain ⟨n, h, _, _, hw⟩ := open_int ht hval hd
  exact ⟨n, h, in64_wf hw⟩
theorem trod_lts {t : TypeId} {v : Value} {d : DataW H} {p : List MemPlace} (h : DataW.Trod enc P w base spare held t v d p) : ∀ x ∈ p, x.block < w.heap.size := by
  obtain ⟨m, hm⟩ := h
  exact DataW.trod_lt m _ _ _ hm
end
end Go.Proofs.YtgmbhaclogabeaaGreat
namespace Go.Proofs.YtgmbhaclogabeaaGreat
open Go Go.RowKit Go.Proofs Go.Shelf
/-- A row's cells, and the key that they have. -/
structure SRow (HP : List Value → Int → Prop) (sz : Nat) where
  xs : List Value
  len : xs.length = sz
  one : ∀ v ∈ xs, v.oneCell' = true
  key : Int
  head : HP xs key
/-- The key is the first cell. -/
@[reducible] def HP0 (xs : List Value) (k : Int) : Prop := xs[0]? = some (.int .i64 k)
def cfS {HP : List Value → Int → Prop} {sz : Nat} (x y : SRow HP sz) : Int := cmpI x.key y.key
theorem ltS {HP : List Value → Int → Prop} {sz : Nat} (x y : SRow HP sz) : ltOf cfS x y = decide (x.key < y.key) := cmpI_neg _ _
theorem swoS {HP : List Value → Int → Prop} {sz : Nat} : Sort.SWO (ltOf (cfS (HP := HP) (sz := sz))) where
  irrefl x := by rw [ltS]; simp
  trans x y z h1 h2 := by rw [ltS] at *; simp at *; omega
  ntrans x y z h1 h2 := by rw [ltS] at *; simp at *; omega
@[reducible] def srow_inh (n : Nat) : Inhabited (SRow HP0 (n + 1)) := ⟨⟨List.replicate (n + 1) (.int .i64 0), by simp, fun v hv => by rw [List.eq_of_mem_replicate hv]; rfl, 0, by unfold HP0; simp⟩⟩
theorem putCells_take (F cur : Array Value) (h : F.size ≤ cur.size) : (Sort.putCells id 0 F cur).toList.take F.size = F.toList ∧ (Sort.putCells id 0 F cur).size = cur.size := by
  refine ⟨?_, by simp [Sort.putCells]⟩
  apply List.ext_getElem?
  intro i
  by_cases hi : i < F.size
  · rw [List.getElem?_take_of_lt hi]
    have hc : i < cur.size := by omega
    simp [Sort.putCells, hi, hc]
  · rw [List.getElem?_eq_none (by rw [List.length_take]; omega), List.getElem?_eq_none (by simp; omega)]
theorem flatK_rows {HP : List Value → Int → Prop} {sz : Nat} (n : Nat) (hs : sz = n + 1) [Inhabited (SRow HP sz)] (d : Array (SRow HP sz)) : (Sort.flatK (fun r : SRow HP sz => r.xs) sz d).toList = (d.toList.map (·.xs)).flatten := by
  have hrow : ∀ r ∈ d.toList.map (·.xs), r.length = sz := fun r hr => by
    obtain ⟨x, -, rfl⟩ := List.mem_map.1 hr; exact x.len
  have hlen : (d.toList.map (·.xs)).flatten.length = d.size * sz := by rw [flatten_len hrow]; simp
  apply List.ext_getElem?
  intro t
  by_cases ht : t < d.size * sz
  · have h1 : t / sz < d.size := Nat.div_lt_of_lt_mul (by rw [Nat.mul_comm]; exact ht)
    have h2 : t % sz < sz := Nat.mod_lt _ (by omega)
    have h3 : t / sz * sz + t % sz = t := by rw [Nat.mul_comm]; exact Nat.div_add_mod t sz
    have h4 := flatten_atG hrow (t / sz) (t % sz) h2
    rw [h3] at h4
    rw [h4]
    have h5 := Sort.get_flatK (fun r : SRow HP sz => r.xs) sz d t ht
    have h6 : t < (Sort.flatK (fun r : SRow HP sz => r.xs) sz d).size := by rw [Sort.size_flatK]; exact ht
    rw [getElem!_pos (Sort.flatK (fun r : SRow HP sz => r.xs) sz d) t h6] at h5
    rw [Array.getElem?_toList, Array.getElem?_eq_getElem h6, h5]
    have hl : (d[t / sz]).xs.length = sz := (d[t / sz]).len
    have e7 : (d[t / sz]).xs[t % sz]? = some ((d[t / sz]).xs[t % sz]!) := by
      rw [getElem!_pos (d[t / sz]).xs (t % sz) (by rw [hl]; exact h2)]
      exact List.getElem?_eq_getElem _
    rw [getElem!_pos d (t / sz) h1]
    rw [List.getElem?_map, Array.getElem?_toList, Array.getElem?_eq_getElem h1]
    simp only [Option.map_some, Option.bind_some]
    exact e7.symm
  · rw [List.getElem?_eq_none (by simp; omega), List.getElem?_eq_none (by omega)]
/-- Sorting, said of rows of values. -/
theorem sort_raw {HP : List Value → Int → Prop} {n : Nat} (inh : Inhabited (SRow HP (n + 1))) {P : Program} {ρ : Ren} (L : SlLaysF0.n6 P ρ) {f fc E : Nat} (hf : ρ.f 6 = f) (aE : ∀ w, (isAgg (ρ.t 24)).run P w = .ok true w) (zE : ∀ w, (Go.sizeOf (ρ.t 24)).run P w = .ok (n + 1) w) (eg : ∀ args w, (callFunc fc args).run P w = .ok (.enter fc args) w)
    (hcmp : ∀ (x y : SRow HP (n + 1)) (W : World), Calls P fc #[.agg x.xs.toArray, .agg y.xs.toArray] W fun e w' => e = .returned (.int .i64 (cfS x y)) ∧ ∃ q os', w' = Sort.grow (W.drewN q) os')
    (ds : List (SRow HP (n + 1))) (w : World) (gb cap : Nat) (cur : Array Value) (hh : w.heap[gb]? = some (.cells cur E (0, 0))) (hc : cur.toList.take (ds.length * (n + 1)) = (ds.map (·.xs)).flatten) (hsz : ds.length * (n + 1) ≤ cur.size) (hl : ds.length ≤ 1000000) :
    Calls P f #[.slice (some ⟨gb, 0, none⟩) ds.length cap, .func (.func fc) #[] #[]] w fun e w' => e = .returned (.tuple #[]) ∧ ∃ (ds' : List (SRow HP (n + 1))) (cur' : Array Value), ds'.Perm ds ∧ ds'.Pairwise (fun x y => x.key ≤ y.key) ∧ w'.heap[gb]? = some (.cells cur' E (0, 0)) ∧ cur'.size = cur.size ∧
      cur'.toList.take (ds.length * (n + 1)) = (ds'.map (·.xs)).flatten ∧ OneB w w' (some gb) := by
  have hg : gb < w.heap.size := (Array.getElem?_eq_some_iff.1 hh).1
  have hfl := flatK_rows n rfl ds.toArray
  rw [List.toList_toArray] at hfl
  have hH : Sort.HoldsK (fun r : SRow HP (n + 1) => r.xs) (n + 1) w gb 0 ds.toArray := by
    intro t ht
    have ht2 := ht
    rw [Sort.size_flatK, List.size_toArray] at ht2
    refine ⟨?_, free_of_block hh⟩
    have hcell : ∀ o, w.cell? ⟨gb, o, none⟩ = cur[o]? := fun o => by simp [World.cell?, hh]
    rw [Nat.zero_add, hcell]
    have h1 : (cur.toList.take (ds.length * (n + 1)))[t]? = cur[t]? := by rw [List.getElem?_take_of_lt ht2]; simp
    rw [← h1, hc, ← hfl, Array.getElem?_toList, getElem!_pos (Sort.flatK (fun r : SRow HP (n + 1) => r.xs) (n + 1) ds.toArray) t ht, Array.getElem?_eq_getElem ht]
    rfl
  have hcon := AnyQ.slices_SortFunc L (n + 1) aE zE (fun r : SRow HP (n + 1) => r.xs) (·.len) (·.one) cfS swoS fc #[] gb 0 cap ds.toArray w eg (fun _ _ _ _ x y => hcmp x y _) hH hg (by simp; omega)
  rw [hf, List.size_toArray] at hcon
  refine Calls.mono hcon ?_
  rintro e w' ⟨rfl, d', m, os, ⟨hp1, -, hp⟩, hs, rfl⟩
  replace hp1 : d'.size = ds.length := by simpa using hp1
  have hF : (Sort.flatK (fun r : SRow HP (n + 1) => r.xs) (n + 1) d').size ≤ cur.size := by rw [Sort.size_flatK, hp1]; exact hsz
  obtain ⟨p1, p2⟩ := putCells_take (Sort.flatK (fun r : SRow HP (n + 1) => r.xs) (n + 1) d') cur hF
  refine ⟨rfl, d'.toList, Sort.putCells id 0 (Sort.flatK (fun r : SRow HP (n + 1) => r.xs) (n + 1) d') cur, ?_, ?_, ?_, p2, ?_, ?_⟩
  · have e1 : d'.extract 0 ds.length = d' := by rw [← hp1]; exact Array.extract_size
    have e2 : ds.toArray.extract 0 ds.length = ds.toArray := by simp
    rw [e1, e2] at hp
    simpa using hp
  · rw [List.pairwise_iff_getElem]
    intro i j hi hj hij
    have hj' : j < d'.size := by simpa using hj
    have := hs i j (Nat.zero_le _) hij (by omega)
    rw [ltS, getElem!_pos d' i (by omega), getElem!_pos d' j hj'] at this
    simpa using this
  · show (Sort.grow (Sort.putRow id (Sort.ahead w m) gb 0 (Sort.flatK (fun r : SRow HP (n + 1) => r.xs) (n + 1) d')) os).heap[gb]? = _
    rw [Sort.heap_grow_old _ _ (by simpa using hg)]
    show (w.heap.modify gb (Sort.onCells _))[gb]? = _
    rw [Array.getElem?_modify, if_pos rfl, hh]
    rfl
  · rw [show ds.length * (n + 1) = (Sort.flatK (fun r : SRow HP (n + 1) => r.xs) (n + 1) d').size by rw [Sort.size_flatK, hp1], p1, flatK_rows n rfl]
  · refine ⟨rfl, rfl, rfl, ?_, fun b hb hne => ?_⟩
    · show w.heap.size ≤ (Sort.grow (Sort.putRow id (Sort.ahead w m) gb 0 _) os).heap.size
      rw [Sort.size_grow, Sort.size_putRow, Sort.heap_ahead]; omega
    · show (Sort.grow (Sort.putRow id (Sort.ahead w m) gb 0 (Sort.flatK (fun r : SRow HP (n + 1) => r.xs) (n + 1) d')) os).heap[b]? = _
      rw [Sort.heap_grow_old _ _ (by simpa using hb)]
      show (w.heap.modify gb (Sort.onCells _))[b]? = _
      rw [Array.getElem?_modify, if_neg (fun e => hne (by rw [e]))]
theorem key_sort {α β : Type} {ka : α → Int} {kb : β → Int} {l l' : List α} {d d' : List β} (hk : d.map kb = l.map ka) (hp : l'.Perm l) (hs : l'.Pairwise fun x y => ka x < ka y) (hq : d'.Perm d) (ht : d'.Pairwise fun x y => kb x ≤ kb y) : d'.map kb = l'.map ka :=
  List.Perm.eq_of_pairwise (le := fun x y : Int => x ≤ y) (fun a b _ _ h1 h2 => by omega) (by rw [List.pairwise_map]; exact ht) (by rw [List.pairwise_map]; exact hs.imp fun h => by omega) ((hq.map kb).trans (by rw [hk]; exact (hp.map ka).symm))
set_option maxHeartbeats 1000000 in
/-- slices.SortFunc, where the first integers are all different. -/
theorem sort_hs {HP : List Value → Int → Prop} {n : Nat} (inh : Inhabited (SRow HP (n + 1))) {P : Program} {ρ : Ren} (L : SlLaysF0.n6 P ρ) {f fc E g : Nat} (hf : ρ.f 6 = f) (hfn : FnOK P f) (aE : ∀ w, (isAgg (ρ.t 24)).run P w = .ok true w) (zE : ∀ w, (Go.sizeOf (ρ.t 24)).run P w = .ok (n + 1) w) (eg : ∀ args w, (callFunc fc args).run P w = .ok (.enter fc args) w)
    (hcmp : ∀ (x y : SRow HP (n + 1)) (W : World), Calls P fc #[.agg x.xs.toArray, .agg y.xs.toArray] W fun e w' => e = .returned (.int .i64 (cfS x y)) ∧ ∃ q os', w' = Sort.grow (W.drewN q) os')
    {α : Type} (enc : α → List D) (key : α → Int) {l l' : List α} (hkey : ∀ x ∈ l, ∀ vs : List Value, vs.length = n + 1 → (∀ (j : Nat) (d : D) (v : Value), (enc x)[j]? = some d → vs[j]? = some v → ∃ M w, RepD M w d v) → HP vs (key x)) (hl0 : l ≠ []) (hp : l'.Perm l) (hs : l'.Pairwise fun x y => key x < key y) (hsz : l.length ≤ 1000000) :
    MSpec P f [.own 0 g, .d (.clo fc [])] [.row E (n + 1) g (dRows (l.map enc))] (.d (.tup [])) [.row E (n + 1) g (dRows (l'.map enc))] := by
  refine ⟨hfn, Nat.le_refl _, by simp [belowL, belowP], by simp [belowH, belowC, belowR_d], fun X hP hn hm w c vs hr hps => ?_⟩
  have hlen := hps.1
  match vs, hlen with
  | [v0, v1], _ =>
    have r0 := hps.2 0 _ v0 rfl rfl
    have r1 := repD_inv (hps.2 1 _ v1 rfl rfl)
    have hne : dRows (l.map enc) ≠ [] := by simpa [dRows] using hl0
    have hck := hr.chunk 0
    cases r0 with
    | own _ _ _ hov h1 =>
      obtain ⟨gb, cap, rfl⟩ := own_some hck hov hne
      obtain ⟨cur, xs, q1, q2, q3, q4, q5, q6, q7, q8, q9, q10, q11⟩ := row_cells hck hov hne
      have hxone := RepPs.one q2 (fun d hd => by obtain ⟨r, hr, hd⟩ := List.mem_flatten.1 hd; exact q6 r hr d hd)
      have hln : (dRows (l.map enc)).length = l.length := by rw [dRows_len, List.length_map]
      rw [hln] at q3 q4 q8 q10 hov ⊢
      have hv1 : v1 = .func (.func fc) #[] #[] := by
        cases r1 with
        | clo _ _ vs hl hrep =>
          have : vs = [] := by simpa using hl.symm
          subst this
          rfl
      subst hv1
      have hxs : cur.toList.take (l.length * (n + 1)) = xs := by
        apply List.ext_getElem?
        intro j
        by_cases hj : j < l.length * (n + 1)
        · rw [List.getElem?_take_of_lt hj, Array.getElem?_toList, q4 j hj]
        · rw [List.getElem?_eq_none (by rw [List.length_take]; omega), List.getElem?_eq_none (by omega)]
      -- the rows, as values
      obtain ⟨ds, hdl, hds⟩ := pick_list (Q := fun i (r : SRow HP (n + 1)) => r.xs = (xs.drop (i * (n + 1))).take (n + 1) ∧ ∃ x, l[i]? = some x ∧ r.key = key x) l.length fun i hi => by
        have hb : (i + 1) * (n + 1) ≤ l.length * (n + 1) := Nat.mul_le_mul_right _ hi
        rw [Nat.succ_mul] at hb
        obtain ⟨x, hx⟩ : ∃ x, l[i]? = some x := ⟨_, List.getElem?_eq_getElem hi⟩
        have hxl : ((xs.drop (i * (n + 1))).take (n + 1)).length = n + 1 := by rw [List.length_take, List.length_drop]; omega
        have h0 : HP ((xs.drop (i * (n + 1))).take (n + 1)) (key x) := hkey x (List.mem_of_getElem? hx) _ hxl fun j d v hd hv => by
          have hj : j < n + 1 := by rw [← hxl]; exact (List.getElem?_eq_some_iff.1 hv).1
          rw [List.getElem?_take_of_lt hj, List.getElem?_drop] at hv
          have hfl := flatten_atG q5 i j hj
          rw [dRows_get, List.getElem?_map, hx] at hfl
          simp only [Option.map_some, Option.bind_some, List.getElem?_map, hd] at hfl
          exact ⟨_, _, repD_inv (q2.2 _ _ v hfl hv)⟩
        exact ⟨⟨(xs.drop (i * (n + 1))).take (n + 1), hxl, fun v hv => hxone v (List.mem_of_mem_drop (List.mem_of_mem_take hv)), key x, h0⟩, rfl, x, hx, rfl⟩
      have hdrow : ∀ r ∈ ds.map (·.xs), r.length = n + 1 := fun r hr => by obtain ⟨x, -, rfl⟩ := List.mem_map.1 hr; exact x.len
      have hflat : (ds.map (·.xs)).flatten = xs := by
        apply List.ext_getElem?
        intro t
        by_cases ht : t < l.length * (n + 1)
        · have h1 : t / (n + 1) < l.length := Nat.div_lt_of_lt_mul (by rw [Nat.mul_comm]; exact ht)
          have h2 : t % (n + 1) < n + 1 := Nat.mod_lt _ (by omega)
          have h3 : t / (n + 1) * (n + 1) + t % (n + 1) = t := by rw [Nat.mul_comm]; exact Nat.div_add_mod t (n + 1)
          generalize t / (n + 1) = i at h1 h3
          generalize t % (n + 1) = j at h2 h3
          have h4 := flatten_atG hdrow i j h2
          rw [h3, List.getElem?_map, List.getElem?_eq_getElem (show i < ds.length by omega)] at h4
          rw [h4]
          simp only [Option.map_some, Option.bind_some]
          rw [(hds _ (show i < ds.length by omega)).1, List.getElem?_take_of_lt h2, List.getElem?_drop, h3]
        · rw [List.getElem?_eq_none (by rw [flatten_len hdrow, List.length_map, hdl]; omega), List.getElem?_eq_none (by omega)]
      have hkm : ds.map (·.key) = l.map key := by
        apply List.ext_getElem?
        intro i
        rw [List.getElem?_map, List.getElem?_map]
        by_cases hi : i < l.length
        · obtain ⟨-, x, hx, hk⟩ := hds i (by omega)
          rw [List.getElem?_eq_getElem (by omega), hx]
          simp [hk]
        · rw [List.getElem?_eq_none (show ds.length ≤ i by omega), List.getElem?_eq_none (show l.length ≤ i by omega)]; rfl
      have hcall := sort_raw inh L hf aE zE eg hcmp ds w gb cap cur q1 (by rw [hdl, hxs, hflat]) (by rw [hdl]; exact q8) (by omega)
      rw [hdl] at hcall
      rw [← hP] at hcall
      rw [hP] at hcall
      refine hcall.mono fun e w' ⟨he, ds', cur', hp', hs', hw', hcs, hct, hone⟩ => ?_
      have hkk := key_sort (ka := key) (kb := SRow.key) hkm hp hs hp' hs'
      have hdl' : ds'.length = l.length := by rw [hp'.length_eq, hdl]
      have hll' : l'.length = l.length := hp.length_eq
      have hdrow' : ∀ r ∈ ds'.map (·.xs), r.length = n + 1 := fun r hr => by obtain ⟨x, -, rfl⟩ := List.mem_map.1 hr; exact x.len
      have hin2 : ∀ r ∈ dRows (l'.map enc), r.length = n + 1 := fun r hr => by
        obtain ⟨q, hq, rfl⟩ := dRows_mem hr
        obtain ⟨x, hx, rfl⟩ := List.mem_map.1 hq
        exact q5 _ (List.mem_map.2 ⟨enc x, List.mem_map.2 ⟨x, hp.mem_iff.1 hx, rfl⟩, rfl⟩)
      have hin3 : ∀ r ∈ dRows (l'.map enc), ∀ d ∈ r, d.one = true := fun r hr d hd => by
        obtain ⟨q, hq, rfl⟩ := dRows_mem hr
        obtain ⟨x, hx, rfl⟩ := List.mem_map.1 hq
        exact q6 _ (List.mem_map.2 ⟨enc x, List.mem_map.2 ⟨x, hp.mem_iff.1 hx, rfl⟩, rfl⟩) d hd
      have hnd : ∀ i j (hi : i < l.length) (hj : j < l.length), key l[i] = key l[j] → i = j := by
        have h1 : (l'.map key).Nodup := by
          unfold List.Nodup
          rw [List.pairwise_map]
          exact hs.imp fun h => by omega
        have h2 : (l.map key).Nodup := (hp.map key).nodup_iff.1 h1
        intro i j hi hj h
        rw [List.nodup_iff_pairwise_ne, List.pairwise_iff_getElem] at h2
        rcases Nat.lt_trichotomy i j with hlt | he | hlt
        · exact absurd (by rw [List.getElem_map, List.getElem_map]; exact h) (h2 i j (by simpa using hi) (by simpa using hj) hlt)
        · exact he
        · exact absurd (by rw [List.getElem_map, List.getElem_map]; exact h.symm) (h2 j i (by simpa using hj) (by simpa using hi) hlt)
      have hrep' : RepPs c w (dRows (l'.map enc)).flatten (ds'.map (·.xs)).flatten := by
        refine ⟨by rw [flatten_len hin2, flatten_len hdrow', dRows_len, List.length_map, List.length_map, hdl', hll'], fun t d u ht hu => ?_⟩
        have htl : t < l.length * (n + 1) := by
          have := (List.getElem?_eq_some_iff.1 hu).1
          rw [flatten_len hdrow', List.length_map, hdl'] at this
          exact this
        have h1 : t / (n + 1) < l.length := Nat.div_lt_of_lt_mul (by rw [Nat.mul_comm]; exact htl)
        have h2 : t % (n + 1) < n + 1 := Nat.mod_lt _ (by omega)
        have h3 : t / (n + 1) * (n + 1) + t % (n + 1) = t := by rw [Nat.mul_comm]; exact Nat.div_add_mod t (n + 1)
        generalize t / (n + 1) = i at h1 h3
        generalize t % (n + 1) = j at h2 h3
        have e1 := flatten_atG hin2 (i) (j) h2
        have e2 := flatten_atG hdrow' (i) (j) h2
        rw [h3, dRows_get, List.getElem?_map, List.getElem?_eq_getElem (l := l') (show i < l'.length by omega)] at e1
        rw [h3, List.getElem?_map, List.getElem?_eq_getElem (l := ds') (show i < ds'.length by omega)] at e2
        simp only [Option.map_some, Option.bind_some] at e1 e2
        obtain ⟨p, hpl, hpe⟩ := List.mem_iff_getElem.1 (hp'.mem_iff.1 (List.getElem_mem (show i < ds'.length by omega)))
        obtain ⟨p2, hpl2, hpe2⟩ := List.mem_iff_getElem.1 (hp.mem_iff.1 (List.getElem_mem (show i < l'.length by omega)))
        obtain ⟨g1, x, g2, g3⟩ := hds p hpl
        have hx : l[p]'(by omega) = x := by rw [List.getElem?_eq_getElem (by omega)] at g2; exact Option.some.inj g2
        have hkey2 : (ds'[i]'(by omega)).key = key (l'[i]'(by omega)) := by
          have := congrArg (fun z : List Int => z[i]?) hkk
          simp only [List.getElem?_map] at this
          rw [List.getElem?_eq_getElem (by omega), List.getElem?_eq_getElem (by omega)] at this
          exact Option.some.inj this
        have hpp : p = p2 := hnd p p2 (by omega) hpl2 (by rw [hpe2, ← hkey2, ← hpe, g3, hx])
        subst hpp
        rw [← hpe2, hx] at e1
        rw [← hpe, g1, List.getElem?_take_of_lt h2, List.getElem?_drop] at e2
        have e3 := flatten_atG q5 p (j) h2
        rw [dRows_get, List.getElem?_map, g2] at e3
        simp only [Option.map_some, Option.bind_some] at e3
        rw [← e3] at e1
        rw [e1] at ht
        rw [e2] at hu
        exact q2.2 _ d u ht hu
      have hcap : 0 < cap := by have := List.length_pos_iff.2 hl0; omega
      have hput := hr.put_row (w' := w') (k := 0) (rows' := dRows (l'.map enc)) (xs' := (ds'.map (·.xs)).flatten) rfl hov (by rw [ownB_pos hcap]; exact hone) (by
        rw [dRows_len, List.length_map, hll']
        exact .row gb l.length cap cur' _ hcap hw' q10 q9 (by rw [hcs]; exact q11) (by rw [flatten_len hdrow', List.length_map, hdl']) hct) hrep' hin2 hin3
      have hfun : effH [(0, Chunk.row E (n + 1) g (dRows (l'.map enc)))] (mkF [] [.row E (n + 1) g (dRows (l.map enc))]).heap = hatL [.row E (n + 1) g (dRows (l'.map enc))] := by
        funext k
        rw [effH1]
        cases k with
        | zero => rfl
        | succ k => rfl
      rw [hfun] at hput
      refine ⟨_, c, he, .d _ _ (.tup [] [] rfl fun j d x h => by simp at h), hput⟩
/-- Where the key is the first cell. -/
theorem sort_ms {n : Nat} {P : Program} {ρ : Ren} (L : SlLaysF0.n6 P ρ) {f fc E g : Nat} (hf : ρ.f 6 = f) (hfn : FnOK P f) (aE : ∀ w, (isAgg (ρ.t 24)).run P w = .ok true w) (zE : ∀ w, (Go.sizeOf (ρ.t 24)).run P w = .ok (n + 1) w) (eg : ∀ args w, (callFunc fc args).run P w = .ok (.enter fc args) w)
    (hcmp : ∀ (x y : SRow HP0 (n + 1)) (W : World), Calls P fc #[.agg x.xs.toArray, .agg y.xs.toArray] W fun e w' => e = .returned (.int .i64 (cfS x y)) ∧ ∃ q os', w' = Sort.grow (W.drewN q) os')
    {α : Type} (enc : α → List D) (key : α → Int) (hkey : ∀ x, (enc x)[0]? = some (.v (.int .i64 (key x)))) {l l' : List α} (hl0 : l ≠ []) (hp : l'.Perm l) (hs : l'.Pairwise fun x y => key x < key y) (hsz : l.length ≤ 1000000) :
    MSpec P f [.own 0 g, .d (.clo fc [])] [.row E (n + 1) g (dRows (l.map enc))] (.d (.tup [])) [.row E (n + 1) g (dRows (l'.map enc))] :=
  sort_hs (srow_inh n) L hf hfn aE zE eg hcmp enc key (fun x _ vs hl hr => by
    obtain ⟨v, hv⟩ : ∃ v, vs[0]? = some v := ⟨_, List.getElem?_eq_getElem (by omega)⟩
    obtain ⟨M, w, h⟩ := hr 0 _ v (hkey x) hv
    show vs[0]? = _
    rw [hv]
    cases h
    rfl) hl0 hp hs hsz
end Go.Proofs.YtgmbhaclogabeaaGreat
namespace Go.Proofs.YtgmbhaclogabeaaGreat
open Go Go.RowKit Go.Proofs Go.Shelf
set_option maxRecDepth 100000
theorem isNaN_any (a : Int) (W : World) : Calls Tryz.prog 52 #[.int .i64 a] W fun e w' => e = .returned (.bool false) ∧ w' = W := by
  go_enter Tryz.func52, Tryz.ntmps52
  go_wp2_with fail
  go_ret
  exact ⟨ret_bool (by simp), rfl⟩
theorem compare_any (a b : Int) (W : World) : Calls Tryz.prog 28 #[.int .i64 a, .int .i64 b] W fun e w' => e = .returned (.int .i64 (cmpI a b)) ∧ w' = W := by
  by_cases h : a < b
  · have e : cmpI a b = -1 := by simp [cmpI, h]
    rw [e]
    go_enter Tryz.func28, Tryz.ntmps28
    go_wp2_with fail
    refine (isNaN_any a _).mono ?_
    rintro e w1 ⟨rfl, rfl⟩
    go_wp2_with fail
    refine (isNaN_any b _).mono ?_
    rintro e w1 ⟨rfl, rfl⟩
    go_wp2_with fail
    go_ret
    exact ⟨ret_int rfl, rfl⟩
  · by_cases h2 : b < a
    · have e : cmpI a b = 1 := by simp [cmpI, h, h2]
      rw [e]
      go_enter Tryz.func28, Tryz.ntmps28
      go_wp2_with fail
      refine (isNaN_any a _).mono ?_
      rintro e w1 ⟨rfl, rfl⟩
      go_wp2_with fail
      refine (isNaN_any b _).mono ?_
      rintro e w1 ⟨rfl, rfl⟩
      go_wp2_with fail
      go_ret
      exact ⟨ret_int rfl, rfl⟩
    · have e : cmpI a b = 0 := by simp [cmpI, h, h2]
      rw [e]
      go_enter Tryz.func28, Tryz.ntmps28
      go_wp2_with fail
      refine (isNaN_any a _).mono ?_
      rintro e w1 ⟨rfl, rfl⟩
      go_wp2_with fail
      refine (isNaN_any b _).mono ?_
      rintro e w1 ⟨rfl, rfl⟩
      go_wp2_with fail
      go_ret
      exact ⟨ret_int rfl, rfl⟩
theorem cl_Range (x y : SRow HP0 3) (W : World) : Calls Tryz.prog 60 #[.agg x.xs.toArray, .agg y.xs.toArray] W fun e w' => e = .returned (.int .i64 (cfS x y)) ∧ ∃ q os', w' = Sort.grow (W.drewN q) os' := by
  obtain ⟨xs, xl, x1, a, xh⟩ := x
  obtain ⟨ys, yl, y1, b, yh⟩ := y
  match xs, xl, ys, yl with
  | [u0, u1, u2], _, [v0, v1, v2], _ =>
    simp [HP0] at xh yh
    subst xh
    subst yh
    have hc := compare_any a b
    unfold cfS
    simp only
    generalize cmpI a b = r at *
    replace hc := Lib.hid hc
    clear x1 y1
    go_enter Tryz.func60, Tryz.ntmps60
    go_wp2_with fail
    refine (hc.out _).mono ?_
    rintro e w1 ⟨rfl, rfl⟩
    go_wp2_with fail
    go_ret
    exact ⟨ret_int rfl, 0, _, by rw [Sort.alloc_eq_grow, Sort.alloc_eq_grow, Sort.grow_grow]; rfl⟩
theorem sort_Range {l l' : List Rng} (g : Nat) (hl0 : l ≠ []) (hp : l'.Perm l) (hs : l'.Pairwise fun x y => (fun r : Rng => r.at_.at_) x < (fun r : Rng => r.at_.at_) y) (hsz : l.length ≤ 1000000) :
    MSpec Tryz.prog 59 [.own 0 g, .d (.clo 60 [])] [.row 29 3 g (dRows (l.map encG))] (.d (.tup [])) [.row 29 3 g (dRows (l'.map encG))] :=
  sort_ms Tryz.sortRange rfl (fnok_of Tryz.func59 (by kernel_rfl) rfl) Tryz.isAgg29 Tryz.sizeOf29 (enters_of Tryz.func60 (by kernel_rfl) rfl) cl_Range encG (fun r : Rng => r.at_.at_) (fun _ => rfl) hl0 hp hs hsz
end Go.Proofs.YtgmbhaclogabeaaGreat
namespace Go.Proofs.YtgmbhaclogabeaaGreat
open Go Go.RowKit
/-- One more, at its place. -/
def insK {α : Type} (key : α → Int) (x : α) (l : List α) : List α := l.take (lbN key (key x) l) ++ x :: l.drop (lbN key (key x) l)
theorem insK_perm {α : Type} (key : α → Int) (x : α) (l : List α) : (insK key x l).Perm (l ++ [x]) := by
  unfold insK
  have h : l ++ [x] = (l.take (lbN key (key x) l) ++ l.drop (lbN key (key x) l)) ++ [x] := by rw [List.take_append_drop]
  rw [h, List.append_assoc]
  refine List.Perm.append_left _ ?_
  exact (List.perm_append_singleton _ _).symm
theorem insK_mem {α : Type} {key : α → Int} {x y : α} {l : List α} : y ∈ insK key x l ↔ y = x ∨ y ∈ l := by
  rw [(insK_perm key x l).mem_iff]; simp [or_comm]
theorem insK_len {α : Type} (key : α → Int) (x : α) (l : List α) : (insK key x l).length = l.length + 1 := by
  rw [(insK_perm key x l).length_eq]; simp
theorem insK_sorted {α : Type} {key : α → Int} {x : α} {l : List α} (hs : l.Pairwise fun a b => key a < key b) (hn : ∀ y ∈ l, key y ≠ key x) : (insK key x l).Pairwise fun a b => key a < key b := by
  have hlow : ∀ y ∈ l.take (lbN key (key x) l), key y < key x := by
    intro y hy
    obtain ⟨i, hi, rfl⟩ := List.mem_iff_getElem.1 hy
    rw [List.getElem_take]
    have := List.not_of_lt_findIdx (show i < lbN key (key x) l by rw [List.length_take] at hi; omega)
    simp at this
    exact this
  have hhigh : ∀ y ∈ l.drop (lbN key (key x) l), key x < key y := by
    intro y hy
    have hym := List.mem_of_mem_drop hy
    obtain ⟨i, hi, rfl⟩ := List.mem_iff_getElem.1 hy
    rw [List.getElem_drop] at hym ⊢
    rw [List.length_drop] at hi
    have hlt : lbN key (key x) l < l.length := by omega
    have h0 := List.findIdx_getElem (xs := l) (p := fun y => decide (key x ≤ key y)) (w := hlt)
    simp only [decide_eq_true_eq] at h0
    change key x ≤ key (l[lbN key (key x) l]'hlt) at h0
    have hne := hn _ hym
    rcases Nat.eq_zero_or_pos i with h | h
    · subst h; simp only [Nat.add_zero] at hne ⊢; omega
    · have := List.pairwise_iff_getElem.1 hs _ (lbN key (key x) l + i) hlt (by omega) (by omega)
      omega
  unfold insK
  rw [List.pairwise_append, List.pairwise_cons]
  refine ⟨hs.sublist (List.take_sublist _ _), ⟨hhigh, hs.sublist (List.drop_sublist _ _)⟩, fun a ha b hb => ?_⟩
  rcases List.mem_cons.1 hb with rfl | hb
  · exact hlow a ha
  · have := hlow a ha; have := hhigh b hb; omega
def Vpc.zero : Vpc := ⟨0, [], []⟩
theorem Vpc.zero_le : DLe (.agg [.v (.int .i64 0), .v (.slice none 0 0), .v (.slice none 0 0)]) (.agg (encV Vpc.zero)) := by repeat (first | exact DLe.refl _ | exact DLe.nil _ | (refine DLe.tup ?_) | (refine DLe.agg ?_ rfl) | exact trivial | (refine And.intro ?_ ?_))
/-- A right network. -/
structure VpcOK (v : Vpc) : Prop where
  n4 : v.ranges.length ≤ 4
  n6 : v.subs.length ≤ 6
  n8 : ∀ s ∈ v.subs, s.faces.length ≤ 8 ∧ ∀ f ∈ s.faces, f.addrs.length ≤ 4
  id : idOK v.id = true
  rr : v.ranges.Pairwise fun a b => a.at_.at_ < b.at_.at_
  rs : v.subs.Pairwise fun a b => a.id < b.id
  ranges : ∀ r ∈ v.ranges, rangeB r = true
  subs : ∀ s ∈ v.subs, subB v s = true
  ar : apaF [] (v.ranges.map (·.at_)) = true
  as_ : apaF [] (v.subs.map (·.at_)) = true
theorem vpcOK {v : Vpc} : chkV v = 0 ↔ manyV v = false ∧ fineV v = true ∧ apaF [] (v.ranges.map (·.at_)) = true ∧ apaF [] (v.subs.map (·.at_)) = true := by
  unfold chkV
  generalize apaF [] (v.ranges.map (·.at_)) = A
  generalize apaF [] (v.subs.map (·.at_)) = B
  cases manyV v <;> cases fineV v <;> cases A <;> cases B <;> simp
theorem vpcOK_of {v : Vpc} (h : chkV v = 0) : VpcOK v := by
  obtain ⟨h1, h2, h3, h4⟩ := vpcOK.1 h
  obtain ⟨a, b, c⟩ := manyV_ok h1
  unfold fineV at h2
  simp only [Bool.and_eq_true, List.all_eq_true, risB_pair] at h2
  exact ⟨a, b, c, h2.1.1, h2.1.2.1, h2.1.2.2, h2.2.1, h2.2.2, h3, h4⟩
theorem rangeB_right {r : Rng} (h : rangeB r = true) : r.at_.right = true := by
  unfold rangeB at h
  simp only [Bool.and_eq_true, beq_iff_eq] at h
  simp [Pfx.right, rightB, h.2]
theorem meets_at {p q : Pfx} (hp : p.right = true) (hq : q.right = true) (h : p.meets q = false) : p.at_ ≠ q.at_ := fun e => by
  have b1 := p.hi_bd hp
  have b2 := q.hi_bd hq
  rw [meets_iff.2 ⟨hp, hq, by omega, by omega⟩] at h
  cases h
def growE (v : Vpc) (r : Rng) : Int :=
  if chk r.at_.at_ r.at_.len ≠ 0 ∨ idOK r.pool = false then 1 else
  if (v.ranges.any fun q => q.at_.meets r.at_) = true then 6 else if v.ranges.length = 4 then 2 else 0
/-- Grow's answer. -/
def growV (v : Vpc) (r : Rng) : Vpc × Int :=
  if chkV v ≠ 0 then (Vpc.zero, chkV v) else if growE v r ≠ 0 then (Vpc.zero, growE v r) else ({ v with ranges := insK (·.at_.at_) r v.ranges }, 0)
theorem grow1_p (q r : Rng) : PSpec Tryz.prog 57 [.agg (encG q), .ept (encG r)] (.v (.bool (q.at_.meets r.at_))) := by
  have hm : PSpec Tryz.prog 58 [.agg (encP q.at_), .agg (encP r.at_)] (.v (.bool (q.at_.meets r.at_))) := meets_p _ _
  refine ps_i tab_ok mixed Tryz.func57 rfl Tryz.ntmps57 Tryz.results57 (by kernel_rfl) ?_
  repeat' (first | (with_reducible refine And.intro ?_ ?_) | (with_reducible refine gK_i (fun _ => ?_) (fun _ => ?_)) | (with_reducible refine condS_i (fun _ => ?_) (fun _ => ?_)) | (with_reducible refine drw_i (by kernel_rfl)) | simp -dsimp only [go_sem, seval, *, encG, encP] | ((with_reducible refine opK_c ?_); simp -dsimp only [go_sem, seval, encG, encP]; first | refine callK_r (by first | assumption | exact hm) (by first | exact .inl rfl | exact .inr rfl) ?_ | (refine callK_i (by assumption) ?_ ?_ ?_; (solve | (repeat (first | exact DLe.refl _ | exact DLe.nil _ | (refine DLe.tup ?_) | (refine DLe.agg ?_ rfl) | exact trivial | (refine And.intro ?_ ?_)))); (solve | exact .inl rfl | exact .inr rfl))) | fail | omega | exact decide_eq_true (by omega) | exact DLe.refl _)
set_option maxRecDepth 100000 in
set_option maxHeartbeats 1000000 in
theorem vgrow_p (v : Vpc) (r : Rng) : PSpec Tryz.prog 29 [.agg (encV v), .agg (encG r)] (.tup [.agg (encV (growV v r).1), .v (.int .i64 (growV v r).2)]) := by
  obtain ⟨R, hR⟩ : ∃ R, R = growV v r := ⟨_, rfl⟩
  rw [← hR]
  replace hR := Lib.hid hR
  by_cases hc : chkV v = 0
  · have hk := vpcOK_of hc
    have hbg := beginD_m v hc hk.n4 hk.n6 hk.n8
    have hid := vids_p r.pool
    have hck := check_p r.at_
    have hcn := cntf_Range encG_len (fun q => q.at_.meets r.at_) v.ranges 57 [.ept (encG r)] (by have := hk.n4; omega) (fun q _ => grow1_p q r)
    have hR2 : R = if growE v r ≠ 0 then (Vpc.zero, growE v r) else ({ v with ranges := insK (·.at_.at_) r v.ranges }, 0) := by rw [hR.out]; unfold growV; rw [if_neg (by simpa using hc)]
    have hn4 := hk.n4
    by_cases hbad : growE v r ≠ 0
    · rw [if_pos hbad] at hR2
      unfold growE at hR2 hbad
      generalize chk r.at_.at_ r.at_.len = K at *
      generalize idOK r.pool = I at *
      generalize (v.ranges.any fun q => q.at_.meets r.at_) = M at *
      replace hR2 := Lib.hid hR2
      replace hbad := Lib.hid hbad
      clear hR hc hk
      have hl4 : ((v.ranges.length : Int) == 4) = decide (v.ranges.length = 4) := by rw [Bool.eq_iff_iff]; simp; omega
      refine ps_i tab_ok mixed Tryz.func29 rfl Tryz.ntmps29 Tryz.results29 (by kernel_rfl) ?_
      repeat' (first | (with_reducible refine And.intro ?_ ?_) | (with_reducible refine gK_i (fun _ => ?_) (fun _ => ?_)) | (with_reducible refine condS_i (fun _ => ?_) (fun _ => ?_)) | (with_reducible refine drw_i (by kernel_rfl)) | simp -dsimp only [go_sem, seval, *, encV, encG, encP, hl4] | ((with_reducible refine opK_c ?_); simp -dsimp only [go_sem, seval, encV, encG, encP, hl4]; first | refine callK_r (by first | assumption | exact hid | exact hck | exact hcn) (by first | exact .inl rfl | exact .inr rfl) ?_ | (refine callK_i (by assumption) ?_ ?_ ?_; (solve | (repeat (first | exact DLe.refl _ | exact DLe.nil _ | (refine DLe.tup ?_) | (refine DLe.agg ?_ rfl) | exact trivial | (refine And.intro ?_ ?_)))); (solve | exact .inl rfl | exact .inr rfl))) | (refine opK_M [] (hbg) ?_ ?_ ?_ ?_ ?_ ?_; (solve | rfl | simp only [go_sem, seval, encV]); (solve | rfl); (solve | decide); (solve | simp); (solve | simp only [go_sem, seval, lentOK, encV])) | omega | exact decide_eq_true (by omega) | exact DLe.refl _)
      all_goals
        have h1 := hR2.out
        have h2 := hbad.out
        clear hid hck hcn hbg
        first
          | (exfalso; grind)
          | (rw [show R = (Vpc.zero, 1) from (by rw [h1]; grind)]; exact (by repeat (first | exact DLe.refl _ | exact DLe.nil _ | (refine DLe.tup ?_) | (refine DLe.agg ?_ rfl) | exact trivial | (refine And.intro ?_ ?_))))
          | (rw [show R = (Vpc.zero, 6) from (by rw [h1]; grind)]; exact (by repeat (first | exact DLe.refl _ | exact DLe.nil _ | (refine DLe.tup ?_) | (refine DLe.agg ?_ rfl) | exact trivial | (refine And.intro ?_ ?_))))
          | (rw [show R = (Vpc.zero, 2) from (by rw [h1]; grind)]; exact (by repeat (first | exact DLe.refl _ | exact DLe.nil _ | (refine DLe.tup ?_) | (refine DLe.agg ?_ rfl) | exact trivial | (refine And.intro ?_ ?_))))
    · rw [if_neg hbad] at hR2
      have hg : growE v r = 0 := by simpa using hbad
      obtain ⟨g1, g2, g3, g4⟩ : chk r.at_.at_ r.at_.len = 0 ∧ idOK r.pool = true ∧ (v.ranges.any fun q => q.at_.meets r.at_) = false ∧ v.ranges.length ≠ 4 := by
        unfold growE at hg
        generalize (v.ranges.any fun q => q.at_.meets r.at_) = M at *
        grind
      have hne : ∀ q ∈ v.ranges, q.at_.at_ ≠ r.at_.at_ := fun q hq => meets_at (rangeB_right (hk.ranges q hq)) (by simp [Pfx.right, rightB, g1]) (by have := List.any_eq_false.1 g3 q hq; simpa using this)
      have hso := sort_Range (l := v.ranges ++ [r]) (l' := insK (·.at_.at_) r v.ranges) 2 (by simp) (insK_perm _ _ _) (insK_sorted hk.rr hne) (by simp; omega)
      rw [g1] at hck
      rw [g2] at hid
      rw [g3] at hcn
      have hl4 : ((v.ranges.length : Int) == 4) = false := by simp; omega
      have hb1 : v.ranges.length + 1 ≤ 100 := by omega
      simp only [List.map_append, List.map_cons, List.map_nil] at hso
      rw [hR2]
      clear hR hR2 hc hk hne hg hbad
      refine ps_i tab_ok mixed Tryz.func29 rfl Tryz.ntmps29 Tryz.results29 (by kernel_rfl) ?_
      repeat' (first | (with_reducible refine And.intro ?_ ?_) | (with_reducible refine gK_i (fun _ => ?_) (fun _ => ?_)) | (with_reducible refine condS_i (fun _ => ?_) (fun _ => ?_)) | (with_reducible refine drw_i (by kernel_rfl)) | simp -dsimp only [go_sem, seval, *, encV, encG, encP, hl4, hb1] | ((with_reducible refine opK_c ?_); simp -dsimp only [go_sem, seval, encV, encG, encP, hl4, hb1]; first | refine callK_r (by first | assumption | exact hid | exact hck | exact hcn) (by first | exact .inl rfl | exact .inr rfl) ?_ | (refine callK_i (by assumption) ?_ ?_ ?_; (solve | (repeat (first | exact DLe.refl _ | exact DLe.nil _ | (refine DLe.tup ?_) | (refine DLe.agg ?_ rfl) | exact trivial | (refine And.intro ?_ ?_)))); (solve | exact .inl rfl | exact .inr rfl))) | (refine opK_M [] (hbg) ?_ ?_ ?_ ?_ ?_ ?_; (solve | rfl | simp only [go_sem, seval, encV]); (solve | rfl); (solve | decide); (solve | simp); (solve | simp only [go_sem, seval, lentOK, encV])) | (refine opK_M [4] (hso) ?_ ?_ ?_ ?_ ?_ ?_; (solve | rfl | simp only [go_sem, seval, encG]); (solve | rfl); (solve | decide); (solve | simp); (solve | simp only [go_sem, seval, lentOK, encG])) | omega | exact decide_eq_true (by omega) | exact DLe.refl _)
  · have hbg := beginE_m v hc
    have h1 : (chkV v != 0) = true := by simpa using hc
    have hr : R = (Vpc.zero, chkV v) := by rw [hR.out]; unfold growV; rw [if_pos hc]
    rw [hr]
    replace hr := Lib.hid hr
    refine ps_i tab_ok mixed Tryz.func29 rfl Tryz.ntmps29 Tryz.results29 (by kernel_rfl) ?_
    repeat' (first | (with_reducible refine And.intro ?_ ?_) | (with_reducible refine gK_i (fun _ => ?_) (fun _ => ?_)) | (with_reducible refine condS_i (fun _ => ?_) (fun _ => ?_)) | (with_reducible refine drw_i (by kernel_rfl)) | simp -dsimp only [go_sem, seval, *, encV, encG, h1] | ((with_reducible refine opK_c ?_); simp -dsimp only [go_sem, seval, encV, encG, h1]; first | refine callK_r (by first | assumption | fail) (by first | exact .inl rfl | exact .inr rfl) ?_ | (refine callK_i (by assumption) ?_ ?_ ?_; (solve | (repeat (first | exact DLe.refl _ | exact DLe.nil _ | (refine DLe.tup ?_) | (refine DLe.agg ?_ rfl) | exact trivial | (refine And.intro ?_ ?_)))); (solve | exact .inl rfl | exact .inr rfl))) | (refine opK_M [] (hbg) ?_ ?_ ?_ ?_ ?_ ?_; (solve | rfl | simp only [go_sem, seval, encV]); (solve | rfl); (solve | decide); (solve | simp); (solve | simp only [go_sem, seval, lentOK, encV])) | omega | exact decide_eq_true (by omega) | exact DLe.refl _)
    exact (by repeat (first | exact DLe.refl _ | exact DLe.nil _ | (refine DLe.tup ?_) | (refine DLe.agg ?_ rfl) | exact trivial | (refine And.intro ?_ ?_)))
theorem eqP_list (p q : Pfx) : ([p.at_, p.len] == [q.at_, q.len]) = decide (p = q) := by
  rw [Bool.eq_iff_iff]
  cases p; cases q
  simp
end Go.Proofs.YtgmbhaclogabeaaGreat
namespace Go.Proofs.YtgmbhaclogabeaaGreat
open Go Go.RowKit
/-- Are two rows of numbers the same? -/
theorem sameInts_p (l m : List Int) (hl : l.length ≤ 1000000000) (hm : m.length ≤ 1000000000) : PSpec Tryz.prog 16 [.sl 1 (l.map encA), .sl 1 (m.map encA)] (.v (.bool (decide (l = m)))) := by
  obtain ⟨R, hR⟩ : ∃ R, R = decide (l = m) := ⟨_, rfl⟩
  rw [← hR]
  replace hR := Lib.hid hR
  refine ps_i tab_ok mixed Tryz.func16 rfl Tryz.ntmps16 Tryz.results16 (by kernel_rfl) ?_
  repeat' (first | (with_reducible refine And.intro ?_ ?_) | (with_reducible refine gK_i (fun _ => ?_) (fun _ => ?_)) | (with_reducible refine condS_i (fun _ => ?_) (fun _ => ?_)) | (with_reducible refine drw_i (by kernel_rfl)) | simp -dsimp only [go_sem, seval, *, bne_self_eq_false] | ((with_reducible refine opK_c ?_); simp -dsimp only [go_sem, seval, bne_self_eq_false]; first | refine callK_r (by first | assumption | fail) (by first | exact .inl rfl | exact .inr rfl) ?_ | (refine callK_i (by assumption) ?_ ?_ ?_; (solve | (repeat (first | exact DLe.refl _ | exact DLe.nil _ | (refine DLe.tup ?_) | (refine DLe.agg ?_ rfl) | exact trivial | (refine And.intro ?_ ?_)))); (solve | exact .inl rfl | exact .inr rfl))) | fail | omega | exact decide_eq_true (by omega) | exact DLe.refl _)
  · rename_i h1
    exact dle_b (by rw [hR.out, decide_eq_false]; rintro rfl; simp at h1)
  · rename_i h1
    have hlm : l.length = m.length := by simp at h1; omega
    clear h1
    replace hlm := Lib.hid hlm
    refine loopL tab_ok mixed l (fun k => l.take k = m.take k) (fun k => [(5, .d (.v (.int .i64 k))), (4, .d (.v (.bool false))), (1, .d (.sl 1 (m.map encA))), (0, .d (.sl 1 (l.map encA)))]) (fun _ => []) rfl (weak_forget _ (by simp) (by (try simp only [encA]); rfl) (by (repeat' (first | exact trivial | (refine ⟨rfl, ?_⟩)))) (by first | rfl | simp only [belowH, belowE, belowC, belowL, belowR, belowP, belowL_d, belowR_d, List.length_cons, List.length_nil, Nat.reduceAdd, Nat.reduceLT, decide_true, Bool.and_self, Bool.and_true]) (by first | rfl | simp only [belowH, belowE, belowC, belowL, belowR, belowP, belowL_d, belowR_d, List.length_cons, List.length_nil, Nat.reduceAdd, Nat.reduceLT, decide_true, Bool.and_self, Bool.and_true])) ?_ ?_
    · intro k x hx hk hI C hC
      have hkI : (k : Int) < (l.length : Int) := by omega
      have hwr : IntKind.i64.wrap ((k : Int) + 1) = ((k + 1 : Nat) : Int) := by rw [IntKind.wrap_i64]; omega
      obtain ⟨y, hy⟩ : ∃ y, m[k]? = some y := ⟨_, List.getElem?_eq_getElem (by have := hlm.out; omega)⟩
      replace hI := Lib.hid hI
      cases h1 : (x != y) with
      | true =>
        have hb : R = false := by
          rw [hR.out, decide_eq_false]
          rintro rfl
          rw [hx] at hy
          rw [Option.some.inj hy] at h1; simp at h1
        rw [hb]
        replace hb := Lib.hid hb
        repeat' (first | (with_reducible refine And.intro ?_ ?_) | (with_reducible refine gK_i (fun _ => ?_) (fun _ => ?_)) | (with_reducible refine condS_i (fun _ => ?_) (fun _ => ?_)) | (with_reducible refine drw_i (by kernel_rfl)) | simp -dsimp only [go_sem, seval, *, encA, hkI, hwr, hx, hy, h1] | ((with_reducible refine opK_c ?_); simp -dsimp only [go_sem, seval, encA, hkI, hwr, hx, hy, h1]; first | refine callK_r (by first | assumption | fail) (by first | exact .inl rfl | exact .inr rfl) ?_ | (refine callK_i (by assumption) ?_ ?_ ?_; (solve | (repeat (first | exact DLe.refl _ | exact DLe.nil _ | (refine DLe.tup ?_) | (refine DLe.agg ?_ rfl) | exact trivial | (refine And.intro ?_ ?_)))); (solve | exact .inl rfl | exact .inr rfl))) | fail | omega | exact decide_eq_true (by omega) | exact DLe.refl _)
        all_goals exact DLe.refl _
      | false =>
        have hI2 : l.take (k + 1) = m.take (k + 1) := by rw [take_snoc hx, take_snoc hy, hI.out]; simp at h1; rw [h1]
        replace hI2 := Lib.hid hI2
        repeat' (first | (with_reducible refine And.intro ?_ ?_) | (with_reducible refine gK_i (fun _ => ?_) (fun _ => ?_)) | (with_reducible refine condS_i (fun _ => ?_) (fun _ => ?_)) | (with_reducible refine drw_i (by kernel_rfl)) | simp -dsimp only [go_sem, seval, *, encA, hkI, hwr, hx, hy, h1] | ((with_reducible refine opK_c ?_); simp -dsimp only [go_sem, seval, encA, hkI, hwr, hx, hy, h1]; first | refine callK_r (by first | assumption | fail) (by first | exact .inl rfl | exact .inr rfl) ?_ | (refine callK_i (by assumption) ?_ ?_ ?_; (solve | (repeat (first | exact DLe.refl _ | exact DLe.nil _ | (refine DLe.tup ?_) | (refine DLe.agg ?_ rfl) | exact trivial | (refine And.intro ?_ ?_)))); (solve | exact .inl rfl | exact .inr rfl))) | fail | omega | exact decide_eq_true (by omega) | exact DLe.refl _)
        exact hC _ _ hI2.out (weak_forget _ (by simp) (by (try simp only [encA]); rfl) (by (repeat' (first | exact trivial | (refine ⟨rfl, ?_⟩)))) (by first | rfl | simp only [belowH, belowE, belowC, belowL, belowR, belowP, belowL_d, belowR_d, List.length_cons, List.length_nil, Nat.reduceAdd, Nat.reduceLT, decide_true, Bool.and_self, Bool.and_true]) (by first | rfl | simp only [belowH, belowE, belowC, belowL, belowR, belowP, belowL_d, belowR_d, List.length_cons, List.length_nil, Nat.reduceAdd, Nat.reduceLT, decide_true, Bool.and_self, Bool.and_true]))
    · intro hI C
      have hb : R = true := by
        rw [hR.out, decide_eq_true_eq]
        rw [List.take_length, hlm.out, List.take_length] at hI; exact hI
      rw [hb]
      replace hb := Lib.hid hb
      replace hI := Lib.hid hI
      repeat' (first | (with_reducible refine And.intro ?_ ?_) | (with_reducible refine gK_i (fun _ => ?_) (fun _ => ?_)) | (with_reducible refine condS_i (fun _ => ?_) (fun _ => ?_)) | (with_reducible refine drw_i (by kernel_rfl)) | simp -dsimp only [go_sem, seval, *, Int.lt_irrefl] | ((with_reducible refine opK_c ?_); simp -dsimp only [go_sem, seval, Int.lt_irrefl]; first | refine callK_r (by first | assumption | fail) (by first | exact .inl rfl | exact .inr rfl) ?_ | (refine callK_i (by assumption) ?_ ?_ ?_; (solve | (repeat (first | exact DLe.refl _ | exact DLe.nil _ | (refine DLe.tup ?_) | (refine DLe.agg ?_ rfl) | exact trivial | (refine And.intro ?_ ?_)))); (solve | exact .inl rfl | exact .inr rfl))) | fail | omega | exact decide_eq_true (by omega) | exact DLe.refl _)
      all_goals exact DLe.refl _
end Go.Proofs.YtgmbhaclogabeaaGreat
namespace Go.Proofs.YtgmbhaclogabeaaGreat
open Go Go.RowKit
structure Lnk where
  a : Int
  b : Int
  deriving DecidableEq
structure Net where
  vpcs : List Vpc
  links : List Lnk
  deriving DecidableEq
def encK (l : Lnk) : List D := [.v (.int .i64 l.a), .v (.int .i64 l.b)]
def encT (n : Net) : List D := [.sl 3 (n.vpcs.map encV), .sl 2 (n.links.map encK)]
end Go.Proofs.YtgmbhaclogabeaaGreat
namespace Go.Proofs.YtgmbhaclogabeaaGreat
open Go Go.RowKit
/-- By n steps up from x one comes to r, which is above itself. -/
def HeadIs (ents : List (List Int × Int)) : Nat → Int → Int → Prop
  | 0, x, r => lkE ents [x] = some x ∧ r = x
  | n + 1, x, r => ∃ y, lkE ents [x] = some y ∧ y ≠ x ∧ HeadIs ents n y r
set_option maxRecDepth 100000 in
theorem head_m (ents : List (List Int × Int)) (n : Nat) (x r : Int) (h : HeadIs ents n x r) :
    MSpec Tryz.prog 24 [.mref 0, .d (.v (.int .i64 x))] [.mp 1 false ents] (.d (.v (.int .i64 r))) [.mp 1 false ents] := by
  refine ms_i tab_ok mixed Tryz.func24 rfl Tryz.ntmps24 Tryz.results24 (by kernel_rfl) (by simp) (by simp [belowL, belowP]) (by simp [belowH, belowC, belowL, belowP, belowL_d, belowR_d]) ?_
  repeat' (first | (with_reducible refine And.intro ?_ ?_) | (with_reducible refine gK_i (fun _ => ?_) (fun _ => ?_)) | (with_reducible refine condS_i (fun _ => ?_) (fun _ => ?_)) | (with_reducible refine drw_i (by kernel_rfl)) | simp -dsimp only [go_sem, seval, *, bne_self_eq_false] | ((with_reducible refine opK_c ?_); simp -dsimp only [go_sem, seval, bne_self_eq_false]; first | refine callK_r (by first | assumption | fail) (by first | exact .inl rfl | exact .inr rfl) ?_ | (refine callK_i (by assumption) ?_ ?_ ?_; (solve | (repeat (first | exact DLe.refl _ | exact DLe.nil _ | (refine DLe.tup ?_) | (refine DLe.agg ?_ rfl) | exact trivial | (refine And.intro ?_ ?_)))); (solve | exact .inl rfl | exact .inr rfl))) | fail | omega | exact decide_eq_true (by omega) | exact DLe.refl _)
  refine loopG tab_ok mixed (fun m e h => ∃ (y : Int), HeadIs ents m y r ∧ e = [(4, .d (.v (.int .i64 0))), (1, .d (.v (.int .i64 y))), (0, .mref 0)] ∧ h = [.mp 1 false ents]) _ _ _ ⟨x, h, rfl, rfl⟩ (weak_forget _ (by simp) (by (try simp only [encK]); rfl) (by (repeat' (first | exact trivial | (refine ⟨rfl, ?_⟩)))) (by first | rfl | simp only [belowH, belowE, belowC, belowL, belowR, belowP, belowL_d, belowR_d, List.length_cons, List.length_nil, Nat.reduceAdd, Nat.reduceLT, decide_true, Bool.and_self, Bool.and_true]) (by first | rfl | simp only [belowH, belowE, belowC, belowL, belowR, belowP, belowL_d, belowR_d, List.length_cons, List.length_nil, Nat.reduceAdd, Nat.reduceLT, decide_true, Bool.and_self, Bool.and_true])) ?_
  rintro m e h ⟨y, hy, rfl, rfl⟩ C hC
  cases m with
  | zero =>
    obtain ⟨h1, rfl⟩ := hy
    repeat' (first | (with_reducible refine And.intro ?_ ?_) | (with_reducible refine gK_i (fun _ => ?_) (fun _ => ?_)) | (with_reducible refine condS_i (fun _ => ?_) (fun _ => ?_)) | (with_reducible refine drw_i (by kernel_rfl)) | simp -dsimp only [go_sem, seval, *, h1, bne_self_eq_false, undef] | ((with_reducible refine opK_c ?_); simp -dsimp only [go_sem, seval, h1, bne_self_eq_false, undef]; first | refine callK_r (by first | assumption | fail) (by first | exact .inl rfl | exact .inr rfl) ?_ | (refine callK_i (by assumption) ?_ ?_ ?_; (solve | (repeat (first | exact DLe.refl _ | exact DLe.nil _ | (refine DLe.tup ?_) | (refine DLe.agg ?_ rfl) | exact trivial | (refine And.intro ?_ ?_)))); (solve | exact .inl rfl | exact .inr rfl))) | fail | omega | exact decide_eq_true (by omega) | exact DLe.refl _)
    all_goals exact weak_eq rfl rfl
  | succ m =>
    obtain ⟨z, h1, h2, h3⟩ := hy
    have hne : (z != y) = true := by simpa using h2
    replace h3 := Lib.hid h3
    replace h2 := Lib.hid h2
    repeat' (first | (with_reducible refine And.intro ?_ ?_) | (with_reducible refine gK_i (fun _ => ?_) (fun _ => ?_)) | (with_reducible refine condS_i (fun _ => ?_) (fun _ => ?_)) | (with_reducible refine drw_i (by kernel_rfl)) | simp -dsimp only [go_sem, seval, *, h1, hne, undef] | ((with_reducible refine opK_c ?_); simp -dsimp only [go_sem, seval, h1, hne, undef]; first | refine callK_r (by first | assumption | fail) (by first | exact .inl rfl | exact .inr rfl) ?_ | (refine callK_i (by assumption) ?_ ?_ ?_; (solve | (repeat (first | exact DLe.refl _ | exact DLe.nil _ | (refine DLe.tup ?_) | (refine DLe.agg ?_ rfl) | exact trivial | (refine And.intro ?_ ?_)))); (solve | exact .inl rfl | exact .inr rfl))) | fail | omega | exact decide_eq_true (by omega) | exact DLe.refl _)
    exact hC _ _ _ _ _ (Nat.lt_succ_self _) ⟨z, h3.out, rfl, rfl⟩ (weak_forget _ (by simp) (by (try simp only [encK]); rfl) (by (repeat' (first | exact trivial | (refine ⟨rfl, ?_⟩)))) (by first | rfl | simp only [belowH, belowE, belowC, belowL, belowR, belowP, belowL_d, belowR_d, List.length_cons, List.length_nil, Nat.reduceAdd, Nat.reduceLT, decide_true, Bool.and_self, Bool.and_true]) (by first | rfl | simp only [belowH, belowE, belowC, belowL, belowR, belowP, belowL_d, belowR_d, List.length_cons, List.length_nil, Nat.reduceAdd, Nat.reduceLT, decide_true, Bool.and_self, Bool.and_true]))
end Go.Proofs.YtgmbhaclogabeaaGreat
namespace Go.Proofs.YtgmbhaclogabeaaGreat
open Go Go.RowKit
/-- Does a range of the one meet one of the other? -/
def clashV (v w : Vpc) : Bool := v.ranges.any fun r => w.ranges.any fun q => r.at_.meets q.at_
theorem clash11_p (q r : Rng) : PSpec Tryz.prog 93 [.agg (encG q), .ept (encG r)] (.v (.bool (r.at_.meets q.at_))) := by
  have hm : PSpec Tryz.prog 58 [.agg (encP r.at_), .agg (encP q.at_)] (.v (.bool (r.at_.meets q.at_))) := meets_p _ _
  refine ps_i tab_ok mixed Tryz.func93 rfl Tryz.ntmps93 Tryz.results93 (by kernel_rfl) ?_
  repeat' (first | (with_reducible refine And.intro ?_ ?_) | (with_reducible refine gK_i (fun _ => ?_) (fun _ => ?_)) | (with_reducible refine condS_i (fun _ => ?_) (fun _ => ?_)) | (with_reducible refine drw_i (by kernel_rfl)) | simp -dsimp only [go_sem, seval, *, encG, encP] | ((with_reducible refine opK_c ?_); simp -dsimp only [go_sem, seval, encG, encP]; first | refine callK_r (by first | assumption | exact hm) (by first | exact .inl rfl | exact .inr rfl) ?_ | (refine callK_i (by assumption) ?_ ?_ ?_; (solve | (repeat (first | exact DLe.refl _ | exact DLe.nil _ | (refine DLe.tup ?_) | (refine DLe.agg ?_ rfl) | exact trivial | (refine And.intro ?_ ?_)))); (solve | exact .inl rfl | exact .inr rfl))) | fail | omega | exact decide_eq_true (by omega) | exact DLe.refl _)
theorem clash1_p (r : Rng) (w : Vpc) (hw : w.ranges.length ≤ 1000000000) : PSpec Tryz.prog 92 [.agg (encG r), .ept (encV w)] (.v (.bool (w.ranges.any fun q => r.at_.meets q.at_))) := by
  have hc := cntf_Range encG_len (fun q => r.at_.meets q.at_) w.ranges 93 [.ept (encG r)] hw (fun q _ => clash11_p q r)
  refine ps_i tab_ok mixed Tryz.func92 rfl Tryz.ntmps92 Tryz.results92 (by kernel_rfl) ?_
  repeat' (first | (with_reducible refine And.intro ?_ ?_) | (with_reducible refine gK_i (fun _ => ?_) (fun _ => ?_)) | (with_reducible refine condS_i (fun _ => ?_) (fun _ => ?_)) | (with_reducible refine drw_i (by kernel_rfl)) | simp -dsimp only [go_sem, seval, *, encV, encG] | ((with_reducible refine opK_c ?_); simp -dsimp only [go_sem, seval, encV, encG]; first | refine callK_r (by first | assumption | exact hc) (by first | exact .inl rfl | exact .inr rfl) ?_ | (refine callK_i (by assumption) ?_ ?_ ?_; (solve | (repeat (first | exact DLe.refl _ | exact DLe.nil _ | (refine DLe.tup ?_) | (refine DLe.agg ?_ rfl) | exact trivial | (refine And.intro ?_ ?_)))); (solve | exact .inl rfl | exact .inr rfl))) | fail | omega | exact decide_eq_true (by omega) | exact DLe.refl _)
theorem clash_p (v w : Vpc) (hv : v.ranges.length ≤ 1000000000) (hw : w.ranges.length ≤ 1000000000) : PSpec Tryz.prog 61 [.agg (encV v), .agg (encV w)] (.v (.bool (clashV v w))) := by
  have hc := cntf_Range encG_len (fun r => w.ranges.any fun q => r.at_.meets q.at_) v.ranges 92 [.ept (encV w)] hv (fun r _ => clash1_p r w hw)
  refine ps_i tab_ok mixed Tryz.func61 rfl Tryz.ntmps61 Tryz.results61 (by kernel_rfl) ?_
  repeat' (first | (with_reducible refine And.intro ?_ ?_) | (with_reducible refine gK_i (fun _ => ?_) (fun _ => ?_)) | (with_reducible refine condS_i (fun _ => ?_) (fun _ => ?_)) | (with_reducible refine drw_i (by kernel_rfl)) | simp -dsimp only [go_sem, seval, *, encV] | ((with_reducible refine opK_c ?_); simp -dsimp only [go_sem, seval, encV]; first | refine callK_r (by first | assumption | exact hc) (by first | exact .inl rfl | exact .inr rfl) ?_ | (refine callK_i (by assumption) ?_ ?_ ?_; (solve | (repeat (first | exact DLe.refl _ | exact DLe.nil _ | (refine DLe.tup ?_) | (refine DLe.agg ?_ rfl) | exact trivial | (refine And.intro ?_ ?_)))); (solve | exact .inl rfl | exact .inr rfl))) | fail | omega | exact decide_eq_true (by omega) | exact DLe.refl _)
end Go.Proofs.YtgmbhaclogabeaaGreat
namespace Go.Proofs.YtgmbhaclogabeaaGreat
open Go Go.RowKit
/-- The first that is not 0. -/
def orI : List Int → Int
  | [] => 0
  | x :: l => if x = 0 then orI l else x
theorem orI_drop {l : List Int} {k : Nat} {x : Int} (h : l[k]? = some x) : orI (l.drop k) = if x = 0 then orI (l.drop (k + 1)) else x := by rw [drop_get h, orI]
theorem or_p (l : List Int) (hl : l.length ≤ 1000000000) : PSpec Tryz.prog 76 [.sl 1 (l.map encA)] (.v (.int .i64 (orI l))) := by
  obtain ⟨R, hR⟩ : ∃ R, R = orI l := ⟨_, rfl⟩
  rw [← hR]
  replace hR := Lib.hid hR
  refine ps_i tab_ok mixed Tryz.func76 rfl Tryz.ntmps76 Tryz.results76 (by kernel_rfl) ?_
  repeat' (first | (with_reducible refine And.intro ?_ ?_) | (with_reducible refine gK_i (fun _ => ?_) (fun _ => ?_)) | (with_reducible refine condS_i (fun _ => ?_) (fun _ => ?_)) | (with_reducible refine drw_i (by kernel_rfl)) | simp -dsimp only [go_sem, seval, *, bne_self_eq_false] | ((with_reducible refine opK_c ?_); simp -dsimp only [go_sem, seval, bne_self_eq_false]; first | refine callK_r (by first | assumption | fail) (by first | exact .inl rfl | exact .inr rfl) ?_ | (refine callK_i (by assumption) ?_ ?_ ?_; (solve | (repeat (first | exact DLe.refl _ | exact DLe.nil _ | (refine DLe.tup ?_) | (refine DLe.agg ?_ rfl) | exact trivial | (refine And.intro ?_ ?_)))); (solve | exact .inl rfl | exact .inr rfl))) | fail | omega | exact decide_eq_true (by omega) | exact DLe.refl _)
  refine loopL tab_ok mixed l (fun k => orI l = orI (l.drop k)) (fun k => [(8, .d (.v (.int .i64 k))), (7, .d (.v (.int .i64 l.length))), (6, .d (.sl 1 (l.map encA))), (3, .d (.v (.int .i64 0))), (2, .d (.v (.int .i64 0)))]) (fun _ => []) rfl (weak_forget _ (by simp) (by (try simp only [encA]); rfl) (by (repeat' (first | exact trivial | (refine ⟨rfl, ?_⟩)))) (by first | rfl | simp only [belowH, belowE, belowC, belowL, belowR, belowP, belowL_d, belowR_d, List.length_cons, List.length_nil, Nat.reduceAdd, Nat.reduceLT, decide_true, Bool.and_self, Bool.and_true]) (by first | rfl | simp only [belowH, belowE, belowC, belowL, belowR, belowP, belowL_d, belowR_d, List.length_cons, List.length_nil, Nat.reduceAdd, Nat.reduceLT, decide_true, Bool.and_self, Bool.and_true])) ?_ ?_
  · intro k x hx hk hI C hC
    have hkI : (k : Int) < (l.length : Int) := by omega
    have hwr : IntKind.i64.wrap ((k : Int) + 1) = ((k + 1 : Nat) : Int) := by rw [IntKind.wrap_i64]; omega
    rw [orI_drop hx] at hI
    by_cases h0 : x = 0
    · rw [if_pos h0] at hI
      have hne : (x != 0) = false := by simp [h0]
      replace hI := Lib.hid hI
      replace h0 := Lib.hid h0
      repeat' (first | (with_reducible refine And.intro ?_ ?_) | (with_reducible refine gK_i (fun _ => ?_) (fun _ => ?_)) | (with_reducible refine condS_i (fun _ => ?_) (fun _ => ?_)) | (with_reducible refine drw_i (by kernel_rfl)) | simp -dsimp only [go_sem, seval, *, encA, hkI, hwr, hx, hne] | ((with_reducible refine opK_c ?_); simp -dsimp only [go_sem, seval, encA, hkI, hwr, hx, hne]; first | refine callK_r (by first | assumption | fail) (by first | exact .inl rfl | exact .inr rfl) ?_ | (refine callK_i (by assumption) ?_ ?_ ?_; (solve | (repeat (first | exact DLe.refl _ | exact DLe.nil _ | (refine DLe.tup ?_) | (refine DLe.agg ?_ rfl) | exact trivial | (refine And.intro ?_ ?_)))); (solve | exact .inl rfl | exact .inr rfl))) | fail | omega | exact decide_eq_true (by omega) | exact DLe.refl _)
      exact hC _ _ hI.out (weak_forget _ (by simp) (by (try simp only [encA]); rfl) (by (repeat' (first | exact trivial | (refine ⟨rfl, ?_⟩)))) (by first | rfl | simp only [belowH, belowE, belowC, belowL, belowR, belowP, belowL_d, belowR_d, List.length_cons, List.length_nil, Nat.reduceAdd, Nat.reduceLT, decide_true, Bool.and_self, Bool.and_true]) (by first | rfl | simp only [belowH, belowE, belowC, belowL, belowR, belowP, belowL_d, belowR_d, List.length_cons, List.length_nil, Nat.reduceAdd, Nat.reduceLT, decide_true, Bool.and_self, Bool.and_true]))
    · rw [if_neg h0] at hI
      have hne : (x != 0) = true := by simpa using h0
      have hr : R = x := by rw [hR.out, hI]
      rw [hr]
      replace hr := Lib.hid hr
      replace hI := Lib.hid hI
      replace h0 := Lib.hid h0
      repeat' (first | (with_reducible refine And.intro ?_ ?_) | (with_reducible refine gK_i (fun _ => ?_) (fun _ => ?_)) | (with_reducible refine condS_i (fun _ => ?_) (fun _ => ?_)) | (with_reducible refine drw_i (by kernel_rfl)) | simp -dsimp only [go_sem, seval, *, encA, hkI, hwr, hx, hne] | ((with_reducible refine opK_c ?_); simp -dsimp only [go_sem, seval, encA, hkI, hwr, hx, hne]; first | refine callK_r (by first | assumption | fail) (by first | exact .inl rfl | exact .inr rfl) ?_ | (refine callK_i (by assumption) ?_ ?_ ?_; (solve | (repeat (first | exact DLe.refl _ | exact DLe.nil _ | (refine DLe.tup ?_) | (refine DLe.agg ?_ rfl) | exact trivial | (refine And.intro ?_ ?_)))); (solve | exact .inl rfl | exact .inr rfl))) | fail | omega | exact decide_eq_true (by omega) | exact DLe.refl _)
      all_goals exact DLe.refl _
  · intro hI C
    rw [List.drop_length] at hI
    have hr : R = 0 := by rw [hR.out, hI]; rfl
    rw [hr]
    replace hr := Lib.hid hr
    replace hI := Lib.hid hI
    repeat' (first | (with_reducible refine And.intro ?_ ?_) | (with_reducible refine gK_i (fun _ => ?_) (fun _ => ?_)) | (with_reducible refine condS_i (fun _ => ?_) (fun _ => ?_)) | (with_reducible refine drw_i (by kernel_rfl)) | simp -dsimp only [go_sem, seval, *, Int.lt_irrefl] | ((with_reducible refine opK_c ?_); simp -dsimp only [go_sem, seval, Int.lt_irrefl]; first | refine callK_r (by first | assumption | fail) (by first | exact .inl rfl | exact .inr rfl) ?_ | (refine callK_i (by assumption) ?_ ?_ ?_; (solve | (repeat (first | exact DLe.refl _ | exact DLe.nil _ | (refine DLe.tup ?_) | (refine DLe.agg ?_ rfl) | exact trivial | (refine And.intro ?_ ?_)))); (solve | exact .inl rfl | exact .inr rfl))) | fail | omega | exact decide_eq_true (by omega) | exact DLe.refl _)
    all_goals exact DLe.refl _
end Go.Proofs.YtgmbhaclogabeaaGreat
