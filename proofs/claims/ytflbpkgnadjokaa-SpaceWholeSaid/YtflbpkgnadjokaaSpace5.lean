/- space: Fit. -/
import Derived.Test.YtflbpkgnadjokaaSpace3
import Derived.Test.YtflbpkgnadjokaaSpace4
namespace Go.Proofs.Ytflbpkgnadjokaa
open Go Go.RowKit Go.Proofs Go.Shelf
attribute [local go_sem] Oper.semAt_some
def holesS (root : Pfx) (us : List Pfx) : List Pfx := holesF us (16 - root.len).toNat root
def Pfx.zero : Pfx := ⟨0, 0⟩
/-- Fit's answer: the prefix, is there one, the error. -/
def fitS (root : Pfx) (us : List Pfx) (size : Int) : Pfx × Bool × Int :=
  if chkS root us = 0 then
    (if size < root.len ∨ 16 < size then (Pfx.zero, false, 3) else match (holesS root us).find? (fun q => decide (q.len ≤ size)) with | some q => (⟨q.at_, size⟩, true, 0) | none => (Pfx.zero, false, 0))
  else (Pfx.zero, false, chkS root us)
def blk (W : World) (b : Nat) (cs : Array Value) (t : TypeId) : Prop := W.heap[b]? = some (.cells cs t (0, 0))
theorem blk_kept {A B : World} {row : Option Nat} {b : Nat} {cs : Array Value} {t : TypeId} (h : blk A b cs t) (hg : A.grownBy B row) (hr : ∀ r, row = some r → ∃ o : Obj, A.heap[r]? = some o ∧ o.isCells = false) : blk B b cs t :=
  (hg.block b (lt_of_block h) (fun e => by obtain ⟨o, ho, hc⟩ := hr b e.symm; rw [show A.heap[b]? = _ from h] at ho; cases ho; cases hc)).trans h
theorem blk_ext {A B : World} {b : Nat} {cs : Array Value} {t : TypeId} (h : blk A b cs t) (hx : Ext A B) : blk B b cs t := block_ext hx h
theorem blk_cell {W : World} {b o : Nat} {cs : Array Value} {t : TypeId} {v : Value} (h : blk W b cs t) (hv : cs[o]? = some v) : W.cell? ⟨b, o, none⟩ = some v := cell_of_block h hv
theorem blk_free {W : World} {b o : Nat} {cs : Array Value} {t : TypeId} (h : blk W b cs t) : W.frozen? ⟨b, o, none⟩ = false := free_of_block h
theorem blk_set {W : World} {b o : Nat} {cs : Array Value} {t : TypeId} (h : blk W b cs t) (v : Value) : blk (W.setCell ⟨b, o, none⟩ v) b (cs.setIfInBounds o v) t := block_setCell h v
theorem blk_other {W : World} {b c o : Nat} {cs : Array Value} {t : TypeId} (h : blk W b cs t) (hne : c ≠ b) (v : Value) : blk (W.setCell ⟨c, o, none⟩ v) b cs t := (block_setCell_ne v hne).trans h
theorem Sl.inW {α : Type} {A : Area} {w : World} {k : Nat} {R : List Value → α → Prop} {ao : Option Addr} {cap : Nat} {l : List α} (h : Sl A w (k + 1) R ao cap l) : Sl (fun b => b < w.heap.size) w (k + 1) R ao cap l := by
  refine ⟨h.cap_le, h.cap_max, fun i hi => ?_⟩
  obtain ⟨b, off, cs, h1, h2, h3, h4, h5⟩ := h.elem i hi
  exact ⟨b, off, cs, h1, lt_of_cell (h5 0 (by omega)), h3, h4, h5⟩
theorem KG_t {own : World → Nat → Prop} {G : World → Prop} {A B C : World} (h : KG own G A B) (k : KG own G B C) : KG own G A C := fun g => ⟨(h g).1.trans (k (h g).2).1, (k (h g).2).2⟩
theorem ownFrom_blk {β : Type} (B b : Nat) (f : β → Array Value) (t : TypeId) : OwnFrom B (fun s W => blk W b (f s) t) := fun _ _ _ _ hs hg hr => blk_kept hs hg fun r e => (hr r e).2
theorem ownFrom_size {β : Type} (B n : Nat) : OwnFrom B (fun (_ : β) W => n ≤ W.heap.size) := fun _ _ _ _ hs hg _ => Nat.le_trans hs hg.size
abbrev noOwn : World → Nat → Prop := fun _ _ => False
abbrev noG : World → Prop := fun _ => True
theorem KG_no {W W' : World} (h : Ext W W') : KG noOwn noG W W' := fun _ => ⟨KP.of h fun _ h => h, trivial⟩
theorem KG_no_put {w : World} (W : World) (l : Nat) (o o' : Obj) (_ : w.heap.size ≤ l) (h : W.heap[l]? = some o) (hc : o.isCells = false) (_ : o.isWalk = false) : KG noOwn noG W (W.putObj l o') := fun _ =>
  ⟨⟨(grownBy_putObj' W l o').size, fun b c t f _ hb => ((grownBy_putObj' W l o').block b (lt_of_block hb) (fun e => by cases e; rw [h] at hb; cases hb; cases hc)).trans hb, fun b _ ho => ho⟩, trivial⟩
/-- The loop's state: what has come does not fit; the boxes. -/
def FitI (w w1 : World) (size : Int) (pre : List Pfx) (W : World) : Prop :=
  ((∀ y ∈ pre, decide (y.len ≤ size) = false) ∧ blk W (w.heap.size + 1) #[.int .i64 size] 3 ∧ blk W (w.heap.size + 2) #[.int .i64 0, .int .i64 0] 23 ∧ blk W (w.heap.size + 3) #[.bool false] 4 ∧ blk W (w.heap.size + 4) #[.int .i64 0] 27 ∧ w1.heap.size ≤ W.heap.size) ∧ Below w.heap.size w W
def FitX (w : World) (size : Int) (c : Code) (pre : List Pfx) (W : World) : Prop :=
  (c = .ret ∧ ∃ q x, pre = q ++ [x] ∧ decide (x.len ≤ size) = true ∧ (∀ y ∈ q, decide (y.len ≤ size) = false) ∧ blk W (w.heap.size + 2) #[.int .i64 x.at_, .int .i64 size] 23 ∧ blk W (w.heap.size + 3) #[.bool true] 4 ∧ blk W (w.heap.size + 4) #[.int .i64 0] 27) ∧ Below w.heap.size w W
theorem fitI_own (w w1 : World) (size : Int) (B : Nat) (hB : w.heap.size ≤ B) : OwnFrom B (FitI w w1 size) := by
  intro s X Y row h hg hr
  obtain ⟨⟨h1, h2, h3, h4, h5, h6⟩, h7⟩ := h
  have hr' : ∀ r, row = some r → ∃ o : Obj, X.heap[r]? = some o ∧ o.isCells = false := fun r e => (hr r e).2
  exact ⟨⟨h1, blk_kept h2 hg hr', blk_kept h3 hg hr', blk_kept h4 hg hr', blk_kept h5 hg hr', Nat.le_trans h6 hg.size⟩, h7.grown hg h7.size (fun k e => Nat.le_trans hB (hr k e).1)⟩
theorem fitX_own (w : World) (size : Int) (c : Code) (B : Nat) (hB : w.heap.size ≤ B) : OwnFrom B (FitX w size c) := by
  intro s X Y row h hg hr
  obtain ⟨⟨h1, q, x, h2, h3, h4, h5, h6, h7⟩, h8⟩ := h
  have hr' : ∀ r, row = some r → ∃ o : Obj, X.heap[r]? = some o ∧ o.isCells = false := fun r e => (hr r e).2
  exact ⟨⟨h1, q, x, h2, h3, h4, blk_kept h5 hg hr', blk_kept h6 hg hr', blk_kept h7 hg hr'⟩, h8.grown hg h8.size (fun k e => Nat.le_trans hB (hr k e).1)⟩
/-- The frame of a round. -/
def fitAct (w w1 : World) (root : Pfx) (uo : Option Addr) (n ucap : Nat) (size : Int) (x : Pfx) (Bx : Nat) : Act :=
  { tmps := #[.agg #[.int .i64 root.at_, .int .i64 root.len, .slice uo n ucap], .int .i64 size, .pointer (some ⟨w.heap.size, 0, none⟩), .pointer (some ⟨w.heap.size + 1, 0, none⟩), .pointer (some ⟨w.heap.size + 1 + 1, 0, none⟩), .pointer (some ⟨w.heap.size + 1 + 1 + 1, 0, none⟩), .pointer (some ⟨w.heap.size + 1 + 1 + 1 + 1, 0, none⟩), .int .i64 0, .pointer (some ⟨Bx, 0, none⟩),
    .agg #[.int .i64 root.at_, .int .i64 root.len, .slice uo n ucap], .int .i64 0, .int .i64 0, .bool false, undef, undef, .int .i64 size, .pointer (some ⟨w.heap.size, 0, none⟩), .pointer (some ⟨w.heap.size, 1, none⟩), .int .i64 root.len, .bool false, .bool false, .int .i64 size, .bool false, .bool false, undef, .pointer (some ⟨w.heap.size, 0, none⟩), .agg #[.int .i64 root.at_, .int .i64 root.len], .pointer (some ⟨w.heap.size, 2, none⟩), .slice uo n ucap,
    .func (.func 43) #[] #[.pointer (some ⟨w1.heap.size, 0, none⟩), .pointer (some ⟨w1.heap.size + 1, 0, none⟩)], .agg #[.int .i64 x.at_, .int .i64 x.len], undef, undef, undef, undef, undef, undef, undef, undef, undef], defers := [] }
def FitAx (w w1 : World) (root : Pfx) (uo : Option Addr) (n ucap : Nat) (size : Int) (x : Pfx) (a' : Act) (W : World) : Prop :=
  ∃ Bx, w1.heap.size ≤ Bx ∧ blk W Bx #[.int .i64 x.at_, .int .i64 x.len] 23 ∧ a' = fitAct w w1 root uo n ucap size x Bx
set_option maxHeartbeats 2000000 in
set_option maxRecDepth 100000 in
theorem fit_loop {A : Area} (root : Pfx) (us : List Pfx) (uo : Option Addr) (ucap : Nat) (size : Int) (w : World) (h : Sl A w 2 Pfx.R uo ucap us) (hck0 : chkS root us = 0) (h1 : root.len ≤ size) (h2 : size ≤ 16) :
    Calls Try.prog 7 #[.agg #[.int .i64 root.at_, .int .i64 root.len, .slice uo us.length ucap], .int .i64 size] w fun e w' =>
      e = .returned (.tuple #[(fitS root us size).1.v, .bool (fitS root us size).2.1, .int .i64 (fitS root us size).2.2]) ∧ Ext w w' := by
  have hck := fun W (h : Sl A W 2 Pfx.R uo ucap us) => spaceCheck_any root us uo ucap W h
  rw [hck0] at hck
  replace hck := Lib.hid hck
  have hwk := fun W => walk_any root uo us.length ucap W
  unfold Pfx.v at hwk
  replace hwk := Lib.hid hwk
  refine (callsIn_wide (n := 3)).1 ?_
  refine callsIn_of_wp_marks Try.func7 rfl trivial ?_ rfl
  simp only [Try.ntmps7, List.size_toArray, List.length_cons, List.length_nil, Nat.reduceAdd, Nat.reduceSub, Array.replicate_succ, Array.replicate_zero, List.push_toArray, List.append_toArray, List.nil_append, List.cons_append]
  gi_wp2_with fail
  refine ⟨trivial, ?_⟩
  refine (callsIn_wide.2 (hck.out _ (h.ext (ext_trans (ext_alloc _ _) (ext_trans (ext_alloc _ _) (ext_trans (ext_alloc _ _) (ext_trans (ext_alloc _ _) (ext_alloc _ _)))))))).mono ?_
  rintro e w1 ⟨rfl, hw1⟩
  obtain ⟨hcw1, hfw1⟩ := bcell hw1
  have hzw1 := bsize hw1
  (try simp only [World.size_alloc, World.size_setCell, World.size_drew, World.heap_drewN] at hcw1 hfw1 hzw1)
  have l1 : w.heap.size < w1.heap.size := by omega
  have l2 : w.heap.size + 1 < w1.heap.size := by omega
  gi_wp2_with fail

  refine ⟨trivial, ?_⟩
  refine (callsIn_wide.2 (hwk.out _)).mono ?_
  rintro e w2 ⟨rfl, rfl⟩
  have b0 : blk w1 w.heap.size #[.int .i64 root.at_, .int .i64 root.len, .slice uo us.length ucap] 26 := blk_ext (block_alloc (block_alloc (block_alloc (block_alloc (block_new' _ (by simp)))))) hw1
  have b1 : blk w1 (w.heap.size + 1) #[.int .i64 size] 3 := blk_ext (block_alloc (block_alloc (block_alloc (block_new' _ (by simp))))) hw1
  have b2 : blk w1 (w.heap.size + 2) #[.int .i64 0, .int .i64 0] 23 := blk_ext (block_alloc (block_alloc (block_new' _ (by simp)))) hw1
  have b3 : blk w1 (w.heap.size + 3) #[.bool false] 4 := blk_ext (block_alloc (block_new' _ (by simp))) hw1
  have b4 : blk w1 (w.heap.size + 4) #[.int .i64 0] 27 := blk_ext (block_new' _ (by simp)) hw1
  have hlo : decide (size < root.len) = false := by simp; omega
  have hhi : decide (16 < size) = false := by simp; omega
  gi_wp2_with fail
  have hx2 : Ext w1 ((w1.alloc (.cells #[.int .i64 root.at_, .int .i64 root.len] 23)).alloc (.cells #[.slice uo us.length ucap] 24)) := ext_trans (ext_alloc _ _) (ext_alloc _ _)
  have hxx : Ext w w1 := ext_trans (ext_trans (ext_alloc _ _) (ext_trans (ext_alloc _ _) (ext_trans (ext_alloc _ _) (ext_trans (ext_alloc _ _) (ext_alloc _ _))))) hw1
  have hlen : 16 - root.len = (((16 - root.len).toNat : Nat) : Int) := by omega
  have hroot : root.right = true := by
    unfold chkS at hck0
    split at hck0 <;> (try split at hck0) <;> simp_all [Pfx.right, rightB]
  refine wpIn_rangeFunc_ownH rfl (by omega) (gf := 43) (lb := #[.pointer (some ⟨w1.heap.size, 0, none⟩), .pointer (some ⟨w1.heap.size + 1, 0, none⟩)]) rfl trivial (enters_of Try.func43 (by kernel_rfl) rfl)
    (walk_stops noOwn noG 2 w1.heap.size w1.heap.size (w1.heap.size + 1) us uo ucap root _ hlen hroot _ trivial (fun _ _ _ h => h.elim) (fun _ _ _ _ _ h => h) (fun _ _ _ _ => trivial) (by simp) (by simp) (by simp) ((((h.ext hxx).inW).ext hx2))) KG_t (KG_no_put (w := ((w1.alloc (.cells #[.int .i64 root.at_, .int .i64 root.len] 23)).alloc (.cells #[.slice uo us.length ucap] 24)))) (Below.refl _ _) (fun _ => rfl)
    (FitI w w1 size) (FitX w size) (fitI_own w w1 size _ (by simp; omega)) (fun c => fitX_own w size c _ (by simp; omega))
    ⟨⟨by simp, blk_ext b1 hx2, blk_ext b2 hx2, blk_ext b3 hx2, blk_ext b4 hx2, hx2.size⟩, (ext_trans hxx hx2).mono (Nat.le_refl _)⟩
    (FitAx w w1 root uo us.length ucap size) (fun x a' => by
      intro s X Y row h hg hr
      obtain ⟨Bx, h1, h2, h3⟩ := h
      exact ⟨Bx, h1, blk_kept h2 hg (fun r e => (hr r e).2), h3⟩) ?assign ?body ?done ?stop
  case assign =>
    intro l pre x W K hi hK
    have hi' := hi
    obtain ⟨⟨-, -, -, -, -, hsz⟩, hB⟩ := hi'
    unfold Pfx.v
    gi_wp2
    refine hK _ _ ((KeepsOthers.alloc _ _).from _) (KG_no (ext_alloc _ _)) (fitI_own w w1 size w.heap.size (Nat.le_refl _) _ _ _ none hi (World.grownBy_alloc _ _ _) (fun r e => by cases e)) ⟨W.heap.size, hsz, block_new _ _, rfl⟩
  case body =>
    rintro l pre x a' W hl ⟨r, hr⟩ hi ⟨Bx, hBx, bX, rfl⟩ hlt
    obtain ⟨⟨hp, c1, c2, c3, c4, hsz⟩, hB⟩ := hi
    have x0 := blk_cell (o := 0) bX rfl
    have x1 := blk_cell (o := 1) bX rfl
    have s0 := blk_cell (o := 0) c1 rfl
    have p0 := blk_cell (o := 0) c2 rfl
    have p1 := blk_cell (o := 1) c2 rfl
    have q0 := blk_cell (o := 0) c3 rfl
    have r0 := blk_cell (o := 0) c4 rfl
    have f2 : ∀ o, W.frozen? ⟨w.heap.size + 2, o, none⟩ = false := fun o => blk_free c2
    have f3 : ∀ o, W.frozen? ⟨w.heap.size + 3, o, none⟩ = false := fun o => blk_free c3
    have f4 : ∀ o, W.frozen? ⟨w.heap.size + 4, o, none⟩ = false := fun o => blk_free c4
    unfold fitAct
    cases hx : decide (x.len ≤ size)
    · have Hx := Lib.hid hx
      gi_wp2
      exact ⟨(KeepsOthers.refl _).from _, KG_no (Below.refl _ _), ⟨⟨fun y hy => (List.mem_append.1 hy).elim (hp y) (fun e => by simp at e; rw [e]; exact Hx.out), c1, c2, c3, c4, hsz⟩, hB⟩⟩
    · have Hx := Lib.hid hx
      gi_wp2
      refine ⟨((((KeepsOthers.setCell _ _ _).trans (KeepsOthers.setCell _ _ _)).trans (KeepsOthers.setCell _ _ _)).trans (KeepsOthers.setCell _ _ _)).from _, ⟨⟨rfl, pre, x, rfl, Hx.out, hp, ?_, ?_, ?_⟩, ?_⟩⟩
      · exact blk_other (blk_other (blk_set (blk_set c2 _) _) (by omega) _) (by omega) _
      · exact blk_other (blk_set (blk_other (blk_other c3 (by omega) _) (by omega) _) _) (by omega) _
      · exact blk_set (blk_other (blk_other (blk_other c4 (by omega) _) (by omega) _) (by omega) _) _
      · exact (((hB.setCell (p := ⟨w.heap.size + 2, 0, none⟩) (by simp) _).setCell (p := ⟨w.heap.size + 2, 1, none⟩) (by simp) _).setCell (p := ⟨w.heap.size + 3, 0, none⟩) (by simp) _).setCell (p := ⟨w.heap.size + 4, 0, none⟩) (by simp) _
  case done =>
    rintro D ys W hD rfl ⟨⟨hne, c1, c2, c3, c4, hsz⟩, hB⟩ hK
    have p0 := blk_cell (o := 0) c2 rfl
    have p1 := blk_cell (o := 1) c2 rfl
    have q0 := blk_cell (o := 0) c3 rfl
    have r0 := blk_cell (o := 0) c4 rfl
    have f2 : ∀ o, W.frozen? ⟨w.heap.size + 2, o, none⟩ = false := fun o => blk_free c2
    have f3 : ∀ o, W.frozen? ⟨w.heap.size + 3, o, none⟩ = false := fun o => blk_free c3
    have f4 : ∀ o, W.frozen? ⟨w.heap.size + 4, o, none⟩ = false := fun o => blk_free c4
    have hfit : fitS root us size = (Pfx.zero, false, 0) := by
      unfold fitS
      rw [if_pos hck0, if_neg (by omega)]
      have : (holesS root us).find? (fun q => decide (q.len ≤ size)) = none := by
        rw [List.find?_eq_none]
        intro q hq
        rw [hne q hq]; simp
      rw [this]
    replace hfit := Lib.hid hfit
    replace hne := Lib.hid hne
    have hK' := ((((KeepsOthers.setCell W ⟨w.heap.size + 2, 0, none⟩ (.int .i64 0)).trans (KeepsOthers.setCell _ ⟨w.heap.size + 2, 1, none⟩ (.int .i64 0))).trans (KeepsOthers.setCell _ ⟨w.heap.size + 3, 0, none⟩ (.bool false))).trans (KeepsOthers.setCell _ ⟨w.heap.size + 4, 0, none⟩ (.int .i64 0))).same D _ hK rfl
    have e2 := blk_kept (blk_other (c := w.heap.size + 4) (o := 0) (blk_other (c := w.heap.size + 3) (o := 0) (blk_set (o := 1) (blk_set (o := 0) c2 (.int .i64 0)) (.int .i64 0)) (by omega) (.bool false)) (by omega) (.int .i64 0)) (grownBy_putObj' _ D (.deferred none)) (fun r e => by cases e; exact ⟨_, hK', rfl⟩)
    have e3 := blk_kept (blk_other (c := w.heap.size + 4) (o := 0) (blk_set (o := 0) (blk_other (c := w.heap.size + 2) (o := 1) (blk_other (c := w.heap.size + 2) (o := 0) c3 (by omega) (.int .i64 0)) (by omega) (.int .i64 0)) (.bool false)) (by omega) (.int .i64 0)) (grownBy_putObj' _ D (.deferred none)) (fun r e => by cases e; exact ⟨_, hK', rfl⟩)
    have e4 := blk_kept (blk_set (o := 0) (blk_other (c := w.heap.size + 3) (o := 0) (blk_other (c := w.heap.size + 2) (o := 1) (blk_other (c := w.heap.size + 2) (o := 0) c4 (by omega) (.int .i64 0)) (by omega) (.int .i64 0)) (by omega) (.bool false)) (.int .i64 0)) (grownBy_putObj' _ D (.deferred none)) (fun r e => by cases e; exact ⟨_, hK', rfl⟩)
    have hB4 := ((((hB.setCell (p := ⟨w.heap.size + 2, 0, none⟩) (by simp) (.int .i64 0)).setCell (p := ⟨w.heap.size + 2, 1, none⟩) (by simp) (.int .i64 0)).setCell (p := ⟨w.heap.size + 3, 0, none⟩) (by simp) (.bool false)).setCell (p := ⟨w.heap.size + 4, 0, none⟩) (by simp) (.int .i64 0)).trans (belowK_b (w := w) (Nat.le_refl _) _ D _ (.deferred none) (by simp at hD; omega) hK' rfl rfl)
    gi_wp2
    refine ⟨by simp, .inl ⟨_, _, rfl, run_takeDeferred hK', ?_⟩⟩
    refine ⟨.tuple #[Pfx.zero.v, .bool false, .int .i64 0], ?_, by rw [hfit.out], hB4⟩
    have y0 := blk_cell (o := 0) e2 rfl
    have y1 := blk_cell (o := 1) e2 rfl
    have y2 := blk_cell (o := 0) e3 rfl
    have y3 := blk_cell (o := 0) e4 rfl
    unfold Pfx.zero Pfx.v
    simp [results, Try.f7, go_sem, y0, y1, y2, y3]
  case stop =>
    rintro D c pre W hD hpre ⟨⟨rfl, q, x, hq, hx, hn, c2, c3, c4⟩, hB⟩ hK
    have hfit : fitS root us size = (⟨x.at_, size⟩, true, 0) := by
      unfold fitS
      rw [if_pos hck0, if_neg (by omega)]
      have : (holesS root us).find? (fun q => decide (q.len ≤ size)) = some x := by
        obtain ⟨r, hr⟩ := hpre
        unfold holesS
        rw [← hr, hq, List.append_assoc, List.find?_append]
        have h1 : q.find? (fun q => decide (q.len ≤ size)) = none := by
          rw [List.find?_eq_none]
          intro y hy
          rw [hn y hy]; simp
        rw [h1]
        simp only [List.cons_append, List.find?_cons, hx, Option.none_or]
      rw [this]
    replace hfit := Lib.hid hfit
    replace hn := Lib.hid hn
    replace hq := Lib.hid hq
    replace hpre := Lib.hid hpre
    have e2 := blk_kept c2 (grownBy_putObj' _ D (.deferred none)) (fun r e => by cases e; exact ⟨_, hK, rfl⟩)
    have e3 := blk_kept c3 (grownBy_putObj' _ D (.deferred none)) (fun r e => by cases e; exact ⟨_, hK, rfl⟩)
    have e4 := blk_kept c4 (grownBy_putObj' _ D (.deferred none)) (fun r e => by cases e; exact ⟨_, hK, rfl⟩)
    have hB4 := hB.trans (belowK_b (w := w) (Nat.le_refl _) _ D _ (.deferred none) (by simp at hD; omega) hK rfl rfl)
    gi_wp2
    refine ⟨by simp, .inl ⟨_, _, rfl, run_takeDeferred hK, ?_⟩⟩
    refine ⟨.tuple #[Pfx.v ⟨x.at_, size⟩, .bool true, .int .i64 0], ?_, by rw [hfit.out], hB4⟩
    have y0 := blk_cell (o := 0) e2 rfl
    have y1 := blk_cell (o := 1) e2 rfl
    have y2 := blk_cell (o := 0) e3 rfl
    have y3 := blk_cell (o := 0) e4 rfl
    unfold Pfx.v
    simp [results, Try.f7, go_sem, y0, y1, y2, y3]
set_option maxHeartbeats 1000000 in
set_option maxRecDepth 100000 in
theorem fit_any {A : Area} (root : Pfx) (us : List Pfx) (uo : Option Addr) (ucap : Nat) (size : Int) (w : World) (h : Sl A w 2 Pfx.R uo ucap us) :
    Calls Try.prog 7 #[.agg #[.int .i64 root.at_, .int .i64 root.len, .slice uo us.length ucap], .int .i64 size] w fun e w' =>
      e = .returned (.tuple #[(fitS root us size).1.v, .bool (fitS root us size).2.1, .int .i64 (fitS root us size).2.2]) ∧ Ext w w' := by
  by_cases h0 : chkS root us = 0
  · by_cases h1 : root.len ≤ size ∧ size ≤ 16
    · exact fit_loop root us uo ucap size w h h0 h1.1 h1.2
    · have hf : fitS root us size = (Pfx.zero, false, 3) := by unfold fitS; rw [if_pos h0, if_pos (by omega)]
      rw [hf]
      have hck := fun W (h : Sl A W 2 Pfx.R uo ucap us) => spaceCheck_any root us uo ucap W h
      rw [h0] at hck
      replace hck := Lib.hid hck
      clear hf h0
      unfold Pfx.zero Pfx.v
      by_cases h2 : size < root.len
      · have hlo : decide (size < root.len) = true := by simp [h2]
        clear h1
        go_enter Try.func7, Try.ntmps7
        go_wp2_with fail
        refine (hck.out _ (h.ext (ext_trans (ext_alloc _ _) (ext_trans (ext_alloc _ _) (ext_trans (ext_alloc _ _) (ext_trans (ext_alloc _ _) (ext_alloc _ _))))))).mono ?_
        rintro e w1 ⟨rfl, hw1⟩
        obtain ⟨hcw1, hfw1⟩ := bcell hw1
        have hzw1 := bsize hw1
        (try simp only [World.size_alloc, World.size_setCell, World.size_drew, World.heap_drewN] at hcw1 hfw1 hzw1)
        go_wp2_with fail
        refine bodyPost_ret ?_ rfl ⟨rfl, Bel.bel (B := _) ?_⟩
        · simp [results, Try.results7, go_sem, hcw1]
        · (repeat (first | with_reducible assumption | with_reducible exact Bel.refl _ | with_reducible refine Bel.alloc ?_ _ | with_reducible refine Bel.drewN ?_ _ | with_reducible refine Bel.drew ?_ | (with_reducible refine Bel.setCell0 ?_ ?_ _; rotate_left; (first | omega | (simp; done) | (simp; omega))) | (with_reducible refine Bel.setCell ?_ (p := _) ?_ _; rotate_left; (first | (simp; done) | omega | (simp; omega))) | refine Bel.call ?_ (by assumption) | (refine EX.bel ?_ (by assumption) ?_; rotate_left; (first | omega | (simp; omega)))))
      · have hlo : decide (size < root.len) = false := by simp [h2]
        have hhi : decide (16 < size) = true := by simp; omega
        clear h1
        go_enter Try.func7, Try.ntmps7
        go_wp2_with fail
        refine (hck.out _ (h.ext (ext_trans (ext_alloc _ _) (ext_trans (ext_alloc _ _) (ext_trans (ext_alloc _ _) (ext_trans (ext_alloc _ _) (ext_alloc _ _))))))).mono ?_
        rintro e w1 ⟨rfl, hw1⟩
        obtain ⟨hcw1, hfw1⟩ := bcell hw1
        have hzw1 := bsize hw1
        (try simp only [World.size_alloc, World.size_setCell, World.size_drew, World.heap_drewN] at hcw1 hfw1 hzw1)
        go_wp2_with fail
        refine bodyPost_ret ?_ rfl ⟨rfl, Bel.bel (B := _) ?_⟩
        · simp [results, Try.results7, go_sem, hcw1]
        · (repeat (first | with_reducible assumption | with_reducible exact Bel.refl _ | with_reducible refine Bel.alloc ?_ _ | with_reducible refine Bel.drewN ?_ _ | with_reducible refine Bel.drew ?_ | (with_reducible refine Bel.setCell0 ?_ ?_ _; rotate_left; (first | omega | (simp; done) | (simp; omega))) | (with_reducible refine Bel.setCell ?_ (p := _) ?_ _; rotate_left; (first | (simp; done) | omega | (simp; omega))) | refine Bel.call ?_ (by assumption) | (refine EX.bel ?_ (by assumption) ?_; rotate_left; (first | omega | (simp; omega)))))
  · have hf : fitS root us size = (Pfx.zero, false, chkS root us) := by unfold fitS; rw [if_neg h0]
    rw [hf]
    have hck := fun W (h : Sl A W 2 Pfx.R uo ucap us) => spaceCheck_any root us uo ucap W h
    obtain ⟨c, hc⟩ : ∃ c, c = chkS root us := ⟨_, rfl⟩
    rw [← hc] at hck h0 ⊢
    have hne : (c != 0) = true := by simpa using h0
    replace hck := Lib.hid hck
    clear hf h0 hc
    unfold Pfx.zero Pfx.v
    go_enter Try.func7, Try.ntmps7
    go_wp2_with fail
    refine (hck.out _ (h.ext (ext_trans (ext_alloc _ _) (ext_trans (ext_alloc _ _) (ext_trans (ext_alloc _ _) (ext_trans (ext_alloc _ _) (ext_alloc _ _))))))).mono ?_
    rintro e w1 ⟨rfl, hw1⟩
    obtain ⟨hcw1, hfw1⟩ := bcell hw1
    have hzw1 := bsize hw1
    (try simp only [World.size_alloc, World.size_setCell, World.size_drew, World.heap_drewN] at hcw1 hfw1 hzw1)
    go_wp2_with fail
    refine bodyPost_ret ?_ rfl ⟨rfl, Bel.bel (B := _) ?_⟩
    · simp [results, Try.results7, go_sem, hcw1]
    · (repeat (first | with_reducible assumption | with_reducible exact Bel.refl _ | with_reducible refine Bel.alloc ?_ _ | with_reducible refine Bel.drewN ?_ _ | with_reducible refine Bel.drew ?_ | (with_reducible refine Bel.setCell0 ?_ ?_ _; rotate_left; (first | omega | (simp; done) | (simp; omega))) | (with_reducible refine Bel.setCell ?_ (p := _) ?_ _; rotate_left; (first | (simp; done) | omega | (simp; omega))) | refine Bel.call ?_ (by assumption) | (refine EX.bel ?_ (by assumption) ?_; rotate_left; (first | omega | (simp; omega)))))
end Go.Proofs.Ytflbpkgnadjokaa
