/- space: Holes: what Collect collects. -/
import Derived.Test.YtflbpkgnadjokaaSpace5
import Derived.Maps.OwnIn
import Derived.Maps.AppendAt
namespace Go.Proofs.Ytflbpkgnadjokaa
open Go Go.RowKit Go.Proofs Go.Shelf
attribute [local go_sem] Oper.semAt_some
theorem holesF_len (us : List Pfx) : ∀ n p, (holesF us n p).length ≤ 2 ^ n
  | 0, p => by unfold holesF; split <;> simp
  | n + 1, p => by
    unfold holesF
    split
    · split
      · simp
      · have h1 := holesF_len us n p.low
        have h2 := holesF_len us n p.high
        rw [List.length_append, Nat.pow_succ]; omega
    · have := Nat.one_le_two_pow (n := n + 1); simpa using this
def pcells (x : Pfx) : List Value := [.int .i64 x.at_, .int .i64 x.len]
theorem Try.infoPrefix : (Try.prog.info? 23).map (fun i => (i.zero, i.size, i.bytes)) = some (some (.agg #[.int .i64 0, .int .i64 0]), 2, 16) := by kernel_rfl
def apOwn (n : Nat) (W : World) (b : Nat) : Prop := b = n ∨ ∃ v, W.cell? ⟨n, 0, none⟩ = some v ∧ v.ownBlock = some b
def apG (n : Nat) (W : World) : Prop := ∃ v, blk W n #[v] 24 ∧ ∀ r, v.ownBlock = some r → n < r ∧ r < W.heap.size
def ApI (w : World) (pre : List Pfx) (W : World) : Prop :=
  ∃ v, blk W w.heap.size #[v] 24 ∧ W.ownsRow (w.heap.size + 1) 23 2 v pre.length (pre.flatMap pcells) ∧ Below w.heap.size w W
theorem apI_own (w : World) (B : Nat) (hB : w.heap.size ≤ B) : OwnFrom B (ApI w) := by
  intro s X Y row h hg hr
  obtain ⟨v, h1, h2, h3⟩ := h
  have hr' : ∀ r, row = some r → ∃ o : Obj, X.heap[r]? = some o ∧ o.isCells = false := fun r e => (hr r e).2
  refine ⟨v, blk_kept h1 hg hr', h2.kept hg ?_, h3.grown hg h3.size (fun k e => Nat.le_trans hB (hr k e).1)⟩
  rcases h2.2 with ⟨rfl, _⟩ | ⟨g, cap, cur, rfl, _, hgb, _⟩
  · left; rfl
  · right
    intro e
    obtain ⟨o, ho, hc⟩ := hr' g e.symm
    rw [hgb] at ho; cases ho; cases hc
theorem ap_g1 {n b : Nat} {X : World} (hg : apG n X) (ho : apOwn n X b) : n ≤ b ∧ b < X.heap.size := by
  obtain ⟨v, hv, hr⟩ := hg
  rcases ho with rfl | ⟨u, hu, hb⟩
  · exact ⟨Nat.le_refl _, lt_of_block hv⟩
  · have := blk_cell (o := 0) hv rfl
    rw [hu] at this
    cases this
    have := hr b hb
    omega
theorem ap_g2 {n b : Nat} {X Y : World} (hg : apG n X) (hx : Ext X Y) (ho : apOwn n Y b) : apOwn n X b := by
  obtain ⟨v, hv, _⟩ := hg
  rcases ho with rfl | ⟨u, hu, hb⟩
  · exact .inl rfl
  · have h1 := blk_cell (o := 0) hv rfl
    have h2 := keepCell hx h1
    rw [hu] at h2
    cases h2
    exact .inr ⟨_, h1, hb⟩
theorem ap_g3 {n : Nat} {X Y : World} (hg : apG n X) (hx : Ext X Y) : apG n Y := by
  obtain ⟨v, hv, hr⟩ := hg
  exact ⟨v, blk_ext hv hx, fun r e => ⟨(hr r e).1, Nat.lt_of_lt_of_le (hr r e).2 hx.size⟩⟩
theorem ap_put (n : Nat) {w : World} (W : World) (l : Nat) (o o' : Obj) (_ : w.heap.size ≤ l) (h : W.heap[l]? = some o) (hc : o.isCells = false) (_ : o.isWalk = false) : KG (apOwn n) (apG n) W (W.putObj l o') := by
  intro hg
  have hgr := grownBy_putObj' W l o'
  have hr' : ∀ r, some l = some r → ∃ o : Obj, W.heap[r]? = some o ∧ o.isCells = false := fun r e => by cases e; exact ⟨o, h, hc⟩
  obtain ⟨v, hv, hr⟩ := hg
  refine ⟨⟨hgr.size, fun b c t f _ hb => (hgr.block b (lt_of_block hb) (fun e => by cases e; rw [h] at hb; cases hb; cases hc)).trans hb, fun b _ ho => ?_⟩, ⟨v, blk_kept hv hgr hr', fun r e => ⟨(hr r e).1, Nat.lt_of_lt_of_le (hr r e).2 hgr.size⟩⟩⟩
  rcases ho with rfl | ⟨u, hu, hb⟩
  · exact .inl rfl
  · have h1 := blk_cell (o := 0) (blk_kept hv hgr hr') rfl
    rw [hu] at h1
    cases h1
    exact .inr ⟨_, blk_cell (o := 0) hv rfl, hb⟩
set_option maxHeartbeats 2000000 in
set_option maxRecDepth 100000 in
theorem appendSeq_any (us : List Pfx) (uo : Option Addr) (ucap : Nat) (p : Pfx) (n : Nat) (hn : 16 - p.len = (n : Int)) (hn16 : n ≤ 16) (hr : p.right = true) (b1 b2 : Nat) (w : World)
    (c0 : w.cell? ⟨b1, 0, none⟩ = some (.int .i64 p.at_)) (c1 : w.cell? ⟨b1, 1, none⟩ = some (.int .i64 p.len)) (c2 : w.cell? ⟨b2, 0, none⟩ = some (.slice uo us.length ucap)) {A : Area} (h : Sl A w 2 Pfx.R uo ucap us) :
    Calls Try.prog 45 #[.slice none 0 0, .func (.func 43) #[] #[.pointer (some ⟨b1, 0, none⟩), .pointer (some ⟨b2, 0, none⟩)]] w fun e w' =>
      ∃ v, e = .returned v ∧ w'.ownsRow (w.heap.size + 1) 23 2 v (holesF us n p).length ((holesF us n p).flatMap pcells) ∧ Ext w w' := by
  have hlen := holesF_len us n p
  have h65 : (holesF us n p).length ≤ 65536 := Nat.le_trans hlen (Nat.pow_le_pow_right (by omega) hn16)
  obtain ⟨i0, hi, hz0, hz1, hz2⟩ := info_parts Try.infoPrefix
  refine (callsIn_wide (n := 3)).1 ?_
  refine callsIn_of_wp_marks Try.func45 rfl trivial ?_ rfl
  simp only [Try.ntmps45, List.size_toArray, List.length_cons, List.length_nil, Nat.reduceAdd, Nat.reduceSub, Array.replicate_succ, Array.replicate_zero, List.push_toArray, List.append_toArray, List.nil_append, List.cons_append]
  gi_wp2_with fail
  have hx1 : Ext w (w.alloc (.cells #[.slice none 0 0] 24)) := ext_alloc _ _
  have bb : blk (w.alloc (.cells #[.slice none 0 0] 24)) w.heap.size #[.slice none 0 0] 24 := block_new _ _
  refine wpIn_rangeFunc_ownH rfl (by omega) (gf := 43) (lb := #[.pointer (some ⟨b1, 0, none⟩), .pointer (some ⟨b2, 0, none⟩)]) rfl trivial (enters_of Try.func43 (by kernel_rfl) rfl)
    (walk_stops (apOwn w.heap.size) (apG w.heap.size) 2 w.heap.size b1 b2 us uo ucap p n hn hr _ ⟨_, bb, fun r e => by simp [Value.ownBlock] at e⟩
      (fun X b hg ho => ap_g1 hg ho) (fun X Y b hg hx ho => ap_g2 hg hx ho) (fun X Y hg hx => ap_g3 hg hx) (keepCell hx1 c0) (keepCell hx1 c1) (keepCell hx1 c2) (h.inW.ext hx1)) KG_t (ap_put w.heap.size (w := (w.alloc (.cells #[.slice none 0 0] 24)))) (Below.refl _ _) (fun _ => rfl)
    (ApI w) (fun _ _ _ => False) (apI_own w _ (by simp)) (fun c s X Y row h _ _ => h)
    ⟨_, bb, World.ownsRow_nil _ _ _ _, hx1⟩
    (fun x a' W => ∃ Bx, w.heap.size < Bx ∧ blk W Bx #[.int .i64 x.at_, .int .i64 x.len] 23 ∧ a' = { tmps := #[.slice none 0 0, .func (.func 43) #[] #[.pointer (some ⟨b1, 0, none⟩), .pointer (some ⟨b2, 0, none⟩)], .pointer (some ⟨w.heap.size, 0, none⟩), undef, .slice none 0 0, .pointer (some ⟨Bx, 0, none⟩), .func (.func 43) #[] #[.pointer (some ⟨b1, 0, none⟩), .pointer (some ⟨b2, 0, none⟩)], .agg #[.int .i64 x.at_, .int .i64 x.len], undef, undef, undef, undef, undef], defers := [] })
    (fun x a' => by
      intro s X Y row h hg hr
      obtain ⟨Bx, h1, h2, h3⟩ := h
      exact ⟨Bx, h1, blk_kept h2 hg (fun r e => (hr r e).2), h3⟩) ?assign ?body ?done ?stop
  case assign =>
    intro l pre x W K hi hK
    have hi' := hi
    obtain ⟨v, hv, -, hB⟩ := hi'
    have hlt := lt_of_block hv
    unfold Pfx.v
    gi_wp2
    refine hK _ _ ((KeepsOthers.alloc _ _).from _) (fun g => ⟨KP.of (ext_alloc _ _) fun b ho => ap_g2 g (ext_alloc _ _) ho, ap_g3 g (ext_alloc _ _)⟩) (apI_own w w.heap.size (Nat.le_refl _) _ _ _ none hi (World.grownBy_alloc _ _ _) (fun r e => by cases e)) ⟨W.heap.size, hlt, block_new _ _, rfl⟩
  case body =>
    rintro l pre x a' W hl ⟨r, hr⟩ ⟨v, hv, hrow, hB⟩ ⟨Bx, hBx, bX, rfl⟩ hlt
    have x0 := blk_cell (o := 0) bX rfl
    have x1 := blk_cell (o := 1) bX rfl
    have s0 := blk_cell (o := 0) hv rfl
    have sf : ∀ o, W.frozen? ⟨w.heap.size, o, none⟩ = false := fun o => blk_free hv
    have hle := lt_of_block hv
    have hz := hB.size
    have hvB : Boxed W w.heap.size 24 v := hv
    gi_wp2_with (gi_at_builtin; refine wpListIn_append_own_at _ rfl _ _ 24 rfl (w.heap.size + 1) 23 i0 (.agg #[.int .i64 0, .int .i64 0]) 2 16 Try.underlying24 hi hz0 hz1 hz2 rfl (by decide) v pre.length (pre.flatMap pcells) rfl (hrow.alloc _) ⟨W.heap.size, 0, none⟩ 1 1 (pcells x) rfl rfl ?c1 ?c2 (by unfold maxLen; omega) (by omega) (by simp; omega) ?_; rotate_right; intro v' w3 hown' hgrow _ hvb; obtain ⟨g', cap', rfl⟩ := ownsRow_succ hown'; have hv1 : Boxed w3 w.heap.size 24 v := (hvB.alloc _).kept hgrow (hvB.not_row (by decide) hrow); have hc1 := hv1.cell; have hf1 := hv1.frozen)
    case c1 => exact cells_new _ _ _
    case c2 => intro u hu; simp [pcells] at hu; rcases hu with rfl | rfl <;> rfl
    have hkp : ∀ b, b < W.heap.size → ¬ apOwn w.heap.size W b → (w3.setCell ⟨w.heap.size, 0, none⟩ (.slice (some ⟨g', 0, none⟩) (pre.length + 1) cap')).heap[b]? = W.heap[b]? := fun b hb hno => by
      rw [block_setCell_ne _ (by intro e; exact hno (.inl e.symm)), hgrow.block b (by simp; omega) (fun e => hno (.inr ⟨v, hvB.cell, e.symm⟩)), Below.heap_alloc _ _ _ hb]
    have hb3 : blk (w3.setCell ⟨w.heap.size, 0, none⟩ (.slice (some ⟨g', 0, none⟩) (pre.length + 1) cap')) w.heap.size #[.slice (some ⟨g', 0, none⟩) (pre.length + 1) cap'] 24 := hv1.set _
    have hsz3 := hgrow.size
    simp only [World.size_alloc] at hsz3 hvb
    have hg'lt : w.heap.size < g' ∧ g' < w3.heap.size := by
      have := hown'.lt g' rfl
      omega
    have hown3 : (w3.setCell ⟨w.heap.size, 0, none⟩ (.slice (some ⟨g', 0, none⟩) (pre.length + 1) cap')).ownsRow (w.heap.size + 1) 23 2 (.slice (some ⟨g', 0, none⟩) (pre.length + 1) cap') (pre.length + 1) (pre.flatMap pcells ++ pcells x) :=
      hown'.kept (grownBy_setCell' w3 w.heap.size _) (.inr (hv1.not_row (by decide) hown').symm)
    have hB3 : Below w.heap.size w (w3.setCell ⟨w.heap.size, 0, none⟩ (.slice (some ⟨g', 0, none⟩) (pre.length + 1) cap')) :=
      ((hB.alloc (by omega) _).grown hgrow (by simp; omega) (fun k e => by have := hrow.lt k e; omega)).setCell (p := ⟨w.heap.size, 0, none⟩) (Nat.le_refl _) _
    refine ⟨?_, fun _ => ⟨⟨?_, ?_, ?_⟩, ⟨_, hb3, fun r e => by cases e; exact ⟨hg'lt.1, by rw [World.size_setCell]; exact hg'lt.2⟩⟩⟩, ⟨_, hb3, by simpa using hown3, hB3⟩⟩
    · refine (((KeepsOthers.alloc W _).trans (KeepsOthers.of_grownBy hgrow fun j o ej hj => ?_)).trans (KeepsOthers.setCell _ _ _)).from _
      rcases (hrow.alloc (.cells #[.int .i64 x.at_, .int .i64 x.len] 23)).2 with ⟨rfl, _⟩ | ⟨g, cap, cur, rfl, _, hgb, _⟩
      · cases ej
      · cases ej
        rw [hgb] at hj
        cases hj
        rfl
    · rw [World.size_setCell]; omega
    · intro b c t f hno hc
      exact (hkp b (lt_of_block hc) hno).trans hc
    · intro b hb ho
      rcases ho with rfl | ⟨u, hu, hub⟩
      · exact .inl rfl
      · have := blk_cell (o := 0) hb3 rfl
        rw [hu] at this
        cases this
        rcases hvb with e | e
        · exact .inr ⟨v, hvB.cell, by rw [← e]; exact hub⟩
        · have hub' : (Value.slice (some ⟨g', 0, none⟩) (pre.length + 1) cap').ownBlock = some b := hub
          rw [e] at hub'; cases hub'; omega
  case done =>
    rintro D ys W hD rfl ⟨v, hv, hrow, hB⟩ hK
    have s0 := blk_cell (o := 0) hv rfl
    gi_wp2
    refine ⟨by simp, .inl ⟨_, _, rfl, run_takeDeferred hK, ?_⟩⟩
    refine ⟨v, ?_, v, rfl, ownsRow_putObj hrow _ hK rfl, hB.trans (belowK_b (w := w) (Nat.le_refl _) W D _ _ (by simp at hD; omega) hK rfl rfl)⟩
    simp [results, Try.f45, go_sem]
  case stop =>
    rintro D c pre W hD hpre hf hK
    exact hf.elim
end Go.Proofs.Ytflbpkgnadjokaa
