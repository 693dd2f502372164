/- space: down, walk. -/
import Derived.Test.YtflbpkgnadjokaaSpace1
import Derived.RangeFuncNested
import Derived.RangeFuncBound
import Derived.RangeFuncCalls
import Derived.RangeFuncLeaves
import Derived.Shelf.Abstract
import Derived.Shelf.RegionOpen
import Derived.OwnWalkIn
import Derived.TacticsInMore
import Derived.LoopNIn
import Derived.LoopIn
namespace Go.Proofs.Ytflbpkgnadjokaa
open Go Go.RowKit Go.Proofs Go.Shelf
attribute [local go_sem] Oper.semAt_some
def Pfx.low (p : Pfx) : Pfx := ⟨p.at_, p.len + 1⟩
def Pfx.high (p : Pfx) : Pfx := ⟨p.at_ + szI (p.len + 1), p.len + 1⟩
def Pfx.right (p : Pfx) : Bool := rightB p.at_ p.len
def Pfx.v (p : Pfx) : Value := .agg #[.int .i64 p.at_, .int .i64 p.len]
def holesF (us : List Pfx) : Nat → Pfx → List Pfx
  | 0, p => if us.any p.meets then [] else [p]
  | n + 1, p => if us.any p.meets then (if us.contains p then [] else holesF us n p.low ++ holesF us n p.high) else [p]
theorem right_of {a l : Int} (h0 : 0 ≤ l) (h1 : l ≤ 16) (h2 : 0 ≤ a) (h3 : a ≤ 65535) (h4 : a % szI l = 0) : rightB a l = true := by
  unfold rightB; rw [chk_in h0 h1 h2 h3]; unfold szI at h4; simp [h4]
theorem szI_half {l : Int} (h0 : 0 ≤ l) (h1 : l < 16) : szI l = 2 * szI (l + 1) := by
  unfold szI
  have : (16 - l).toNat = (16 - (l + 1)).toNat + 1 := by omega
  rw [this, Int.pow_succ]
  omega
theorem szI_dvd {l m : Int} (h0 : 0 ≤ m) (h1 : m ≤ l) (h2 : l ≤ 16) : ∃ k : Int, szI m = szI l * k ∧ 1 ≤ k := by
  refine ⟨2 ^ (l - m).toNat, ?_, ?_⟩
  · unfold szI
    rw [← Int.pow_add]
    congr 1
    omega
  · have h3 := Nat.one_le_two_pow (n := (l - m).toNat)
    have h4 : ((2 ^ (l - m).toNat : Nat) : Int) = (2 : Int) ^ (l - m).toNat := by simp
    omega
theorem right_fit {a l : Int} (h : rightB a l = true) : a + szI l ≤ 65536 := by
  obtain ⟨g1, g2, g3, g4, g5⟩ := right_bd h
  obtain ⟨k, hk, hk1⟩ := szI_dvd (Int.le_refl 0) g1 g2
  have h0 : szI 0 = 65536 := by decide
  rw [h0] at hk
  have hs := szI_bd g1
  have hd : szI l ∣ 65536 - a := by
    refine Int.dvd_sub ⟨k, hk⟩ (Int.dvd_of_emod_eq_zero g5)
  have := Int.le_of_dvd (by omega) hd
  omega
theorem low_right {p : Pfx} (h : p.right = true) (hl : p.len < 16) : p.low.right = true := by
  obtain ⟨g1, g2, g3, g4, g5⟩ := right_bd h
  refine right_of (by simp [Pfx.low]; omega) (by simp [Pfx.low]; omega) g3 g4 ?_
  show p.at_ % szI (p.len + 1) = 0
  rw [szI_half g1 hl] at g5
  exact Int.emod_eq_zero_of_dvd (Int.dvd_trans ⟨2, by omega⟩ (Int.dvd_of_emod_eq_zero g5))
theorem high_right {p : Pfx} (h : p.right = true) (hl : p.len < 16) : p.high.right = true := by
  obtain ⟨g1, g2, g3, g4, g5⟩ := right_bd h
  have hf := right_fit h
  have hh := szI_half g1 hl
  have hs := szI_bd (n := p.len + 1) (by omega)
  refine right_of (by simp [Pfx.high]; omega) (by simp [Pfx.high]; omega) (by simp [Pfx.high]; omega) (by simp [Pfx.high]; omega) ?_
  show (p.at_ + szI (p.len + 1)) % szI (p.len + 1) = 0
  rw [Int.add_emod_right]
  rw [hh] at g5
  exact Int.emod_eq_zero_of_dvd (Int.dvd_trans ⟨2, by omega⟩ (Int.dvd_of_emod_eq_zero g5))
/-- What a round leaves alone: cells of blocks that are not the loop's own. -/
structure KP (own : World → Nat → Prop) (W W' : World) : Prop where
  size : W.heap.size ≤ W'.heap.size
  cells : ∀ b c t f, ¬ own W b → W.heap[b]? = some (.cells c t f) → W'.heap[b]? = some (.cells c t f)
  own : ∀ b, b < W.heap.size → own W' b → own W b
theorem lt_of_block {w : World} {b : Nat} {o : Obj} (h : w.heap[b]? = some o) : b < w.heap.size := by
  rcases Nat.lt_or_ge b w.heap.size with h' | h'
  · exact h'
  · simp [Array.getElem?_eq_none h'] at h
theorem KP.trans {own : World → Nat → Prop} {a b c : World} (h : KP own a b) (k : KP own b c) : KP own a c :=
  ⟨Nat.le_trans h.size k.size, fun i x t f hn hc => k.cells i x t f (fun ho => hn (h.own i (lt_of_block hc) ho)) (h.cells i x t f hn hc), fun i hi ho => h.own i hi (k.own i (Nat.lt_of_lt_of_le hi h.size) ho)⟩
theorem KP.of {own : World → Nat → Prop} {a b : World} (h : Ext a b) (ho : ∀ i, own b i → own a i) : KP own a b :=
  ⟨h.size, fun i x t f _ hc => block_ext h hc, fun i _ hi => ho i hi⟩
theorem KP.cell {own : World → Nat → Prop} {a b : World} (h : KP own a b) {i o : Nat} {v : Value} (hn : ¬ own a i) (hc : a.cell? ⟨i, o, none⟩ = some v) : b.cell? ⟨i, o, none⟩ = some v := by
  have hlt := lt_of_cell hc
  obtain ⟨x, hx⟩ : ∃ x, a.heap[i]? = some x := ⟨_, Array.getElem?_eq_getElem hlt⟩
  cases x with
  | cells c t f =>
    have := h.cells i c t f hn hx
    simp only [World.cell?, hx, this] at hc ⊢
    exact hc
  | _ => simp [World.cell?, hx] at hc
theorem Sl.kp {α : Type} {own : World → Nat → Prop} {n₀ : Nat} {w w' : World} {k : Nat} {R : List Value → α → Prop} {ao : Option Addr} {cap : Nat} {l : List α} (h : Sl (fun b => b < n₀) w k R ao cap l) (ho : ∀ b, own w b → n₀ ≤ b) (hb : KP own w w') : Sl (fun b => b < n₀) w' k R ao cap l := by
  refine ⟨h.cap_le, h.cap_max, fun i hi => ?_⟩
  obtain ⟨b, off, cs, h1, h2, h3, h4, h5⟩ := h.elem i hi
  exact ⟨b, off, cs, h1, h2, h3, h4, fun j hj => hb.cell (fun hx => by have := ho b hx; omega) (h5 j hj)⟩
theorem room_of_none {F : Fence} (hd : F.depth = none) (k : Nat) : F.room k := fun d h => by rw [hd] at h; cases h
theorem RoundIn.anyDepth {F : Fence} (hd : F.depth = none) {m m' : Nat} {P : Program} {l : Nat} {f : FuncId} {tmps : Array Value} {assign body : Code} {w : World} {R : Ending → World → Prop}
    (h : RoundIn F m P l f tmps assign body w R) : RoundIn F m' P l f tmps assign body w R := ⟨h.1, fun c cs _ => h.2 c cs (room_of_none hd _)⟩
theorem YieldAt.anyDepth {F : Fence} (hd : F.depth = none) {m : Nat} (m' : Nat) {P : Program} {l : Nat} {args : Array Value} {W : World} {R : Ending → World → Prop} (h : YieldAt F m P l args W R) : YieldAt F m' P l args W R := by
  obtain ⟨fn, tmps, assign, body, hy, hR⟩ := h
  exact ⟨fn, tmps, assign, body, hy, RoundIn.anyDepth hd hR⟩
def DownEnd (own : World → Nat → Prop) (J Jx : List Pfx → World → Prop) (pre L : List Pfx) (W : World) (e : Ending) (W' : World) : Prop :=
  (e = .returned (.bool true) ∧ J (pre ++ L) W' ∧ KP own W W') ∨ (e = .returned (.bool false) ∧ ∃ q, q <+: L ∧ Jx (pre ++ q) W')
/-- What is asked of a loop's state and of its rounds. -/
structure LoopOK (own : World → Nat → Prop) (n₀ N l : Nat) (J Jx : List Pfx → World → Prop) : Prop where
  ext : ∀ s A B, J s A → Ext A B → J s B
  extx : ∀ s A B, Jx s A → Ext A B → Jx s B
  own1 : ∀ s A b, J s A → own A b → n₀ ≤ b ∧ b < A.heap.size
  own2 : ∀ s A B b, J s A → Ext A B → own B b → own A b
  round : ∀ m pre (x : Pfx) W, J pre W → pre.length < N → YieldAt Fence.wide m Try.prog l #[x.v] W fun e W' =>
      (e = .returned (.bool true) ∧ J (pre ++ [x]) W' ∧ KP own W W') ∨ (e = .returned (.bool false) ∧ Jx (pre ++ [x]) W')
theorem LoopOK.kp {own : World → Nat → Prop} {n₀ N l : Nat} {J Jx : List Pfx → World → Prop} (hL : LoopOK own n₀ N l J Jx) {s : List Pfx} {A B : World} (hj : J s A) (hx : Ext A B) : KP own A B := KP.of hx fun b => hL.own2 s A B b hj hx
section
variable (own : World → Nat → Prop) (l n₀ N : Nat) (us : List Pfx) (uo : Option Addr) (ucap : Nat) (J Jx : List Pfx → World → Prop) (hL : LoopOK own n₀ N l J Jx)
include hL
set_option maxRecDepth 100000 in
set_option maxHeartbeats 2000000 in
theorem down_free (p : Pfx) (m : Nat) (pre : List Pfx) (W : World) (hM : us.any p.meets = false) (hs : Sl (fun b => b < n₀) W 2 Pfx.R uo ucap us) (hj : J pre W) (hN : pre.length + 1 ≤ N) :
    CallsIn Fence.wide m Try.prog 44 #[p.v, .slice uo us.length ucap, .func (.yield l) #[] #[]] W (DownEnd own J Jx pre [p] W) := by
  have hm := fun W' (h : Sl (fun b => b < n₀) W' 2 Pfx.R uo ucap us) => spaceMeets_any us uo ucap p W' h
  rw [hM] at hm
  replace hm := Lib.hid hm
  clear hM
  unfold Pfx.v
  refine callsIn_of_wp Try.func44 rfl trivial ?_ rfl
  simp only [Try.ntmps44, List.size_toArray, List.length_cons, List.length_nil, Nat.reduceAdd, Nat.reduceSub, Array.replicate_succ, Array.replicate_zero, List.push_toArray, List.append_toArray, List.nil_append, List.cons_append]
  gi_wp2_with fail
  refine ⟨trivial, fun h => (by cases h), ?_⟩
  refine (callsIn_wide.2 (hm.out _ (hs.ext (ext_alloc _ _)))).mono ?_
  rintro e w1 ⟨rfl, hw1⟩
  obtain ⟨hcw1, hfw1⟩ := bcell hw1
  have hzw1 := bsize hw1
  (try simp only [World.size_alloc, World.size_setCell, World.size_drew, World.heap_drewN] at hcw1 hfw1 hzw1)
  have hx1 := ext_trans (ext_alloc _ _) hw1
  obtain ⟨fn, tmps, assign, body, hy, hRr⟩ := hL.round (m - 1) pre p w1 (hL.ext _ _ _ hj hx1) (by omega)
  unfold Pfx.v at hy
  have hb1 := hL.kp hj hx1
  gi_wp2_with fail
  refine ⟨fun h => (by cases h), ?_⟩
  refine hRr.mono ?_
  rintro e w2 (⟨rfl, hj2, hb2⟩ | ⟨rfl, hx2⟩)
  · gi_wp2_with fail
    go_ret
    exact .inl ⟨rfl, hj2, hb1.trans hb2⟩
  · gi_wp2_with fail
    go_ret
    exact .inr ⟨rfl, [p], List.prefix_refl _, hx2⟩
set_option maxRecDepth 100000 in
set_option maxHeartbeats 2000000 in
theorem down_in : ∀ (n : Nat) (p : Pfx) (m : Nat) (pre : List Pfx) (W : World), 16 - p.len = (n : Int) → p.right = true → Sl (fun b => b < n₀) W 2 Pfx.R uo ucap us → J pre W → pre.length + (holesF us n p).length ≤ N →
      CallsIn Fence.wide m Try.prog 44 #[p.v, .slice uo us.length ucap, .func (.yield l) #[] #[]] W (DownEnd own J Jx pre (holesF us n p) W) := by
  intro n
  induction n with
  | zero =>
    intro p m pre W hn hr hs hj hN
    cases hM : us.any p.meets
    · unfold holesF at hN ⊢
      rw [hM] at hN ⊢
      simp only [Bool.false_eq_true, if_false, List.length_cons, List.length_nil] at hN ⊢
      exact down_free own l n₀ N us uo ucap J Jx hL p m pre W hM hs hj (by omega)
    · unfold holesF
      rw [hM, if_pos rfl]
      have hm := fun W' (h : Sl (fun b => b < n₀) W' 2 Pfx.R uo ucap us) => spaceMeets_any us uo ucap p W' h
      rw [hM] at hm
      have hh := halves_any p.at_ p.len
      have hc : chk p.at_ p.len = 0 := by have := hr; unfold Pfx.right rightB at this; simpa using this
      have hl : p.len = 16 := by omega
      have hv : halvesV p.at_ p.len = .tuple #[.agg #[.int .i64 0, .int .i64 0], .agg #[.int .i64 0, .int .i64 0], .int .i64 3] := by unfold halvesV zeroP; rw [if_pos hc, if_pos hl]
      rw [hv] at hh
      clear hv hc hM hN hl hn hr
      replace hm := Lib.hid hm
      replace hh := Lib.hid hh
      unfold Pfx.v
      refine callsIn_of_wp Try.func44 rfl trivial ?_ rfl
      simp only [Try.ntmps44, List.size_toArray, List.length_cons, List.length_nil, Nat.reduceAdd, Nat.reduceSub, Array.replicate_succ, Array.replicate_zero, List.push_toArray, List.append_toArray, List.nil_append, List.cons_append]
      gi_wp2_with fail
      refine ⟨trivial, fun h => (by cases h), ?_⟩
      refine (callsIn_wide.2 (hm.out _ (hs.ext (ext_alloc _ _)))).mono ?_
      rintro e w1 ⟨rfl, hw1⟩
      obtain ⟨hcw1, hfw1⟩ := bcell hw1
      have hzw1 := bsize hw1
      (try simp only [World.size_alloc, World.size_setCell, World.size_drew, World.heap_drewN] at hcw1 hfw1 hzw1)
      have hx1 := ext_trans (ext_alloc _ _) hw1
      have l1 : W.heap.size < w1.heap.size := by omega
      gi_wp2_with fail
      refine ⟨trivial, fun h => (by cases h), ?_⟩
      refine (callsIn_wide.2 (hh.out _)).mono ?_
      rintro e w2 ⟨rfl, hw2⟩
      obtain ⟨hcw2, hfw2⟩ := bcell hw2
      have hzw2 := bsize hw2
      (try simp only [World.size_alloc, World.size_setCell, World.size_drew, World.heap_drewN] at hcw2 hfw2 hzw2)
      have l2 : W.heap.size < w2.heap.size := by omega
      gi_wp2_with fail
      refine ⟨trivial, ?_⟩
      gi_wp2_with fail
      go_ret
      exact .inl ⟨rfl, by rw [List.append_nil]; exact hL.ext _ _ _ hj (ext_trans hx1 (ext_trans hw2 (ext_trans (ext_alloc _ _) (ext_alloc _ _)))), hL.kp hj (ext_trans hx1 (ext_trans hw2 (ext_trans (ext_alloc _ _) (ext_alloc _ _))))⟩
  | succ n ih =>
    intro p m pre W hn hr hs hj hN
    cases hM : us.any p.meets
    · unfold holesF at hN ⊢
      rw [hM] at hN ⊢
      simp only [Bool.false_eq_true, if_false, List.length_cons, List.length_nil] at hN ⊢
      exact down_free own l n₀ N us uo ucap J Jx hL p m pre W hM hs hj (by omega)
    · have hm := fun W' (h : Sl (fun b => b < n₀) W' 2 Pfx.R uo ucap us) => spaceMeets_any us uo ucap p W' h
      rw [hM] at hm
      have hh := halves_any p.at_ p.len
      have hc : chk p.at_ p.len = 0 := by have := hr; unfold Pfx.right rightB at this; simpa using this
      have hl : p.len < 16 := by omega
      have hv : halvesV p.at_ p.len = .tuple #[.agg #[.int .i64 p.at_, .int .i64 (p.len + 1)], .agg #[.int .i64 (p.at_ + szI (p.len + 1)), .int .i64 (p.len + 1)], .int .i64 0] := by unfold halvesV; rw [if_pos hc, if_neg (by omega)]
      rw [hv] at hh
      have hct := fun W' (h : Sl (fun b => b < n₀) W' 2 Pfx.R uo ucap us) => contains_P p us uo ucap W' h
      unfold holesF at hN ⊢
      rw [hM, if_pos rfl] at hN ⊢
      clear hv hc hM
      replace hm := Lib.hid hm
      replace hh := Lib.hid hh
      cases hC : us.contains p
      · rw [hC] at hct hN
        simp only [Bool.false_eq_true, if_false, List.length_append] at hN ⊢
        replace hct := Lib.hid hct
        have ihl := fun m' pre' W' => ih p.low m' pre' W' (by simp [Pfx.low]; omega) (low_right hr hl)
        have ihr := fun m' pre' W' => ih p.high m' pre' W' (by simp [Pfx.high]; omega) (high_right hr hl)
        obtain ⟨L, hLL⟩ : ∃ L, L = holesF us n p.low := ⟨_, rfl⟩
        obtain ⟨M, hMM⟩ : ∃ M, M = holesF us n p.high := ⟨_, rfl⟩
        rw [← hLL] at ihl hN ⊢
        rw [← hMM] at ihr hN ⊢
        simp only [Pfx.v, Pfx.low] at ihl
        simp only [Pfx.v, Pfx.high] at ihr
        replace ihl := Lib.hid ihl
        replace ihr := Lib.hid ihr
        clear ih hLL hMM hC hl hn hr
        unfold Pfx.v
        refine callsIn_of_wp Try.func44 rfl trivial ?_ rfl
        simp only [Try.ntmps44, List.size_toArray, List.length_cons, List.length_nil, Nat.reduceAdd, Nat.reduceSub, Array.replicate_succ, Array.replicate_zero, List.push_toArray, List.append_toArray, List.nil_append, List.cons_append]
        gi_wp2_with fail
        refine ⟨trivial, fun h => (by cases h), ?_⟩
        refine (callsIn_wide.2 (hm.out _ (hs.ext (ext_alloc _ _)))).mono ?_
        rintro e w1 ⟨rfl, hw1⟩
        obtain ⟨hcw1, hfw1⟩ := bcell hw1
        have hzw1 := bsize hw1
        (try simp only [World.size_alloc, World.size_setCell, World.size_drew, World.heap_drewN] at hcw1 hfw1 hzw1)
        have hx1 := ext_trans (ext_alloc _ _) hw1
        have l1 : W.heap.size < w1.heap.size := by omega
        gi_wp2_with fail
        refine ⟨trivial, fun h => (by cases h), ?_⟩
        refine (callsIn_wide.2 (hh.out _)).mono ?_
        rintro e w2 ⟨rfl, hw2⟩
        obtain ⟨hcw2, hfw2⟩ := bcell hw2
        have hzw2 := bsize hw2
        (try simp only [World.size_alloc, World.size_setCell, World.size_drew, World.heap_drewN] at hcw2 hfw2 hzw2)
        have hx2 := ext_trans hx1 hw2
        have l2 : W.heap.size < w2.heap.size := by omega
        gi_wp2_with fail
        refine ⟨trivial, fun h => (by cases h), ?_⟩
        refine (callsIn_wide.2 (hct.out _ ((hs.ext hx2).ext (ext_trans (ext_alloc _ _) (ext_alloc _ _))))).mono ?_
        rintro e w3 ⟨rfl, hw3⟩
        obtain ⟨hcw3, hfw3⟩ := bcell hw3
        have hzw3 := bsize hw3
        (try simp only [World.size_alloc, World.size_setCell, World.size_drew, World.heap_drewN] at hcw3 hfw3 hzw3)
        have hx3 := ext_trans hx2 (ext_trans (ext_trans (ext_alloc _ _) (ext_alloc _ _)) hw3)
        have hj3 := hL.ext _ _ _ hj hx3
        have hk3 := hL.kp hj hx3
        have l3 : w2.heap.size < w3.heap.size := by omega
        have l4 : w2.heap.size + 1 < w3.heap.size := by omega
        have l5 : W.heap.size < w3.heap.size := by omega
        have d0 : w3.cell? ⟨w2.heap.size, 0, none⟩ = some (.int .i64 p.at_) := by rw [hcw3 _ _ (by omega)]; go_simp
        have d1 : w3.cell? ⟨w2.heap.size, 1, none⟩ = some (.int .i64 (p.len + 1)) := by rw [hcw3 _ _ (by omega)]; go_simp
        have e0 : w3.cell? ⟨w2.heap.size + 1, 0, none⟩ = some (.int .i64 (p.at_ + szI (p.len + 1))) := by rw [hcw3 _ _ (by omega)]; go_simp
        have e1 : w3.cell? ⟨w2.heap.size + 1, 1, none⟩ = some (.int .i64 (p.len + 1)) := by rw [hcw3 _ _ (by omega)]; go_simp
        have no : ¬ own w3 (w2.heap.size + 1) := fun ho => by
          have := (hL.own1 _ _ _ hj (hL.own2 _ _ _ _ hj hx3 ho)).2
          omega
        have hs3 := hs.ext hx3
        clear hcw3 hfw3 hcw2 hfw2 hcw1 hfw1
        gi_wp2_with fail
        refine ⟨trivial, fun h => (by cases h), ?_⟩
        refine (ihl.out _ pre _ hs3 hj3 (by omega)).mono ?_
        rintro e w4 (⟨rfl, hj4, hk4⟩ | ⟨rfl, q, hq, hx4⟩)
        · have hs4 := hs3.kp (fun b hb => (hL.own1 _ _ _ hj3 hb).1) hk4
          have e0' := hk4.cell no e0
          have e1' := hk4.cell no e1
          clear e0 e1 d0 d1
          gi_wp2_with fail
          refine ⟨trivial, fun h => (by cases h), ?_⟩
          refine (ihr.out _ _ _ hs4 hj4 (by simp; omega)).mono ?_
          rintro e w5 (⟨rfl, hj5, hk5⟩ | ⟨rfl, q, hq, hx5⟩)
          · gi_wp2_with fail
            go_ret
            exact .inl ⟨rfl, by rw [← List.append_assoc]; exact hj5, hk3.trans (hk4.trans hk5)⟩
          · gi_wp2_with fail
            go_ret
            obtain ⟨r, hr⟩ := hq
            exact .inr ⟨rfl, L ++ q, ⟨r, by rw [← hr]; simp⟩, by rw [← List.append_assoc]; exact hx5⟩
        · gi_wp2_with fail
          refine ⟨trivial, ?_⟩
          gi_wp2_with fail
          go_ret
          exact .inr ⟨rfl, q, hq.trans (List.prefix_append _ _), hx4⟩
      · rw [hC] at hct
        rw [if_pos rfl]
        replace hct := Lib.hid hct
        clear ih hC hl hn hr hN
        unfold Pfx.v
        refine callsIn_of_wp Try.func44 rfl trivial ?_ rfl
        simp only [Try.ntmps44, List.size_toArray, List.length_cons, List.length_nil, Nat.reduceAdd, Nat.reduceSub, Array.replicate_succ, Array.replicate_zero, List.push_toArray, List.append_toArray, List.nil_append, List.cons_append]
        gi_wp2_with fail
        refine ⟨trivial, fun h => (by cases h), ?_⟩
        refine (callsIn_wide.2 (hm.out _ (hs.ext (ext_alloc _ _)))).mono ?_
        rintro e w1 ⟨rfl, hw1⟩
        obtain ⟨hcw1, hfw1⟩ := bcell hw1
        have hzw1 := bsize hw1
        (try simp only [World.size_alloc, World.size_setCell, World.size_drew, World.heap_drewN] at hcw1 hfw1 hzw1)
        have hx1 := ext_trans (ext_alloc _ _) hw1
        have l1 : W.heap.size < w1.heap.size := by omega
        gi_wp2_with fail
        refine ⟨trivial, fun h => (by cases h), ?_⟩
        refine (callsIn_wide.2 (hh.out _)).mono ?_
        rintro e w2 ⟨rfl, hw2⟩
        obtain ⟨hcw2, hfw2⟩ := bcell hw2
        have hzw2 := bsize hw2
        (try simp only [World.size_alloc, World.size_setCell, World.size_drew, World.heap_drewN] at hcw2 hfw2 hzw2)
        have hx2 := ext_trans hx1 hw2
        have l2 : W.heap.size < w2.heap.size := by omega
        gi_wp2_with fail
        refine ⟨trivial, fun h => (by cases h), ?_⟩
        refine (callsIn_wide.2 (hct.out _ ((hs.ext hx2).ext (ext_trans (ext_alloc _ _) (ext_alloc _ _))))).mono ?_
        rintro e w3 ⟨rfl, hw3⟩
        obtain ⟨hcw3, hfw3⟩ := bcell hw3
        have hzw3 := bsize hw3
        (try simp only [World.size_alloc, World.size_setCell, World.size_drew, World.heap_drewN] at hcw3 hfw3 hzw3)
        have hx3 := ext_trans hx2 (ext_trans (ext_trans (ext_alloc _ _) (ext_alloc _ _)) hw3)
        gi_wp2_with fail
        go_ret
        exact .inl ⟨rfl, by simpa using hL.ext _ _ _ hj hx3, hL.kp hj hx3⟩
end
end Go.Proofs.Ytflbpkgnadjokaa
