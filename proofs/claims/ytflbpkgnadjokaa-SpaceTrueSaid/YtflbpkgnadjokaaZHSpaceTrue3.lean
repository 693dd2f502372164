/- Texts of this work, joined: Space1, Space2, Space3, Space4, Space5, Holes, SpaceR1, Holes2, Holes3, SpaceR3, BrgT, Holes4, Space6, Own, Space7, SpS, SpD, Miz, Space8, Space9, SpaceA, SpaceR2, SpaceB. -/
import Derived.Test.YtflbpkgnadjokaaZHSpaceTrue2
import Derived.RangeFuncNested
import Derived.RangeFuncBound
import Derived.RangeFuncCalls
import Derived.RangeFuncLeaves
import Derived.Shelf.Abstract
import Derived.Shelf.RegionOpen
import Derived.OwnWalkIn
import Derived.TacticsInMore
import Derived.LoopNIn
import Derived.LoopIn
import Derived.Maps.OwnIn
import Derived.Maps.AppendAt
import Derived.Laws.AppendOwn
import Derived.Test.YtflbpkgnadjokaaShelf
import Derived.Deep.RegionLaw
import Derived.Lib.SliceRun
set_option linter.unusedSimpArgs false
set_option linter.unusedVariables false
namespace Go.Proofs.Ytflbpkgnadjokaa
open Go Go.RowKit Go.Proofs
set_option maxRecDepth 100000
def Pfx.meets (p q : Pfx) : Bool := meetP p.at_ p.len q.at_ q.len
theorem meets1_any (b : Nat) (p q : Pfx) (w : World) (h0 : w.cell? ⟨b, 0, none⟩ = some (.int .i64 p.at_)) (h1 : w.cell? ⟨b, 1, none⟩ = some (.int .i64 p.len)) :
    Calls Try.prog 49 #[.agg #[.int .i64 q.at_, .int .i64 q.len], .pointer (some ⟨b, 0, none⟩)] w fun e w' => e = .returned (.bool (p.meets q)) ∧ Ext w w' := by
  have hlt := lt_of_cell h0
  have hm := meets_any p.at_ p.len q.at_ q.len
  obtain ⟨r, hr⟩ : ∃ r, r = p.meets q := ⟨_, rfl⟩
  unfold Pfx.meets at hr
  rw [← hr] at hm
  unfold Pfx.meets
  rw [← hr]
  clear hr
  replace hm := Lib.hid hm
  go_enter Try.func49, Try.ntmps49
  go_wp2_with fail
  refine (hm.out _).mono ?_
  rintro e w1 ⟨rfl, hw1⟩
  obtain ⟨hcw1, hfw1⟩ := bcell hw1
  have hzw1 := bsize hw1
  (try simp only [World.size_alloc, World.size_setCell, World.size_drew, World.heap_drewN] at hcw1 hfw1 hzw1)
  go_wp2_with fail
  go_ret
  refine ⟨rfl, Bel.bel (B := _) ?_⟩
  (repeat (first | with_reducible assumption | with_reducible exact Bel.refl _ | with_reducible refine Bel.alloc ?_ _ | with_reducible refine Bel.drewN ?_ _ | with_reducible refine Bel.drew ?_ | (with_reducible refine Bel.setCell0 ?_ ?_ _; rotate_left; (first | omega | (simp; done) | (simp; omega))) | (with_reducible refine Bel.setCell ?_ (p := _) ?_ _; rotate_left; (first | (simp; done) | omega | (simp; omega))) | refine Bel.call ?_ (by assumption) | (refine EX.bel ?_ (by assumption) ?_; rotate_left; (first | omega | (simp; omega)))))
theorem pred_meets (b : Nat) (p : Pfx) (us : List Pfx) (w : World) (h0 : w.cell? ⟨b, 0, none⟩ = some (.int .i64 p.at_)) (h1 : w.cell? ⟨b, 1, none⟩ = some (.int .i64 p.len)) :
    PredP Try.prog 49 #[.pointer (some ⟨b, 0, none⟩)] Pfx.R (fun q => p.meets q) us w := by
  intro W hW x _ cs hR
  unfold Pfx.R at hR
  subst hR
  exact meets1_any b p x W (keepCell hW h0) (keepCell hW h1)
theorem spaceMeets_any {A : Area} (us : List Pfx) (uo : Option Addr) (ucap : Nat) (p : Pfx) (w : World) (h : Sl A w 2 Pfx.R uo ucap us) :
    Calls Try.prog 35 #[.slice uo us.length ucap, .agg #[.int .i64 p.at_, .int .i64 p.len]] w fun e w' => e = .returned (.bool (us.any fun q => p.meets q)) ∧ Ext w w' := by
  have hc := fun W (hs : Sl A W 2 Pfx.R uo ucap us) h0 h1 => containsFunc_P 49 #[.pointer (some ⟨w.heap.size, 0, none⟩)] (enters_of Try.func49 (by kernel_rfl) rfl) (fun q => p.meets q) us uo ucap W hs (pred_meets w.heap.size p us W h0 h1)
  obtain ⟨r, hr⟩ : ∃ r, r = us.any fun q => p.meets q := ⟨_, rfl⟩
  rw [← hr] at hc ⊢
  clear hr
  replace hc := Lib.hid hc
  go_enter Try.func35, Try.ntmps35
  go_wp2_with fail
  refine (hc.out _ (h.ext (ext_alloc _ _)) (by simp) (by simp)).mono ?_
  rintro e w1 ⟨rfl, hx1⟩
  go_wp2_with fail
  go_ret
  exact ⟨rfl, ext_trans (ext_alloc _ _) hx1⟩
end Go.Proofs.Ytflbpkgnadjokaa
namespace Go.Proofs.Ytflbpkgnadjokaa
open Go Go.RowKit Go.Proofs Go.Shelf
set_option maxRecDepth 100000
attribute [local go_sem] Oper.semAt_some
def Pfx.low (p : Pfx) : Pfx := ⟨p.at_, p.len + 1⟩
def Pfx.high (p : Pfx) : Pfx := ⟨p.at_ + szI (p.len + 1), p.len + 1⟩
def Pfx.right (p : Pfx) : Bool := rightB p.at_ p.len
def Pfx.v (p : Pfx) : Value := .agg #[.int .i64 p.at_, .int .i64 p.len]
def holesF (us : List Pfx) : Nat → Pfx → List Pfx
  | 0, p => if us.any p.meets then [] else [p]
  | n + 1, p => if us.any p.meets then (if us.contains p then [] else holesF us n p.low ++ holesF us n p.high) else [p]
theorem right_of {a l : Int} (h0 : 0 ≤ l) (h1 : l ≤ 16) (h2 : 0 ≤ a) (h3 : a ≤ 65535) (h4 : a % szI l = 0) : rightB a l = true := by
  unfold rightB; rw [chk_in h0 h1 h2 h3]; unfold szI at h4; simp [h4]
theorem szI_half {l : Int} (h0 : 0 ≤ l) (h1 : l < 16) : szI l = 2 * szI (l + 1) := by
  unfold szI
  have : (16 - l).toNat = (16 - (l + 1)).toNat + 1 := by omega
  rw [this, Int.pow_succ]
  omega
theorem szI_dvd {l m : Int} (h0 : 0 ≤ m) (h1 : m ≤ l) (h2 : l ≤ 16) : ∃ k : Int, szI m = szI l * k ∧ 1 ≤ k := by
  refine ⟨2 ^ (l - m).toNat, ?_, ?_⟩
  · unfold szI
    rw [← Int.pow_add]
    congr 1
    omega
  · have h3 := Nat.one_le_two_pow (n := (l - m).toNat)
    have h4 : ((2 ^ (l - m).toNat : Nat) : Int) = (2 : Int) ^ (l - m).toNat := by simp
    omega
theorem right_fit {a l : Int} (h : rightB a l = true) : a + szI l ≤ 65536 := by
  obtain ⟨g1, g2, g3, g4, g5⟩ := right_bd h
  obtain ⟨k, hk, hk1⟩ := szI_dvd (Int.le_refl 0) g1 g2
  have h0 : szI 0 = 65536 := by decide
  rw [h0] at hk
  have hs := szI_bd g1
  have hd : szI l ∣ 65536 - a := by
    refine Int.dvd_sub ⟨k, hk⟩ (Int.dvd_of_emod_eq_zero g5)
  have := Int.le_of_dvd (by omega) hd
  omega
theorem low_right {p : Pfx} (h : p.right = true) (hl : p.len < 16) : p.low.right = true := by
  obtain ⟨g1, g2, g3, g4, g5⟩ := right_bd h
  refine right_of (by simp [Pfx.low]; omega) (by simp [Pfx.low]; omega) g3 g4 ?_
  show p.at_ % szI (p.len + 1) = 0
  rw [szI_half g1 hl] at g5
  exact Int.emod_eq_zero_of_dvd (Int.dvd_trans ⟨2, by omega⟩ (Int.dvd_of_emod_eq_zero g5))
theorem high_right {p : Pfx} (h : p.right = true) (hl : p.len < 16) : p.high.right = true := by
  obtain ⟨g1, g2, g3, g4, g5⟩ := right_bd h
  have hf := right_fit h
  have hh := szI_half g1 hl
  have hs := szI_bd (n := p.len + 1) (by omega)
  refine right_of (by simp [Pfx.high]; omega) (by simp [Pfx.high]; omega) (by simp [Pfx.high]; omega) (by simp [Pfx.high]; omega) ?_
  show (p.at_ + szI (p.len + 1)) % szI (p.len + 1) = 0
  rw [Int.add_emod_right]
  rw [hh] at g5
  exact Int.emod_eq_zero_of_dvd (Int.dvd_trans ⟨2, by omega⟩ (Int.dvd_of_emod_eq_zero g5))
/-- What a round leaves alone: cells of blocks that are not the loop's own. -/
structure KP (own : World → Nat → Prop) (W W' : World) : Prop where
  size : W.heap.size ≤ W'.heap.size
  cells : ∀ b c t f, ¬ own W b → W.heap[b]? = some (.cells c t f) → W'.heap[b]? = some (.cells c t f)
  own : ∀ b, b < W.heap.size → own W' b → own W b
theorem lt_of_block {w : World} {b : Nat} {o : Obj} (h : w.heap[b]? = some o) : b < w.heap.size := by
  rcases Nat.lt_or_ge b w.heap.size with h' | h'
  · exact h'
  · simp [Array.getElem?_eq_none h'] at h
theorem KP.trans {own : World → Nat → Prop} {a b c : World} (h : KP own a b) (k : KP own b c) : KP own a c :=
  ⟨Nat.le_trans h.size k.size, fun i x t f hn hc => k.cells i x t f (fun ho => hn (h.own i (lt_of_block hc) ho)) (h.cells i x t f hn hc), fun i hi ho => h.own i hi (k.own i (Nat.lt_of_lt_of_le hi h.size) ho)⟩
theorem KP.of {own : World → Nat → Prop} {a b : World} (h : Ext a b) (ho : ∀ i, own b i → own a i) : KP own a b :=
  ⟨h.size, fun i x t f _ hc => block_ext h hc, fun i _ hi => ho i hi⟩
theorem KP.cell {own : World → Nat → Prop} {a b : World} (h : KP own a b) {i o : Nat} {v : Value} (hn : ¬ own a i) (hc : a.cell? ⟨i, o, none⟩ = some v) : b.cell? ⟨i, o, none⟩ = some v := by
  have hlt := lt_of_cell hc
  obtain ⟨x, hx⟩ : ∃ x, a.heap[i]? = some x := ⟨_, Array.getElem?_eq_getElem hlt⟩
  cases x with
  | cells c t f =>
    have := h.cells i c t f hn hx
    simp only [World.cell?, hx, this] at hc ⊢
    exact hc
  | _ => simp [World.cell?, hx] at hc
theorem Sl.kp {α : Type} {own : World → Nat → Prop} {n₀ : Nat} {w w' : World} {k : Nat} {R : List Value → α → Prop} {ao : Option Addr} {cap : Nat} {l : List α} (h : Sl (fun b => b < n₀) w k R ao cap l) (ho : ∀ b, own w b → n₀ ≤ b) (hb : KP own w w') : Sl (fun b => b < n₀) w' k R ao cap l := by
  refine ⟨h.cap_le, h.cap_max, fun i hi => ?_⟩
  obtain ⟨b, off, cs, h1, h2, h3, h4, h5⟩ := h.elem i hi
  exact ⟨b, off, cs, h1, h2, h3, h4, fun j hj => hb.cell (fun hx => by have := ho b hx; omega) (h5 j hj)⟩
theorem room_of_none {F : Fence} (hd : F.depth = none) (k : Nat) : F.room k := fun d h => by rw [hd] at h; cases h
theorem RoundIn.anyDepth {F : Fence} (hd : F.depth = none) {m m' : Nat} {P : Program} {l : Nat} {f : FuncId} {tmps : Array Value} {assign body : Code} {w : World} {R : Ending → World → Prop}
    (h : RoundIn F m P l f tmps assign body w R) : RoundIn F m' P l f tmps assign body w R := ⟨h.1, fun c cs _ => h.2 c cs (room_of_none hd _)⟩
theorem YieldAt.anyDepth {F : Fence} (hd : F.depth = none) {m : Nat} (m' : Nat) {P : Program} {l : Nat} {args : Array Value} {W : World} {R : Ending → World → Prop} (h : YieldAt F m P l args W R) : YieldAt F m' P l args W R := by
  obtain ⟨fn, tmps, assign, body, hy, hR⟩ := h
  exact ⟨fn, tmps, assign, body, hy, RoundIn.anyDepth hd hR⟩
def DownEnd (own : World → Nat → Prop) (J Jx : List Pfx → World → Prop) (pre L : List Pfx) (W : World) (e : Ending) (W' : World) : Prop :=
  (e = .returned (.bool true) ∧ J (pre ++ L) W' ∧ KP own W W') ∨ (e = .returned (.bool false) ∧ ∃ q, q <+: L ∧ Jx (pre ++ q) W')
/-- What is asked of a loop's state and of its rounds. -/
structure LoopOK (own : World → Nat → Prop) (n₀ N l : Nat) (J Jx : List Pfx → World → Prop) : Prop where
  ext : ∀ s A B, J s A → Ext A B → J s B
  extx : ∀ s A B, Jx s A → Ext A B → Jx s B
  own1 : ∀ s A b, J s A → own A b → n₀ ≤ b ∧ b < A.heap.size
  own2 : ∀ s A B b, J s A → Ext A B → own B b → own A b
  round : ∀ m pre (x : Pfx) W, J pre W → pre.length < N → YieldAt Fence.wide m Try.prog l #[x.v] W fun e W' =>
      (e = .returned (.bool true) ∧ J (pre ++ [x]) W' ∧ KP own W W') ∨ (e = .returned (.bool false) ∧ Jx (pre ++ [x]) W')
theorem LoopOK.kp {own : World → Nat → Prop} {n₀ N l : Nat} {J Jx : List Pfx → World → Prop} (hL : LoopOK own n₀ N l J Jx) {s : List Pfx} {A B : World} (hj : J s A) (hx : Ext A B) : KP own A B := KP.of hx fun b => hL.own2 s A B b hj hx
section
variable (own : World → Nat → Prop) (l n₀ N : Nat) (us : List Pfx) (uo : Option Addr) (ucap : Nat) (J Jx : List Pfx → World → Prop) (hL : LoopOK own n₀ N l J Jx)
include hL
set_option maxRecDepth 100000 in
set_option maxHeartbeats 2000000 in
theorem down_free (p : Pfx) (m : Nat) (pre : List Pfx) (W : World) (hM : us.any p.meets = false) (hs : Sl (fun b => b < n₀) W 2 Pfx.R uo ucap us) (hj : J pre W) (hN : pre.length + 1 ≤ N) :
    CallsIn Fence.wide m Try.prog 44 #[p.v, .slice uo us.length ucap, .func (.yield l) #[] #[]] W (DownEnd own J Jx pre [p] W) := by
  have hm := fun W' (h : Sl (fun b => b < n₀) W' 2 Pfx.R uo ucap us) => spaceMeets_any us uo ucap p W' h
  rw [hM] at hm
  replace hm := Lib.hid hm
  clear hM
  unfold Pfx.v
  refine callsIn_of_wp Try.func44 rfl trivial ?_ rfl
  simp only [Try.ntmps44, List.size_toArray, List.length_cons, List.length_nil, Nat.reduceAdd, Nat.reduceSub, Array.replicate_succ, Array.replicate_zero, List.push_toArray, List.append_toArray, List.nil_append, List.cons_append]
  gi_wp2_with fail
  refine ⟨trivial, fun h => (by cases h), ?_⟩
  refine (callsIn_wide.2 (hm.out _ (hs.ext (ext_alloc _ _)))).mono ?_
  rintro e w1 ⟨rfl, hw1⟩
  obtain ⟨hcw1, hfw1⟩ := bcell hw1
  have hzw1 := bsize hw1
  (try simp only [World.size_alloc, World.size_setCell, World.size_drew, World.heap_drewN] at hcw1 hfw1 hzw1)
  have hx1 := ext_trans (ext_alloc _ _) hw1
  obtain ⟨fn, tmps, assign, body, hy, hRr⟩ := hL.round (m - 1) pre p w1 (hL.ext _ _ _ hj hx1) (by omega)
  unfold Pfx.v at hy
  have hb1 := hL.kp hj hx1
  gi_wp2_with fail
  refine ⟨fun h => (by cases h), ?_⟩
  refine hRr.mono ?_
  rintro e w2 (⟨rfl, hj2, hb2⟩ | ⟨rfl, hx2⟩)
  · gi_wp2_with fail
    go_ret
    exact .inl ⟨rfl, hj2, hb1.trans hb2⟩
  · gi_wp2_with fail
    go_ret
    exact .inr ⟨rfl, [p], List.prefix_refl _, hx2⟩
set_option maxRecDepth 100000 in
set_option maxHeartbeats 2000000 in
theorem down_in : ∀ (n : Nat) (p : Pfx) (m : Nat) (pre : List Pfx) (W : World), 16 - p.len = (n : Int) → p.right = true → Sl (fun b => b < n₀) W 2 Pfx.R uo ucap us → J pre W → pre.length + (holesF us n p).length ≤ N →
      CallsIn Fence.wide m Try.prog 44 #[p.v, .slice uo us.length ucap, .func (.yield l) #[] #[]] W (DownEnd own J Jx pre (holesF us n p) W) := by
  intro n
  induction n with
  | zero =>
    intro p m pre W hn hr hs hj hN
    cases hM : us.any p.meets
    · unfold holesF at hN ⊢
      rw [hM] at hN ⊢
      simp only [Bool.false_eq_true, if_false, List.length_cons, List.length_nil] at hN ⊢
      exact down_free own l n₀ N us uo ucap J Jx hL p m pre W hM hs hj (by omega)
    · unfold holesF
      rw [hM, if_pos rfl]
      have hm := fun W' (h : Sl (fun b => b < n₀) W' 2 Pfx.R uo ucap us) => spaceMeets_any us uo ucap p W' h
      rw [hM] at hm
      have hh := halves_any p.at_ p.len
      have hc : chk p.at_ p.len = 0 := by have := hr; unfold Pfx.right rightB at this; simpa using this
      have hl : p.len = 16 := by omega
      have hv : halvesV p.at_ p.len = .tuple #[.agg #[.int .i64 0, .int .i64 0], .agg #[.int .i64 0, .int .i64 0], .int .i64 3] := by unfold halvesV zeroP; rw [if_pos hc, if_pos hl]
      rw [hv] at hh
      clear hv hc hM hN hl hn hr
      replace hm := Lib.hid hm
      replace hh := Lib.hid hh
      unfold Pfx.v
      refine callsIn_of_wp Try.func44 rfl trivial ?_ rfl
      simp only [Try.ntmps44, List.size_toArray, List.length_cons, List.length_nil, Nat.reduceAdd, Nat.reduceSub, Array.replicate_succ, Array.replicate_zero, List.push_toArray, List.append_toArray, List.nil_append, List.cons_append]
      gi_wp2_with fail
      refine ⟨trivial, fun h => (by cases h), ?_⟩
      refine (callsIn_wide.2 (hm.out _ (hs.ext (ext_alloc _ _)))).mono ?_
      rintro e w1 ⟨rfl, hw1⟩
      obtain ⟨hcw1, hfw1⟩ := bcell hw1
      have hzw1 := bsize hw1
      (try simp only [World.size_alloc, World.size_setCell, World.size_drew, World.heap_drewN] at hcw1 hfw1 hzw1)
      have hx1 := ext_trans (ext_alloc _ _) hw1
      have l1 : W.heap.size < w1.heap.size := by omega
      gi_wp2_with fail
      refine ⟨trivial, fun h => (by cases h), ?_⟩
      refine (callsIn_wide.2 (hh.out _)).mono ?_
      rintro e w2 ⟨rfl, hw2⟩
      obtain ⟨hcw2, hfw2⟩ := bcell hw2
      have hzw2 := bsize hw2
      (try simp only [World.size_alloc, World.size_setCell, World.size_drew, World.heap_drewN] at hcw2 hfw2 hzw2)
      have l2 : W.heap.size < w2.heap.size := by omega
      gi_wp2_with fail
      refine ⟨trivial, ?_⟩
      gi_wp2_with fail
      go_ret
      exact .inl ⟨rfl, by rw [List.append_nil]; exact hL.ext _ _ _ hj (ext_trans hx1 (ext_trans hw2 (ext_trans (ext_alloc _ _) (ext_alloc _ _)))), hL.kp hj (ext_trans hx1 (ext_trans hw2 (ext_trans (ext_alloc _ _) (ext_alloc _ _))))⟩
  | succ n ih =>
    intro p m pre W hn hr hs hj hN
    cases hM : us.any p.meets
    · unfold holesF at hN ⊢
      rw [hM] at hN ⊢
      simp only [Bool.false_eq_true, if_false, List.length_cons, List.length_nil] at hN ⊢
      exact down_free own l n₀ N us uo ucap J Jx hL p m pre W hM hs hj (by omega)
    · have hm := fun W' (h : Sl (fun b => b < n₀) W' 2 Pfx.R uo ucap us) => spaceMeets_any us uo ucap p W' h
      rw [hM] at hm
      have hh := halves_any p.at_ p.len
      have hc : chk p.at_ p.len = 0 := by have := hr; unfold Pfx.right rightB at this; simpa using this
      have hl : p.len < 16 := by omega
      have hv : halvesV p.at_ p.len = .tuple #[.agg #[.int .i64 p.at_, .int .i64 (p.len + 1)], .agg #[.int .i64 (p.at_ + szI (p.len + 1)), .int .i64 (p.len + 1)], .int .i64 0] := by unfold halvesV; rw [if_pos hc, if_neg (by omega)]
      rw [hv] at hh
      have hct := fun W' (h : Sl (fun b => b < n₀) W' 2 Pfx.R uo ucap us) => contains_P p us uo ucap W' h
      unfold holesF at hN ⊢
      rw [hM, if_pos rfl] at hN ⊢
      clear hv hc hM
      replace hm := Lib.hid hm
      replace hh := Lib.hid hh
      cases hC : us.contains p
      · rw [hC] at hct hN
        simp only [Bool.false_eq_true, if_false, List.length_append] at hN ⊢
        replace hct := Lib.hid hct
        have ihl := fun m' pre' W' => ih p.low m' pre' W' (by simp [Pfx.low]; omega) (low_right hr hl)
        have ihr := fun m' pre' W' => ih p.high m' pre' W' (by simp [Pfx.high]; omega) (high_right hr hl)
        obtain ⟨L, hLL⟩ : ∃ L, L = holesF us n p.low := ⟨_, rfl⟩
        obtain ⟨M, hMM⟩ : ∃ M, M = holesF us n p.high := ⟨_, rfl⟩
        rw [← hLL] at ihl hN ⊢
        rw [← hMM] at ihr hN ⊢
        simp only [Pfx.v, Pfx.low] at ihl
        simp only [Pfx.v, Pfx.high] at ihr
        replace ihl := Lib.hid ihl
        replace ihr := Lib.hid ihr
        clear ih hLL hMM hC hl hn hr
        unfold Pfx.v
        refine callsIn_of_wp Try.func44 rfl trivial ?_ rfl
        simp only [Try.ntmps44, List.size_toArray, List.length_cons, List.length_nil, Nat.reduceAdd, Nat.reduceSub, Array.replicate_succ, Array.replicate_zero, List.push_toArray, List.append_toArray, List.nil_append, List.cons_append]
        gi_wp2_with fail
        refine ⟨trivial, fun h => (by cases h), ?_⟩
        refine (callsIn_wide.2 (hm.out _ (hs.ext (ext_alloc _ _)))).mono ?_
        rintro e w1 ⟨rfl, hw1⟩
        obtain ⟨hcw1, hfw1⟩ := bcell hw1
        have hzw1 := bsize hw1
        (try simp only [World.size_alloc, World.size_setCell, World.size_drew, World.heap_drewN] at hcw1 hfw1 hzw1)
        have hx1 := ext_trans (ext_alloc _ _) hw1
        have l1 : W.heap.size < w1.heap.size := by omega
        gi_wp2_with fail
        refine ⟨trivial, fun h => (by cases h), ?_⟩
        refine (callsIn_wide.2 (hh.out _)).mono ?_
        rintro e w2 ⟨rfl, hw2⟩
        obtain ⟨hcw2, hfw2⟩ := bcell hw2
        have hzw2 := bsize hw2
        (try simp only [World.size_alloc, World.size_setCell, World.size_drew, World.heap_drewN] at hcw2 hfw2 hzw2)
        have hx2 := ext_trans hx1 hw2
        have l2 : W.heap.size < w2.heap.size := by omega
        gi_wp2_with fail
        refine ⟨trivial, fun h => (by cases h), ?_⟩
        refine (callsIn_wide.2 (hct.out _ ((hs.ext hx2).ext (ext_trans (ext_alloc _ _) (ext_alloc _ _))))).mono ?_
        rintro e w3 ⟨rfl, hw3⟩
        obtain ⟨hcw3, hfw3⟩ := bcell hw3
        have hzw3 := bsize hw3
        (try simp only [World.size_alloc, World.size_setCell, World.size_drew, World.heap_drewN] at hcw3 hfw3 hzw3)
        have hx3 := ext_trans hx2 (ext_trans (ext_trans (ext_alloc _ _) (ext_alloc _ _)) hw3)
        have hj3 := hL.ext _ _ _ hj hx3
        have hk3 := hL.kp hj hx3
        have l3 : w2.heap.size < w3.heap.size := by omega
        have l4 : w2.heap.size + 1 < w3.heap.size := by omega
        have l5 : W.heap.size < w3.heap.size := by omega
        have d0 : w3.cell? ⟨w2.heap.size, 0, none⟩ = some (.int .i64 p.at_) := by rw [hcw3 _ _ (by omega)]; go_simp
        have d1 : w3.cell? ⟨w2.heap.size, 1, none⟩ = some (.int .i64 (p.len + 1)) := by rw [hcw3 _ _ (by omega)]; go_simp
        have e0 : w3.cell? ⟨w2.heap.size + 1, 0, none⟩ = some (.int .i64 (p.at_ + szI (p.len + 1))) := by rw [hcw3 _ _ (by omega)]; go_simp
        have e1 : w3.cell? ⟨w2.heap.size + 1, 1, none⟩ = some (.int .i64 (p.len + 1)) := by rw [hcw3 _ _ (by omega)]; go_simp
        have no : ¬ own w3 (w2.heap.size + 1) := fun ho => by
          have := (hL.own1 _ _ _ hj (hL.own2 _ _ _ _ hj hx3 ho)).2
          omega
        have hs3 := hs.ext hx3
        clear hcw3 hfw3 hcw2 hfw2 hcw1 hfw1
        gi_wp2_with fail
        refine ⟨trivial, fun h => (by cases h), ?_⟩
        refine (ihl.out _ pre _ hs3 hj3 (by omega)).mono ?_
        rintro e w4 (⟨rfl, hj4, hk4⟩ | ⟨rfl, q, hq, hx4⟩)
        · have hs4 := hs3.kp (fun b hb => (hL.own1 _ _ _ hj3 hb).1) hk4
          have e0' := hk4.cell no e0
          have e1' := hk4.cell no e1
          clear e0 e1 d0 d1
          gi_wp2_with fail
          refine ⟨trivial, fun h => (by cases h), ?_⟩
          refine (ihr.out _ _ _ hs4 hj4 (by simp; omega)).mono ?_
          rintro e w5 (⟨rfl, hj5, hk5⟩ | ⟨rfl, q, hq, hx5⟩)
          · gi_wp2_with fail
            go_ret
            exact .inl ⟨rfl, by rw [← List.append_assoc]; exact hj5, hk3.trans (hk4.trans hk5)⟩
          · gi_wp2_with fail
            go_ret
            obtain ⟨r, hr⟩ := hq
            exact .inr ⟨rfl, L ++ q, ⟨r, by rw [← hr]; simp⟩, by rw [← List.append_assoc]; exact hx5⟩
        · gi_wp2_with fail
          refine ⟨trivial, ?_⟩
          gi_wp2_with fail
          go_ret
          exact .inr ⟨rfl, q, hq.trans (List.prefix_append _ _), hx4⟩
      · rw [hC] at hct
        rw [if_pos rfl]
        replace hct := Lib.hid hct
        clear ih hC hl hn hr hN
        unfold Pfx.v
        refine callsIn_of_wp Try.func44 rfl trivial ?_ rfl
        simp only [Try.ntmps44, List.size_toArray, List.length_cons, List.length_nil, Nat.reduceAdd, Nat.reduceSub, Array.replicate_succ, Array.replicate_zero, List.push_toArray, List.append_toArray, List.nil_append, List.cons_append]
        gi_wp2_with fail
        refine ⟨trivial, fun h => (by cases h), ?_⟩
        refine (callsIn_wide.2 (hm.out _ (hs.ext (ext_alloc _ _)))).mono ?_
        rintro e w1 ⟨rfl, hw1⟩
        obtain ⟨hcw1, hfw1⟩ := bcell hw1
        have hzw1 := bsize hw1
        (try simp only [World.size_alloc, World.size_setCell, World.size_drew, World.heap_drewN] at hcw1 hfw1 hzw1)
        have hx1 := ext_trans (ext_alloc _ _) hw1
        have l1 : W.heap.size < w1.heap.size := by omega
        gi_wp2_with fail
        refine ⟨trivial, fun h => (by cases h), ?_⟩
        refine (callsIn_wide.2 (hh.out _)).mono ?_
        rintro e w2 ⟨rfl, hw2⟩
        obtain ⟨hcw2, hfw2⟩ := bcell hw2
        have hzw2 := bsize hw2
        (try simp only [World.size_alloc, World.size_setCell, World.size_drew, World.heap_drewN] at hcw2 hfw2 hzw2)
        have hx2 := ext_trans hx1 hw2
        have l2 : W.heap.size < w2.heap.size := by omega
        gi_wp2_with fail
        refine ⟨trivial, fun h => (by cases h), ?_⟩
        refine (callsIn_wide.2 (hct.out _ ((hs.ext hx2).ext (ext_trans (ext_alloc _ _) (ext_alloc _ _))))).mono ?_
        rintro e w3 ⟨rfl, hw3⟩
        obtain ⟨hcw3, hfw3⟩ := bcell hw3
        have hzw3 := bsize hw3
        (try simp only [World.size_alloc, World.size_setCell, World.size_drew, World.heap_drewN] at hcw3 hfw3 hzw3)
        have hx3 := ext_trans hx2 (ext_trans (ext_trans (ext_alloc _ _) (ext_alloc _ _)) hw3)
        gi_wp2_with fail
        go_ret
        exact .inl ⟨rfl, by simpa using hL.ext _ _ _ hj hx3, hL.kp hj hx3⟩
end
end Go.Proofs.Ytflbpkgnadjokaa
namespace Go.Proofs.Ytflbpkgnadjokaa
open Go Go.RowKit Go.Proofs Go.Shelf
set_option maxRecDepth 100000
attribute [local go_sem] Oper.semAt_some
theorem walk_any (p : Pfx) (uo : Option Addr) (k ucap : Nat) (w : World) :
    Calls Try.prog 24 #[p.v, .slice uo k ucap] w fun e w' => e = .returned (.func (.func 43) #[] #[.pointer (some ⟨w.heap.size, 0, none⟩), .pointer (some ⟨w.heap.size + 1, 0, none⟩)]) ∧
      w' = (w.alloc (.cells #[.int .i64 p.at_, .int .i64 p.len] 23)).alloc (.cells #[.slice uo k ucap] 24) := by
  unfold Pfx.v
  go_enter Try.func24, Try.ntmps24
  go_wp2_with fail
  go_ret
  exact ⟨rfl, rfl⟩
theorem abides_ext {β : Type} {B : Nat} {J : β → World → Prop} (h : AbidesFrom B J) : ∀ s X Y, J s X → Ext X Y → J s Y := fun s X Y hj hx =>
  h s X Y none hj ⟨hx.os, hx.tape, hx.output, hx.size, fun b hb _ => hx.block b hb⟩ (fun r e => by cases e)
/-- What a round keeps: own blocks apart, all cells; and G, what says which blocks are own. -/
def KG (own : World → Nat → Prop) (G : World → Prop) (W W' : World) : Prop := G W → KP own W W' ∧ G W'
set_option maxHeartbeats 1000000 in
set_option maxRecDepth 100000 in
theorem walk1_in (own : World → Nat → Prop) (G : World → Prop) (l n₀ b1 b2 : Nat) (us : List Pfx) (uo : Option Addr) (ucap : Nat) (p : Pfx) (n : Nat) (hn : 16 - p.len = (n : Int)) (hr : p.right = true) (J Jx : List Pfx → World → Prop)
    (m : Nat) (hL : LoopOK own n₀ (holesF us n p).length l J Jx) (W : World) (c0 : W.cell? ⟨b1, 0, none⟩ = some (.int .i64 p.at_)) (c1 : W.cell? ⟨b1, 1, none⟩ = some (.int .i64 p.len)) (c2 : W.cell? ⟨b2, 0, none⟩ = some (.slice uo us.length ucap))
    (hs : Sl (fun b => b < n₀) W 2 Pfx.R uo ucap us) (h0 : J [] W) :
    CallsIn Fence.wide m Try.prog 43 #[.func (.yield l) #[] #[], .pointer (some ⟨b1, 0, none⟩), .pointer (some ⟨b2, 0, none⟩)] W fun e W' => (∃ v, e = .returned v) ∧
      ((∃ ys, ys = holesF us n p ∧ J ys W') ∨ (∃ pre, pre <+: holesF us n p ∧ Jx pre W')) := by
  have hd := down_in own l n₀ (holesF us n p).length us uo ucap J Jx hL n p (m - 1) [] W hn hr hs h0 (by simp)
  simp only [Pfx.v] at hd
  replace hd := Lib.hid hd
  clear hL hn hr
  refine callsIn_of_wp Try.func43 rfl trivial ?_ rfl
  simp only [Try.ntmps43, List.size_toArray, List.length_cons, List.length_nil, Nat.reduceAdd, Nat.reduceSub, Array.replicate_succ, Array.replicate_zero, List.push_toArray, List.append_toArray, List.nil_append, List.cons_append]
  gi_wp2_with fail
  refine ⟨trivial, fun h => (by cases h), ?_⟩
  refine hd.out.mono ?_
  rintro e w1 (⟨rfl, hj, hk⟩ | ⟨rfl, q, hq, hx⟩)
  · gi_wp2_with fail
    go_end0
    exact ⟨⟨_, rfl⟩, .inl ⟨_, rfl, by simpa using hj⟩⟩
  · gi_wp2_with fail
    go_end0
    exact ⟨⟨_, rfl⟩, .inr ⟨q, hq, by simpa using hx⟩⟩
theorem walk_stops (own : World → Nat → Prop) (G : World → Prop) (m n₀ b1 b2 : Nat) (us : List Pfx) (uo : Option Addr) (ucap : Nat) (p : Pfx) (n : Nat) (hn : 16 - p.len = (n : Int)) (hr : p.right = true) (w : World)
    (hG0 : G w) (hG1 : ∀ A b, G A → own A b → n₀ ≤ b ∧ b < A.heap.size) (hG2 : ∀ A B b, G A → Ext A B → own B b → own A b) (hG3 : ∀ A B, G A → Ext A B → G B)
    (c0 : w.cell? ⟨b1, 0, none⟩ = some (.int .i64 p.at_)) (c1 : w.cell? ⟨b1, 1, none⟩ = some (.int .i64 p.len)) (c2 : w.cell? ⟨b2, 0, none⟩ = some (.slice uo us.length ucap))
    (hs : Sl (fun b => b < n₀) w 2 Pfx.R uo ucap us) :
    SeqStopsK Fence.wide m Try.prog 43 #[.pointer (some ⟨b1, 0, none⟩), .pointer (some ⟨b2, 0, none⟩)] (fun x : Pfx => #[x.v]) (KG own G) (fun ys => ys = holesF us n p) (fun pre => pre <+: holesF us n p) (holesF us n p).length w := by
  intro l J Jx W hW hJ hJx hY h0
  have hL : LoopOK own n₀ (holesF us n p).length l (fun s A => J s A ∧ G A) Jx := by
    refine ⟨fun s A B h hx => ⟨abides_ext hJ s A B h.1 hx, hG3 A B h.2 hx⟩, fun s A B h hx => abides_ext hJx s A B h hx, fun s A b h ho => hG1 A b h.2 ho, fun s A B b h hx ho => hG2 A B b h.2 hx ho, fun m' pre x W1 h hl => ?_⟩
    refine YieldAt.mono (YieldAt.anyDepth rfl m' (hY pre x W1 h.1 hl)) fun e W2 h2 => ?_
    rcases h2 with ⟨he, hj, hk⟩ | h2
    · exact .inl ⟨he, ⟨hj, (hk h.2).2⟩, (hk h.2).1⟩
    · exact .inr h2
  refine (walk1_in own G l n₀ b1 b2 us uo ucap p n hn hr (fun s A => J s A ∧ G A) Jx m hL W (keepCell hW c0) (keepCell hW c1) (keepCell hW c2) (hs.ext hW) ⟨h0, hG3 _ _ hG0 hW⟩).mono ?_
  rintro e W' ⟨hv, ⟨ys, hy, hj⟩ | h⟩
  · exact ⟨hv, .inl ⟨ys, hy, hj.1⟩⟩
  · exact ⟨hv, .inr h⟩
end Go.Proofs.Ytflbpkgnadjokaa
namespace Go.Proofs.Ytflbpkgnadjokaa
open Go Go.RowKit Go.Proofs
set_option maxRecDepth 100000
def insQ (p q : Pfx) : Bool := insP p.at_ p.len q.at_ q.len
def usedOK (root : Pfx) : Int → List Pfx → Bool
  | _, [] => true
  | free, p :: ps => insQ p root && (decide (free ≤ p.at_) && usedOK root (p.at_ + szI p.len) ps)
theorem usedOK_cons (root : Pfx) (f : Int) (p : Pfx) (ps : List Pfx) : usedOK root f (p :: ps) = (insQ p root && (decide (f ≤ p.at_) && usedOK root (p.at_ + szI p.len) ps)) := rfl
def chkS (root : Pfx) (us : List Pfx) : Int := if us.length > 32 then 2 else if chk root.at_ root.len = 0 then (if usedOK root root.at_ us then 0 else 1) else 1
theorem insP_right {a l b m : Int} (h : insP a l b m = true) : rightB a l = true := by
  unfold insP at h; simp at h; exact h.1.1.1
theorem sizeI_right {a l : Int} (h : rightB a l = true) : sizeI a l = szI l := by unfold sizeI; rw [if_pos h]
set_option maxHeartbeats 1000000 in
set_option maxRecDepth 100000 in
theorem spaceCheck_any {A : Area} (root : Pfx) (us : List Pfx) (uo : Option Addr) (ucap : Nat) (w : World) (h : Sl A w 2 Pfx.R uo ucap us) :
    Calls Try.prog 13 #[.agg #[.int .i64 root.at_, .int .i64 root.len, .slice uo us.length ucap]] w fun e w' => e = .returned (.int .i64 (chkS root us)) ∧ Ext w w' := by
  have hcl := h.cap_le
  have hcm := h.cap_max
  by_cases h32 : us.length > 32
  · have hr : chkS root us = 2 := by unfold chkS; rw [if_pos h32]
    rw [hr]
    have hI : (32 : Int) < (us.length : Int) := by omega
    clear hr h32
    go_enter Try.func13, Try.ntmps13
    go_wp2_with fail
    go_ret
    refine ⟨rfl, Bel.bel (B := _) ?_⟩
    (repeat (first | with_reducible assumption | with_reducible exact Bel.refl _ | with_reducible refine Bel.alloc ?_ _ | with_reducible refine Bel.drewN ?_ _ | with_reducible refine Bel.drew ?_ | (with_reducible refine Bel.setCell0 ?_ ?_ _; rotate_left; (first | omega | (simp; done) | (simp; omega))) | (with_reducible refine Bel.setCell ?_ (p := _) ?_ _; rotate_left; (first | (simp; done) | omega | (simp; omega))) | refine Bel.call ?_ (by assumption) | (refine EX.bel ?_ (by assumption) ?_; rotate_left; (first | omega | (simp; omega)))))
  · have hI : (us.length : Int) ≤ 32 := by omega
    have hck := check_any root.at_ root.len
    by_cases hc : chk root.at_ root.len = 0
    · obtain ⟨r, hr⟩ : ∃ r, r = chkS root us := ⟨_, rfl⟩
      rw [← hr]
      have hr2 : r = if usedOK root root.at_ us then 0 else 1 := by rw [hr]; unfold chkS; rw [if_neg h32, if_pos hc]
      rw [hc] at hck
      clear hr hc h32
      replace hr := Lib.hid hr2
      clear hr2
      replace hck := Lib.hid hck
      go_enter Try.func13, Try.ntmps13
      go_wp2_with fail
      refine (hck.out _).mono ?_
      rintro e w1 ⟨rfl, hw1⟩
      obtain ⟨hcw1, hfw1⟩ := bcell hw1
      have hzw1 := bsize hw1
      (try simp only [World.size_alloc, World.size_setCell, World.size_drew, World.heap_drewN] at hcw1 hfw1 hzw1)
      have l1 : w.heap.size < w1.heap.size := by omega
      go_wp2_with fail
      go_loopw [3, 20] (fun s3 s20 wr => ∃ (k : Nat) (f : Int), k ≤ us.length ∧ s20 = .int .i64 k ∧ s3 = .int .i64 f ∧ Hid (usedOK root root.at_ us = usedOK root f (us.drop k)) ∧ Ext w1 wr) (fun _ s20 _ => us.length - (intOf s20).toNat)
      case atStart => exact ⟨0, root.at_, Nat.zero_le _, rfl, rfl, Lib.hid rfl, Below.refl _ _⟩
      case round =>
        obtain ⟨k, f, hk, rfl, rfl, hu, hx⟩ := hrel
        have hbel : Bel w.heap.size w wr := (((Bel.refl w).alloc _).call hw1).call hx
        obtain ⟨hcr, hfr⟩ := bcell hx
        have hzr := bsize hx
        have lr : w.heap.size < wr.heap.size := by omega
        by_cases hlt : k < us.length
        · have hltI : (k : Int) < (us.length : Int) := by omega
          have hdrop : us.drop k = us[k] :: us.drop (k + 1) := List.drop_eq_getElem_cons hlt
          rw [hdrop] at hu
          clear hdrop
          obtain ⟨b, off, cs, rfl, -, hlen, hR, hcs⟩ := h.elem k hlt
          replace hcs := cellsAt_ext (ext_trans (ext_trans (ext_alloc _ _) hw1) hx) hcs
          unfold Pfx.R at hR
          subst hR
          obtain ⟨k0, k1⟩ := cellsAt_2 hcs
          have lb := lt_of_cell k0
          obtain ⟨p, hp⟩ : ∃ p, p = us[k] := ⟨_, rfl⟩
          rw [← hp] at k0 k1 hu
          clear hcs hp h
          have hin := inside_any p.at_ p.len root.at_ root.len
          obtain ⟨q, hq⟩ : ∃ q, q = insP p.at_ p.len root.at_ root.len := ⟨_, rfl⟩
          rw [← hq] at hin
          have hu2 : usedOK root root.at_ us = (q && (decide (f ≤ p.at_) && usedOK root (p.at_ + szI p.len) (us.drop (k + 1)))) := by rw [hu.out, usedOK_cons, hq]; rfl
          clear hu
          cases q
          case false =>
            have hret : r = 1 := by rw [hr.out, hu2]; rfl
            replace hret := Lib.hid hret
            clear hu2 hr hq
            replace hin := Lib.hid hin
            go_wp2_with fail
            refine (hin.out _).mono ?_
            rintro e w2 ⟨rfl, hw2⟩
            obtain ⟨hcw2, hfw2⟩ := bcell hw2
            have hzw2 := bsize hw2
            (try simp only [World.size_alloc, World.size_setCell, World.size_drew, World.heap_drewN] at hcw2 hfw2 hzw2)
            go_wp2_with fail
            go_ret
            refine ⟨ret_int hret.out.symm, Bel.bel (B := _) ?_⟩
            (repeat (first | with_reducible assumption | with_reducible exact Bel.refl _ | with_reducible refine Bel.alloc ?_ _ | with_reducible refine Bel.drewN ?_ _ | with_reducible refine Bel.drew ?_ | (with_reducible refine Bel.setCell0 ?_ ?_ _; rotate_left; (first | omega | (simp; done) | (simp; omega))) | (with_reducible refine Bel.setCell ?_ (p := _) ?_ _; rotate_left; (first | (simp; done) | omega | (simp; omega))) | refine Bel.call ?_ (by assumption) | (refine EX.bel ?_ (by assumption) ?_; rotate_left; (first | omega | (simp; omega)))))
          case true =>
            have hrp := insP_right hq.symm
            obtain ⟨g1, g2, g3, g4, -⟩ := right_bd hrp
            obtain ⟨z1, z2⟩ := szI_bd g1
            have hsz := size_any p.at_ p.len
            rw [sizeI_right hrp] at hsz
            have hwr : IntKind.i64.wrap (p.at_ + szI p.len) = p.at_ + szI p.len := IntWalk.i64_in _ (by omega)
            replace hin := Lib.hid hin
            replace hsz := Lib.hid hsz
            clear hq hrp
            by_cases hf : f ≤ p.at_
            · have hu3 : usedOK root root.at_ us = usedOK root (p.at_ + szI p.len) (us.drop (k + 1)) := by rw [hu2]; simp [hf]
              clear hu2
              replace hu3 := Lib.hid hu3
              go_wp2_with fail
              refine (hin.out _).mono ?_
              rintro e w2 ⟨rfl, hw2⟩
              obtain ⟨hcw2, hfw2⟩ := bcell hw2
              have hzw2 := bsize hw2
              (try simp only [World.size_alloc, World.size_setCell, World.size_drew, World.heap_drewN] at hcw2 hfw2 hzw2)
              have l2 : w.heap.size < w2.heap.size := by omega
              have l3 : wr.heap.size < w2.heap.size := by omega
              go_wp2_with fail
              refine region_mix (by kernel_rfl) (by kernel_rfl) (fun _ _ d _ _ h => by cases d <;> exact h) ?_
              repeat (first | ((first | refine mix_skip_t rfl rfl rfl (by with_reducible rfl) ?_ | refine mix_skip_f rfl rfl rfl (by with_reducible rfl) ?_ | refine mix_skip_u rfl rfl rfl (by with_reducible rfl) ?_); simp only [Act.put, List.setIfInBounds_toArray, List.set_cons_zero, List.set_cons_succ]) | (apply mix_take; (first | exact want_0 rfl | exact want_b rfl rfl rfl (by with_reducible rfl)); intro wq hwq R hR; ((have hcc := (bcell hwq).1; (try simp only [World.size_alloc, World.size_setCell, World.size_drew, World.heap_drewN] at hcc)); go_simp; first | exact hR | ((go_at_call 22; exact mcall (hsz.out _) hR))); simp only [Act.put, List.setIfInBounds_toArray, List.set_cons_zero, List.set_cons_succ]))
              refine mix_nil ?_
              intro w3 hw3
              obtain ⟨hcw3, hfw3⟩ := bcell hw3
              have hzw3 := bsize hw3
              (try simp only [World.size_alloc, World.size_setCell, World.size_drew, World.heap_drewN] at hcw3 hfw3 hzw3)
              go_wp2_with fail
              go_roundw
              case rel => exact ⟨k + 1, _, by omega, by go_num, rfl, hu3, ext_trans hx (ext_trans (ext_trans (ext_alloc _ _) hw2) hw3)⟩
              case measure => simp [intOf]; omega
            · have hret : r = 1 := by rw [hr.out, hu2]; simp [hf]
              replace hret := Lib.hid hret
              have hf' : p.at_ < f := by omega
              clear hu2 hr hf
              go_wp2_with fail
              refine (hin.out _).mono ?_
              rintro e w2 ⟨rfl, hw2⟩
              obtain ⟨hcw2, hfw2⟩ := bcell hw2
              have hzw2 := bsize hw2
              (try simp only [World.size_alloc, World.size_setCell, World.size_drew, World.heap_drewN] at hcw2 hfw2 hzw2)
              have l2 : w.heap.size < w2.heap.size := by omega
              have l3 : wr.heap.size < w2.heap.size := by omega
              go_wp2_with fail
              go_ret
              refine ⟨ret_int hret.out.symm, Bel.bel (B := _) ?_⟩
              (repeat (first | with_reducible assumption | with_reducible exact Bel.refl _ | with_reducible refine Bel.alloc ?_ _ | with_reducible refine Bel.drewN ?_ _ | with_reducible refine Bel.drew ?_ | (with_reducible refine Bel.setCell0 ?_ ?_ _; rotate_left; (first | omega | (simp; done) | (simp; omega))) | (with_reducible refine Bel.setCell ?_ (p := _) ?_ _; rotate_left; (first | (simp; done) | omega | (simp; omega))) | refine Bel.call ?_ (by assumption) | (refine EX.bel ?_ (by assumption) ?_; rotate_left; (first | omega | (simp; omega)))))
        · have hltI : ¬ (k : Int) < (us.length : Int) := by omega
          obtain rfl : k = us.length := by omega
          have hret : r = 0 := by rw [hr.out, hu.out, List.drop_length]; rfl
          replace hret := Lib.hid hret
          clear hr hu
          go_wp2_with fail
          go_ret
          exact ⟨ret_int hret.out.symm, hbel.bel⟩
    · have hr : chkS root us = 1 := by unfold chkS; rw [if_neg h32, if_neg hc]
      rw [hr]
      obtain ⟨c, hcc⟩ : ∃ c, c = chk root.at_ root.len := ⟨_, rfl⟩
      rw [← hcc] at hck
      have hne : (c != 0) = true := by rw [hcc]; simpa using hc
      clear hr h32 hc hcc
      replace hck := Lib.hid hck
      go_enter Try.func13, Try.ntmps13
      go_wp2_with fail
      refine (hck.out _).mono ?_
      rintro e w1 ⟨rfl, hw1⟩
      obtain ⟨hcw1, hfw1⟩ := bcell hw1
      have hzw1 := bsize hw1
      (try simp only [World.size_alloc, World.size_setCell, World.size_drew, World.heap_drewN] at hcw1 hfw1 hzw1)
      go_wp2_with fail
      go_ret
      refine ⟨rfl, Bel.bel (B := _) ?_⟩
      (repeat (first | with_reducible assumption | with_reducible exact Bel.refl _ | with_reducible refine Bel.alloc ?_ _ | with_reducible refine Bel.drewN ?_ _ | with_reducible refine Bel.drew ?_ | (with_reducible refine Bel.setCell0 ?_ ?_ _; rotate_left; (first | omega | (simp; done) | (simp; omega))) | (with_reducible refine Bel.setCell ?_ (p := _) ?_ _; rotate_left; (first | (simp; done) | omega | (simp; omega))) | refine Bel.call ?_ (by assumption) | (refine EX.bel ?_ (by assumption) ?_; rotate_left; (first | omega | (simp; omega)))))
end Go.Proofs.Ytflbpkgnadjokaa
namespace Go.Proofs.Ytflbpkgnadjokaa
open Go Go.RowKit Go.Proofs Go.Shelf
set_option maxRecDepth 100000
attribute [local go_sem] Oper.semAt_some
def holesS (root : Pfx) (us : List Pfx) : List Pfx := holesF us (16 - root.len).toNat root
def Pfx.zero : Pfx := ⟨0, 0⟩
/-- Fit's answer: the prefix, is there one, the error. -/
def fitS (root : Pfx) (us : List Pfx) (size : Int) : Pfx × Bool × Int :=
  if chkS root us = 0 then
    (if size < root.len ∨ 16 < size then (Pfx.zero, false, 3) else match (holesS root us).find? (fun q => decide (q.len ≤ size)) with | some q => (⟨q.at_, size⟩, true, 0) | none => (Pfx.zero, false, 0))
  else (Pfx.zero, false, chkS root us)
def blk (W : World) (b : Nat) (cs : Array Value) (t : TypeId) : Prop := W.heap[b]? = some (.cells cs t (0, 0))
theorem blk_kept {A B : World} {row : Option Nat} {b : Nat} {cs : Array Value} {t : TypeId} (h : blk A b cs t) (hg : A.grownBy B row) (hr : ∀ r, row = some r → ∃ o : Obj, A.heap[r]? = some o ∧ o.isCells = false) : blk B b cs t :=
  (hg.block b (lt_of_block h) (fun e => by obtain ⟨o, ho, hc⟩ := hr b e.symm; rw [show A.heap[b]? = _ from h] at ho; cases ho; cases hc)).trans h
theorem blk_ext {A B : World} {b : Nat} {cs : Array Value} {t : TypeId} (h : blk A b cs t) (hx : Ext A B) : blk B b cs t := block_ext hx h
theorem blk_cell {W : World} {b o : Nat} {cs : Array Value} {t : TypeId} {v : Value} (h : blk W b cs t) (hv : cs[o]? = some v) : W.cell? ⟨b, o, none⟩ = some v := cell_of_block h hv
theorem blk_free {W : World} {b o : Nat} {cs : Array Value} {t : TypeId} (h : blk W b cs t) : W.frozen? ⟨b, o, none⟩ = false := free_of_block h
theorem blk_set {W : World} {b o : Nat} {cs : Array Value} {t : TypeId} (h : blk W b cs t) (v : Value) : blk (W.setCell ⟨b, o, none⟩ v) b (cs.setIfInBounds o v) t := block_setCell h v
theorem blk_other {W : World} {b c o : Nat} {cs : Array Value} {t : TypeId} (h : blk W b cs t) (hne : c ≠ b) (v : Value) : blk (W.setCell ⟨c, o, none⟩ v) b cs t := (block_setCell_ne v hne).trans h
theorem Sl.inW {α : Type} {A : Area} {w : World} {k : Nat} {R : List Value → α → Prop} {ao : Option Addr} {cap : Nat} {l : List α} (h : Sl A w (k + 1) R ao cap l) : Sl (fun b => b < w.heap.size) w (k + 1) R ao cap l := by
  refine ⟨h.cap_le, h.cap_max, fun i hi => ?_⟩
  obtain ⟨b, off, cs, h1, h2, h3, h4, h5⟩ := h.elem i hi
  exact ⟨b, off, cs, h1, lt_of_cell (h5 0 (by omega)), h3, h4, h5⟩
theorem KG_t {own : World → Nat → Prop} {G : World → Prop} {A B C : World} (h : KG own G A B) (k : KG own G B C) : KG own G A C := fun g => ⟨(h g).1.trans (k (h g).2).1, (k (h g).2).2⟩
theorem ownFrom_blk {β : Type} (B b : Nat) (f : β → Array Value) (t : TypeId) : OwnFrom B (fun s W => blk W b (f s) t) := fun _ _ _ _ hs hg hr => blk_kept hs hg fun r e => (hr r e).2
theorem ownFrom_size {β : Type} (B n : Nat) : OwnFrom B (fun (_ : β) W => n ≤ W.heap.size) := fun _ _ _ _ hs hg _ => Nat.le_trans hs hg.size
abbrev noOwn : World → Nat → Prop := fun _ _ => False
abbrev noG : World → Prop := fun _ => True
theorem KG_no {W W' : World} (h : Ext W W') : KG noOwn noG W W' := fun _ => ⟨KP.of h fun _ h => h, trivial⟩
theorem KG_no_put {w : World} (W : World) (l : Nat) (o o' : Obj) (_ : w.heap.size ≤ l) (h : W.heap[l]? = some o) (hc : o.isCells = false) (_ : o.isWalk = false) : KG noOwn noG W (W.putObj l o') := fun _ =>
  ⟨⟨(grownBy_putObj' W l o').size, fun b c t f _ hb => ((grownBy_putObj' W l o').block b (lt_of_block hb) (fun e => by cases e; rw [h] at hb; cases hb; cases hc)).trans hb, fun b _ ho => ho⟩, trivial⟩
/-- The loop's state: what has come does not fit; the boxes. -/
def FitI (w w1 : World) (size : Int) (pre : List Pfx) (W : World) : Prop :=
  ((∀ y ∈ pre, decide (y.len ≤ size) = false) ∧ blk W (w.heap.size + 1) #[.int .i64 size] 3 ∧ blk W (w.heap.size + 2) #[.int .i64 0, .int .i64 0] 23 ∧ blk W (w.heap.size + 3) #[.bool false] 4 ∧ blk W (w.heap.size + 4) #[.int .i64 0] 27 ∧ w1.heap.size ≤ W.heap.size) ∧ Below w.heap.size w W
def FitX (w : World) (size : Int) (c : Code) (pre : List Pfx) (W : World) : Prop :=
  (c = .ret ∧ ∃ q x, pre = q ++ [x] ∧ decide (x.len ≤ size) = true ∧ (∀ y ∈ q, decide (y.len ≤ size) = false) ∧ blk W (w.heap.size + 2) #[.int .i64 x.at_, .int .i64 size] 23 ∧ blk W (w.heap.size + 3) #[.bool true] 4 ∧ blk W (w.heap.size + 4) #[.int .i64 0] 27) ∧ Below w.heap.size w W
theorem fitI_own (w w1 : World) (size : Int) (B : Nat) (hB : w.heap.size ≤ B) : OwnFrom B (FitI w w1 size) := by
  intro s X Y row h hg hr
  obtain ⟨⟨h1, h2, h3, h4, h5, h6⟩, h7⟩ := h
  have hr' : ∀ r, row = some r → ∃ o : Obj, X.heap[r]? = some o ∧ o.isCells = false := fun r e => (hr r e).2
  exact ⟨⟨h1, blk_kept h2 hg hr', blk_kept h3 hg hr', blk_kept h4 hg hr', blk_kept h5 hg hr', Nat.le_trans h6 hg.size⟩, h7.grown hg h7.size (fun k e => Nat.le_trans hB (hr k e).1)⟩
theorem fitX_own (w : World) (size : Int) (c : Code) (B : Nat) (hB : w.heap.size ≤ B) : OwnFrom B (FitX w size c) := by
  intro s X Y row h hg hr
  obtain ⟨⟨h1, q, x, h2, h3, h4, h5, h6, h7⟩, h8⟩ := h
  have hr' : ∀ r, row = some r → ∃ o : Obj, X.heap[r]? = some o ∧ o.isCells = false := fun r e => (hr r e).2
  exact ⟨⟨h1, q, x, h2, h3, h4, blk_kept h5 hg hr', blk_kept h6 hg hr', blk_kept h7 hg hr'⟩, h8.grown hg h8.size (fun k e => Nat.le_trans hB (hr k e).1)⟩
/-- The frame of a round. -/
def fitAct (w w1 : World) (root : Pfx) (uo : Option Addr) (n ucap : Nat) (size : Int) (x : Pfx) (Bx : Nat) : Act :=
  { tmps := #[.agg #[.int .i64 root.at_, .int .i64 root.len, .slice uo n ucap], .int .i64 size, .pointer (some ⟨w.heap.size, 0, none⟩), .pointer (some ⟨w.heap.size + 1, 0, none⟩), .pointer (some ⟨w.heap.size + 1 + 1, 0, none⟩), .pointer (some ⟨w.heap.size + 1 + 1 + 1, 0, none⟩), .pointer (some ⟨w.heap.size + 1 + 1 + 1 + 1, 0, none⟩), .int .i64 0, .pointer (some ⟨Bx, 0, none⟩),
    .agg #[.int .i64 root.at_, .int .i64 root.len, .slice uo n ucap], .int .i64 0, .int .i64 0, .bool false, undef, undef, .int .i64 size, .pointer (some ⟨w.heap.size, 0, none⟩), .pointer (some ⟨w.heap.size, 1, none⟩), .int .i64 root.len, .bool false, .bool false, .int .i64 size, .bool false, .bool false, undef, .pointer (some ⟨w.heap.size, 0, none⟩), .agg #[.int .i64 root.at_, .int .i64 root.len], .pointer (some ⟨w.heap.size, 2, none⟩), .slice uo n ucap,
    .func (.func 43) #[] #[.pointer (some ⟨w1.heap.size, 0, none⟩), .pointer (some ⟨w1.heap.size + 1, 0, none⟩)], .agg #[.int .i64 x.at_, .int .i64 x.len], undef, undef, undef, undef, undef, undef, undef, undef, undef], defers := [] }
def FitAx (w w1 : World) (root : Pfx) (uo : Option Addr) (n ucap : Nat) (size : Int) (x : Pfx) (a' : Act) (W : World) : Prop :=
  ∃ Bx, w1.heap.size ≤ Bx ∧ blk W Bx #[.int .i64 x.at_, .int .i64 x.len] 23 ∧ a' = fitAct w w1 root uo n ucap size x Bx
set_option maxHeartbeats 2000000 in
set_option maxRecDepth 100000 in
theorem fit_loop {A : Area} (root : Pfx) (us : List Pfx) (uo : Option Addr) (ucap : Nat) (size : Int) (w : World) (h : Sl A w 2 Pfx.R uo ucap us) (hck0 : chkS root us = 0) (h1 : root.len ≤ size) (h2 : size ≤ 16) :
    Calls Try.prog 7 #[.agg #[.int .i64 root.at_, .int .i64 root.len, .slice uo us.length ucap], .int .i64 size] w fun e w' =>
      e = .returned (.tuple #[(fitS root us size).1.v, .bool (fitS root us size).2.1, .int .i64 (fitS root us size).2.2]) ∧ Ext w w' := by
  have hck := fun W (h : Sl A W 2 Pfx.R uo ucap us) => spaceCheck_any root us uo ucap W h
  rw [hck0] at hck
  replace hck := Lib.hid hck
  have hwk := fun W => walk_any root uo us.length ucap W
  unfold Pfx.v at hwk
  replace hwk := Lib.hid hwk
  refine (callsIn_wide (n := 3)).1 ?_
  refine callsIn_of_wp_marks Try.func7 rfl trivial ?_ rfl
  simp only [Try.ntmps7, List.size_toArray, List.length_cons, List.length_nil, Nat.reduceAdd, Nat.reduceSub, Array.replicate_succ, Array.replicate_zero, List.push_toArray, List.append_toArray, List.nil_append, List.cons_append]
  gi_wp2_with fail
  refine ⟨trivial, ?_⟩
  refine (callsIn_wide.2 (hck.out _ (h.ext (ext_trans (ext_alloc _ _) (ext_trans (ext_alloc _ _) (ext_trans (ext_alloc _ _) (ext_trans (ext_alloc _ _) (ext_alloc _ _)))))))).mono ?_
  rintro e w1 ⟨rfl, hw1⟩
  obtain ⟨hcw1, hfw1⟩ := bcell hw1
  have hzw1 := bsize hw1
  (try simp only [World.size_alloc, World.size_setCell, World.size_drew, World.heap_drewN] at hcw1 hfw1 hzw1)
  have l1 : w.heap.size < w1.heap.size := by omega
  have l2 : w.heap.size + 1 < w1.heap.size := by omega
  gi_wp2_with fail

  refine ⟨trivial, ?_⟩
  refine (callsIn_wide.2 (hwk.out _)).mono ?_
  rintro e w2 ⟨rfl, rfl⟩
  have b0 : blk w1 w.heap.size #[.int .i64 root.at_, .int .i64 root.len, .slice uo us.length ucap] 26 := blk_ext (block_alloc (block_alloc (block_alloc (block_alloc (block_new' _ (by simp)))))) hw1
  have b1 : blk w1 (w.heap.size + 1) #[.int .i64 size] 3 := blk_ext (block_alloc (block_alloc (block_alloc (block_new' _ (by simp))))) hw1
  have b2 : blk w1 (w.heap.size + 2) #[.int .i64 0, .int .i64 0] 23 := blk_ext (block_alloc (block_alloc (block_new' _ (by simp)))) hw1
  have b3 : blk w1 (w.heap.size + 3) #[.bool false] 4 := blk_ext (block_alloc (block_new' _ (by simp))) hw1
  have b4 : blk w1 (w.heap.size + 4) #[.int .i64 0] 27 := blk_ext (block_new' _ (by simp)) hw1
  have hlo : decide (size < root.len) = false := by simp; omega
  have hhi : decide (16 < size) = false := by simp; omega
  gi_wp2_with fail
  have hx2 : Ext w1 ((w1.alloc (.cells #[.int .i64 root.at_, .int .i64 root.len] 23)).alloc (.cells #[.slice uo us.length ucap] 24)) := ext_trans (ext_alloc _ _) (ext_alloc _ _)
  have hxx : Ext w w1 := ext_trans (ext_trans (ext_alloc _ _) (ext_trans (ext_alloc _ _) (ext_trans (ext_alloc _ _) (ext_trans (ext_alloc _ _) (ext_alloc _ _))))) hw1
  have hlen : 16 - root.len = (((16 - root.len).toNat : Nat) : Int) := by omega
  have hroot : root.right = true := by
    unfold chkS at hck0
    split at hck0 <;> (try split at hck0) <;> simp_all [Pfx.right, rightB]
  refine wpIn_rangeFunc_ownH rfl (by omega) (gf := 43) (lb := #[.pointer (some ⟨w1.heap.size, 0, none⟩), .pointer (some ⟨w1.heap.size + 1, 0, none⟩)]) rfl trivial (enters_of Try.func43 (by kernel_rfl) rfl)
    (walk_stops noOwn noG 2 w1.heap.size w1.heap.size (w1.heap.size + 1) us uo ucap root _ hlen hroot _ trivial (fun _ _ _ h => h.elim) (fun _ _ _ _ _ h => h) (fun _ _ _ _ => trivial) (by simp) (by simp) (by simp) ((((h.ext hxx).inW).ext hx2))) KG_t (KG_no_put (w := ((w1.alloc (.cells #[.int .i64 root.at_, .int .i64 root.len] 23)).alloc (.cells #[.slice uo us.length ucap] 24)))) (Below.refl _ _) (fun _ => rfl)
    (FitI w w1 size) (FitX w size) (fitI_own w w1 size _ (by simp; omega)) (fun c => fitX_own w size c _ (by simp; omega))
    ⟨⟨by simp, blk_ext b1 hx2, blk_ext b2 hx2, blk_ext b3 hx2, blk_ext b4 hx2, hx2.size⟩, (ext_trans hxx hx2).mono (Nat.le_refl _)⟩
    (FitAx w w1 root uo us.length ucap size) (fun x a' => by
      intro s X Y row h hg hr
      obtain ⟨Bx, h1, h2, h3⟩ := h
      exact ⟨Bx, h1, blk_kept h2 hg (fun r e => (hr r e).2), h3⟩) ?assign ?body ?done ?stop
  case assign =>
    intro l pre x W K hi hK
    have hi' := hi
    obtain ⟨⟨-, -, -, -, -, hsz⟩, hB⟩ := hi'
    unfold Pfx.v
    gi_wp2
    refine hK _ _ ((KeepsOthers.alloc _ _).from _) (KG_no (ext_alloc _ _)) (fitI_own w w1 size w.heap.size (Nat.le_refl _) _ _ _ none hi (World.grownBy_alloc _ _ _) (fun r e => by cases e)) ⟨W.heap.size, hsz, block_new _ _, rfl⟩
  case body =>
    rintro l pre x a' W hl ⟨r, hr⟩ hi ⟨Bx, hBx, bX, rfl⟩ hlt
    obtain ⟨⟨hp, c1, c2, c3, c4, hsz⟩, hB⟩ := hi
    have x0 := blk_cell (o := 0) bX rfl
    have x1 := blk_cell (o := 1) bX rfl
    have s0 := blk_cell (o := 0) c1 rfl
    have p0 := blk_cell (o := 0) c2 rfl
    have p1 := blk_cell (o := 1) c2 rfl
    have q0 := blk_cell (o := 0) c3 rfl
    have r0 := blk_cell (o := 0) c4 rfl
    have f2 : ∀ o, W.frozen? ⟨w.heap.size + 2, o, none⟩ = false := fun o => blk_free c2
    have f3 : ∀ o, W.frozen? ⟨w.heap.size + 3, o, none⟩ = false := fun o => blk_free c3
    have f4 : ∀ o, W.frozen? ⟨w.heap.size + 4, o, none⟩ = false := fun o => blk_free c4
    unfold fitAct
    cases hx : decide (x.len ≤ size)
    · have Hx := Lib.hid hx
      gi_wp2
      exact ⟨(KeepsOthers.refl _).from _, KG_no (Below.refl _ _), ⟨⟨fun y hy => (List.mem_append.1 hy).elim (hp y) (fun e => by simp at e; rw [e]; exact Hx.out), c1, c2, c3, c4, hsz⟩, hB⟩⟩
    · have Hx := Lib.hid hx
      gi_wp2
      refine ⟨((((KeepsOthers.setCell _ _ _).trans (KeepsOthers.setCell _ _ _)).trans (KeepsOthers.setCell _ _ _)).trans (KeepsOthers.setCell _ _ _)).from _, ⟨⟨rfl, pre, x, rfl, Hx.out, hp, ?_, ?_, ?_⟩, ?_⟩⟩
      · exact blk_other (blk_other (blk_set (blk_set c2 _) _) (by omega) _) (by omega) _
      · exact blk_other (blk_set (blk_other (blk_other c3 (by omega) _) (by omega) _) _) (by omega) _
      · exact blk_set (blk_other (blk_other (blk_other c4 (by omega) _) (by omega) _) (by omega) _) _
      · exact (((hB.setCell (p := ⟨w.heap.size + 2, 0, none⟩) (by simp) _).setCell (p := ⟨w.heap.size + 2, 1, none⟩) (by simp) _).setCell (p := ⟨w.heap.size + 3, 0, none⟩) (by simp) _).setCell (p := ⟨w.heap.size + 4, 0, none⟩) (by simp) _
  case done =>
    rintro D ys W hD rfl ⟨⟨hne, c1, c2, c3, c4, hsz⟩, hB⟩ hK
    have p0 := blk_cell (o := 0) c2 rfl
    have p1 := blk_cell (o := 1) c2 rfl
    have q0 := blk_cell (o := 0) c3 rfl
    have r0 := blk_cell (o := 0) c4 rfl
    have f2 : ∀ o, W.frozen? ⟨w.heap.size + 2, o, none⟩ = false := fun o => blk_free c2
    have f3 : ∀ o, W.frozen? ⟨w.heap.size + 3, o, none⟩ = false := fun o => blk_free c3
    have f4 : ∀ o, W.frozen? ⟨w.heap.size + 4, o, none⟩ = false := fun o => blk_free c4
    have hfit : fitS root us size = (Pfx.zero, false, 0) := by
      unfold fitS
      rw [if_pos hck0, if_neg (by omega)]
      have : (holesS root us).find? (fun q => decide (q.len ≤ size)) = none := by
        rw [List.find?_eq_none]
        intro q hq
        rw [hne q hq]; simp
      rw [this]
    replace hfit := Lib.hid hfit
    replace hne := Lib.hid hne
    have hK' := ((((KeepsOthers.setCell W ⟨w.heap.size + 2, 0, none⟩ (.int .i64 0)).trans (KeepsOthers.setCell _ ⟨w.heap.size + 2, 1, none⟩ (.int .i64 0))).trans (KeepsOthers.setCell _ ⟨w.heap.size + 3, 0, none⟩ (.bool false))).trans (KeepsOthers.setCell _ ⟨w.heap.size + 4, 0, none⟩ (.int .i64 0))).same D _ hK rfl
    have e2 := blk_kept (blk_other (c := w.heap.size + 4) (o := 0) (blk_other (c := w.heap.size + 3) (o := 0) (blk_set (o := 1) (blk_set (o := 0) c2 (.int .i64 0)) (.int .i64 0)) (by omega) (.bool false)) (by omega) (.int .i64 0)) (grownBy_putObj' _ D (.deferred none)) (fun r e => by cases e; exact ⟨_, hK', rfl⟩)
    have e3 := blk_kept (blk_other (c := w.heap.size + 4) (o := 0) (blk_set (o := 0) (blk_other (c := w.heap.size + 2) (o := 1) (blk_other (c := w.heap.size + 2) (o := 0) c3 (by omega) (.int .i64 0)) (by omega) (.int .i64 0)) (.bool false)) (by omega) (.int .i64 0)) (grownBy_putObj' _ D (.deferred none)) (fun r e => by cases e; exact ⟨_, hK', rfl⟩)
    have e4 := blk_kept (blk_set (o := 0) (blk_other (c := w.heap.size + 3) (o := 0) (blk_other (c := w.heap.size + 2) (o := 1) (blk_other (c := w.heap.size + 2) (o := 0) c4 (by omega) (.int .i64 0)) (by omega) (.int .i64 0)) (by omega) (.bool false)) (.int .i64 0)) (grownBy_putObj' _ D (.deferred none)) (fun r e => by cases e; exact ⟨_, hK', rfl⟩)
    have hB4 := ((((hB.setCell (p := ⟨w.heap.size + 2, 0, none⟩) (by simp) (.int .i64 0)).setCell (p := ⟨w.heap.size + 2, 1, none⟩) (by simp) (.int .i64 0)).setCell (p := ⟨w.heap.size + 3, 0, none⟩) (by simp) (.bool false)).setCell (p := ⟨w.heap.size + 4, 0, none⟩) (by simp) (.int .i64 0)).trans (belowK_b (w := w) (Nat.le_refl _) _ D _ (.deferred none) (by simp at hD; omega) hK' rfl rfl)
    gi_wp2
    refine ⟨by simp, .inl ⟨_, _, rfl, run_takeDeferred hK', ?_⟩⟩
    refine ⟨.tuple #[Pfx.zero.v, .bool false, .int .i64 0], ?_, by rw [hfit.out], hB4⟩
    have y0 := blk_cell (o := 0) e2 rfl
    have y1 := blk_cell (o := 1) e2 rfl
    have y2 := blk_cell (o := 0) e3 rfl
    have y3 := blk_cell (o := 0) e4 rfl
    unfold Pfx.zero Pfx.v
    simp [results, Try.f7, go_sem, y0, y1, y2, y3]
  case stop =>
    rintro D c pre W hD hpre ⟨⟨rfl, q, x, hq, hx, hn, c2, c3, c4⟩, hB⟩ hK
    have hfit : fitS root us size = (⟨x.at_, size⟩, true, 0) := by
      unfold fitS
      rw [if_pos hck0, if_neg (by omega)]
      have : (holesS root us).find? (fun q => decide (q.len ≤ size)) = some x := by
        obtain ⟨r, hr⟩ := hpre
        unfold holesS
        rw [← hr, hq, List.append_assoc, List.find?_append]
        have h1 : q.find? (fun q => decide (q.len ≤ size)) = none := by
          rw [List.find?_eq_none]
          intro y hy
          rw [hn y hy]; simp
        rw [h1]
        simp only [List.cons_append, List.find?_cons, hx, Option.none_or]
      rw [this]
    replace hfit := Lib.hid hfit
    replace hn := Lib.hid hn
    replace hq := Lib.hid hq
    replace hpre := Lib.hid hpre
    have e2 := blk_kept c2 (grownBy_putObj' _ D (.deferred none)) (fun r e => by cases e; exact ⟨_, hK, rfl⟩)
    have e3 := blk_kept c3 (grownBy_putObj' _ D (.deferred none)) (fun r e => by cases e; exact ⟨_, hK, rfl⟩)
    have e4 := blk_kept c4 (grownBy_putObj' _ D (.deferred none)) (fun r e => by cases e; exact ⟨_, hK, rfl⟩)
    have hB4 := hB.trans (belowK_b (w := w) (Nat.le_refl _) _ D _ (.deferred none) (by simp at hD; omega) hK rfl rfl)
    gi_wp2
    refine ⟨by simp, .inl ⟨_, _, rfl, run_takeDeferred hK, ?_⟩⟩
    refine ⟨.tuple #[Pfx.v ⟨x.at_, size⟩, .bool true, .int .i64 0], ?_, by rw [hfit.out], hB4⟩
    have y0 := blk_cell (o := 0) e2 rfl
    have y1 := blk_cell (o := 1) e2 rfl
    have y2 := blk_cell (o := 0) e3 rfl
    have y3 := blk_cell (o := 0) e4 rfl
    unfold Pfx.v
    simp [results, Try.f7, go_sem, y0, y1, y2, y3]
set_option maxHeartbeats 1000000 in
set_option maxRecDepth 100000 in
theorem fit_any {A : Area} (root : Pfx) (us : List Pfx) (uo : Option Addr) (ucap : Nat) (size : Int) (w : World) (h : Sl A w 2 Pfx.R uo ucap us) :
    Calls Try.prog 7 #[.agg #[.int .i64 root.at_, .int .i64 root.len, .slice uo us.length ucap], .int .i64 size] w fun e w' =>
      e = .returned (.tuple #[(fitS root us size).1.v, .bool (fitS root us size).2.1, .int .i64 (fitS root us size).2.2]) ∧ Ext w w' := by
  by_cases h0 : chkS root us = 0
  · by_cases h1 : root.len ≤ size ∧ size ≤ 16
    · exact fit_loop root us uo ucap size w h h0 h1.1 h1.2
    · have hf : fitS root us size = (Pfx.zero, false, 3) := by unfold fitS; rw [if_pos h0, if_pos (by omega)]
      rw [hf]
      have hck := fun W (h : Sl A W 2 Pfx.R uo ucap us) => spaceCheck_any root us uo ucap W h
      rw [h0] at hck
      replace hck := Lib.hid hck
      clear hf h0
      unfold Pfx.zero Pfx.v
      by_cases h2 : size < root.len
      · have hlo : decide (size < root.len) = true := by simp [h2]
        clear h1
        go_enter Try.func7, Try.ntmps7
        go_wp2_with fail
        refine (hck.out _ (h.ext (ext_trans (ext_alloc _ _) (ext_trans (ext_alloc _ _) (ext_trans (ext_alloc _ _) (ext_trans (ext_alloc _ _) (ext_alloc _ _))))))).mono ?_
        rintro e w1 ⟨rfl, hw1⟩
        obtain ⟨hcw1, hfw1⟩ := bcell hw1
        have hzw1 := bsize hw1
        (try simp only [World.size_alloc, World.size_setCell, World.size_drew, World.heap_drewN] at hcw1 hfw1 hzw1)
        go_wp2_with fail
        refine bodyPost_ret ?_ rfl ⟨rfl, Bel.bel (B := _) ?_⟩
        · simp [results, Try.results7, go_sem, hcw1]
        · (repeat (first | with_reducible assumption | with_reducible exact Bel.refl _ | with_reducible refine Bel.alloc ?_ _ | with_reducible refine Bel.drewN ?_ _ | with_reducible refine Bel.drew ?_ | (with_reducible refine Bel.setCell0 ?_ ?_ _; rotate_left; (first | omega | (simp; done) | (simp; omega))) | (with_reducible refine Bel.setCell ?_ (p := _) ?_ _; rotate_left; (first | (simp; done) | omega | (simp; omega))) | refine Bel.call ?_ (by assumption) | (refine EX.bel ?_ (by assumption) ?_; rotate_left; (first | omega | (simp; omega)))))
      · have hlo : decide (size < root.len) = false := by simp [h2]
        have hhi : decide (16 < size) = true := by simp; omega
        clear h1
        go_enter Try.func7, Try.ntmps7
        go_wp2_with fail
        refine (hck.out _ (h.ext (ext_trans (ext_alloc _ _) (ext_trans (ext_alloc _ _) (ext_trans (ext_alloc _ _) (ext_trans (ext_alloc _ _) (ext_alloc _ _))))))).mono ?_
        rintro e w1 ⟨rfl, hw1⟩
        obtain ⟨hcw1, hfw1⟩ := bcell hw1
        have hzw1 := bsize hw1
        (try simp only [World.size_alloc, World.size_setCell, World.size_drew, World.heap_drewN] at hcw1 hfw1 hzw1)
        go_wp2_with fail
        refine bodyPost_ret ?_ rfl ⟨rfl, Bel.bel (B := _) ?_⟩
        · simp [results, Try.results7, go_sem, hcw1]
        · (repeat (first | with_reducible assumption | with_reducible exact Bel.refl _ | with_reducible refine Bel.alloc ?_ _ | with_reducible refine Bel.drewN ?_ _ | with_reducible refine Bel.drew ?_ | (with_reducible refine Bel.setCell0 ?_ ?_ _; rotate_left; (first | omega | (simp; done) | (simp; omega))) | (with_reducible refine Bel.setCell ?_ (p := _) ?_ _; rotate_left; (first | (simp; done) | omega | (simp; omega))) | refine Bel.call ?_ (by assumption) | (refine EX.bel ?_ (by assumption) ?_; rotate_left; (first | omega | (simp; omega)))))
  · have hf : fitS root us size = (Pfx.zero, false, chkS root us) := by unfold fitS; rw [if_neg h0]
    rw [hf]
    have hck := fun W (h : Sl A W 2 Pfx.R uo ucap us) => spaceCheck_any root us uo ucap W h
    obtain ⟨c, hc⟩ : ∃ c, c = chkS root us := ⟨_, rfl⟩
    rw [← hc] at hck h0 ⊢
    have hne : (c != 0) = true := by simpa using h0
    replace hck := Lib.hid hck
    clear hf h0 hc
    unfold Pfx.zero Pfx.v
    go_enter Try.func7, Try.ntmps7
    go_wp2_with fail
    refine (hck.out _ (h.ext (ext_trans (ext_alloc _ _) (ext_trans (ext_alloc _ _) (ext_trans (ext_alloc _ _) (ext_trans (ext_alloc _ _) (ext_alloc _ _))))))).mono ?_
    rintro e w1 ⟨rfl, hw1⟩
    obtain ⟨hcw1, hfw1⟩ := bcell hw1
    have hzw1 := bsize hw1
    (try simp only [World.size_alloc, World.size_setCell, World.size_drew, World.heap_drewN] at hcw1 hfw1 hzw1)
    go_wp2_with fail
    refine bodyPost_ret ?_ rfl ⟨rfl, Bel.bel (B := _) ?_⟩
    · simp [results, Try.results7, go_sem, hcw1]
    · (repeat (first | with_reducible assumption | with_reducible exact Bel.refl _ | with_reducible refine Bel.alloc ?_ _ | with_reducible refine Bel.drewN ?_ _ | with_reducible refine Bel.drew ?_ | (with_reducible refine Bel.setCell0 ?_ ?_ _; rotate_left; (first | omega | (simp; done) | (simp; omega))) | (with_reducible refine Bel.setCell ?_ (p := _) ?_ _; rotate_left; (first | (simp; done) | omega | (simp; omega))) | refine Bel.call ?_ (by assumption) | (refine EX.bel ?_ (by assumption) ?_; rotate_left; (first | omega | (simp; omega)))))
end Go.Proofs.Ytflbpkgnadjokaa
namespace Go.Proofs.Ytflbpkgnadjokaa
open Go Go.RowKit Go.Proofs
/-- Behind a prefix's last address. -/
def Pfx.hi (p : Pfx) : Int := p.at_ + szI p.len
theorem Pfx.bd {p : Pfx} (h : p.right = true) : 0 ≤ p.len ∧ p.len ≤ 16 ∧ 0 ≤ p.at_ ∧ p.at_ ≤ 65535 ∧ p.at_ % szI p.len = 0 := right_bd h
theorem Pfx.hi_bd {p : Pfx} (h : p.right = true) : p.at_ < p.hi ∧ p.hi ≤ 65536 := by
  have h1 := right_fit h
  obtain ⟨g1, -⟩ := p.bd h
  have h2 := szI_bd g1
  unfold Pfx.hi; omega
/-- An address lies in an aligned block just if its block begins there. -/
theorem blk_iff {s a b : Int} (hs : 0 < s) (hb : b % s = 0) : a - a % s = b ↔ b ≤ a ∧ a < b + s := by
  have h1 := Int.emod_nonneg a (b := s) (by omega)
  have h2 := Int.emod_lt_of_pos a hs
  constructor
  · intro h; omega
  · intro ⟨h3, h4⟩
    have h5 : (a - b) % s = a % s := by rw [Int.sub_emod, hb, Int.sub_zero, Int.emod_emod]
    rw [Int.emod_eq_of_lt (by omega) (by omega)] at h5
    omega
theorem dvd_step {s x : Int} (hs : 0 < s) (hx : 0 < x) (hd : s ∣ x) : s ≤ x := Int.le_of_dvd hx hd
/-- Two right prefixes, the second no longer: they meet just if the first lies in the second. -/
theorem nest {p q : Pfx} (hp : p.right = true) (hq : q.right = true) (hl : q.len ≤ p.len) (h1 : p.at_ < q.hi) (h2 : q.at_ < p.hi) : q.at_ ≤ p.at_ ∧ p.hi ≤ q.hi := by
  obtain ⟨a1, a2, a3, a4, a5⟩ := p.bd hp
  obtain ⟨b1, b2, b3, b4, b5⟩ := q.bd hq
  obtain ⟨k, hk, hk1⟩ := szI_dvd b1 hl a2
  have s1 := szI_bd a1
  have s2 := szI_bd b1
  unfold Pfx.hi at *
  have dq : szI p.len ∣ q.at_ := Int.dvd_trans ⟨k, hk⟩ (Int.dvd_of_emod_eq_zero b5)
  have dp : szI p.len ∣ p.at_ := Int.dvd_of_emod_eq_zero a5
  have dm : szI p.len ∣ szI q.len := ⟨k, hk⟩
  refine ⟨?_, ?_⟩
  · rcases Int.lt_or_le p.at_ q.at_ with h | h
    · have := dvd_step (by omega) (show 0 < q.at_ - p.at_ by omega) (Int.dvd_sub dq dp)
      omega
    · exact h
  · have := dvd_step (by omega) (show 0 < q.at_ + szI q.len - p.at_ by omega) (Int.dvd_sub (Int.dvd_add dq dm) dp)
    omega
theorem insQ_iff {p q : Pfx} : insQ p q = true ↔ p.right = true ∧ q.right = true ∧ q.len ≤ p.len ∧ q.at_ ≤ p.at_ ∧ p.at_ < q.hi := by
  unfold insQ insP Pfx.right
  constructor
  · intro h
    simp only [Bool.and_eq_true, decide_eq_true_eq, beq_iff_eq] at h
    obtain ⟨⟨⟨h1, h2⟩, h3⟩, h4⟩ := h
    obtain ⟨b1, b2, b3, b4, b5⟩ := right_bd h2
    have := (blk_iff (by have := szI_bd b1; omega) b5).1 h4
    exact ⟨h1, h2, h3, this.1, this.2⟩
  · intro ⟨h1, h2, h3, h4, h5⟩
    obtain ⟨b1, b2, b3, b4, b5⟩ := right_bd h2
    simp only [Bool.and_eq_true, decide_eq_true_eq, beq_iff_eq]
    exact ⟨⟨⟨h1, h2⟩, h3⟩, (blk_iff (by have := szI_bd b1; omega) b5).2 ⟨h4, h5⟩⟩
theorem le_mul1 {s k : Int} (hs : 0 ≤ s) (hk : 1 ≤ k) : s ≤ s * k := by
  have := Int.mul_le_mul_of_nonneg_left hk hs
  rwa [Int.mul_one] at this
theorem szI_le {l m : Int} (h0 : 0 ≤ m) (h2 : l ≤ 16) (h3 : 0 ≤ l) (hm : m ≤ 16) : szI l ≤ szI m ↔ m ≤ l := by
  constructor
  · intro h
    rcases Int.lt_or_le l m with hlt | hle
    · obtain ⟨k, hk, hk1⟩ := szI_dvd (l := m) (m := l + 1) (by omega) (by omega) hm
      have e := szI_half h3 (by omega)
      have s1 := szI_bd h0
      have : szI m ≤ szI (l + 1) := by rw [hk]; exact le_mul1 (by have := szI_bd (n := l + 1) (by omega); omega) hk1
      omega
    · exact hle
  · intro h
    obtain ⟨k, hk, hk1⟩ := szI_dvd h0 h h2
    rw [hk]
    exact le_mul1 (by have := szI_bd h3; omega) hk1
theorem insQ_hi {p q : Pfx} : insQ p q = true ↔ p.right = true ∧ q.right = true ∧ q.at_ ≤ p.at_ ∧ p.hi ≤ q.hi := by
  rw [insQ_iff]
  constructor
  · intro ⟨h1, h2, h3, h4, h5⟩
    exact ⟨h1, h2, nest h1 h2 h3 h5 (by have := p.hi_bd h1; omega)⟩
  · intro ⟨h1, h2, h3, h4⟩
    have hp := p.hi_bd h1
    obtain ⟨a1, a2, -⟩ := p.bd h1
    obtain ⟨b1, b2, -⟩ := q.bd h2
    exact ⟨h1, h2, (szI_le b1 a2 a1 b2).1 (by unfold Pfx.hi at *; omega), h3, by omega⟩
/-- The reference's inside is the program's. -/
theorem insR_eq (p q : Pfx) : insR p.at_ p.len q.at_ q.len = insQ p q := by
  rw [Bool.eq_iff_iff, insQ_hi]
  unfold insR holdB within lastI Pfx.right Pfx.hi
  simp only [Bool.and_eq_true, decide_eq_true_eq]
  constructor
  · intro ⟨⟨⟨h1, h2⟩, h3⟩, h4⟩
    exact ⟨h1, h2, h3.2.1, by omega⟩
  · intro ⟨h1, h2, h3, h4⟩
    obtain ⟨a1, -⟩ := right_bd h1
    have s1 := szI_bd a1
    exact ⟨⟨⟨h1, h2⟩, ⟨h2, h3, by omega⟩⟩, ⟨h2, by omega, by omega⟩⟩
theorem meets_iff {p q : Pfx} : p.meets q = true ↔ p.right = true ∧ q.right = true ∧ p.at_ < q.hi ∧ q.at_ < p.hi := by
  have e : p.meets q = (insQ p q || insQ q p) := rfl
  rw [e, Bool.or_eq_true, insQ_iff, insQ_iff]
  constructor
  · rintro (⟨h1, h2, h3, h4, h5⟩ | ⟨h1, h2, h3, h4, h5⟩)
    · exact ⟨h1, h2, h5, by have := p.hi_bd h1; omega⟩
    · exact ⟨h2, h1, by have := q.hi_bd h1; omega, h5⟩
  · intro ⟨h1, h2, h3, h4⟩
    rcases Int.le_total q.len p.len with hl | hl
    · exact .inl ⟨h1, h2, hl, (nest h1 h2 hl h3 h4).1, h3⟩
    · exact .inr ⟨h2, h1, hl, (nest h2 h1 hl h4 h3).1, h4⟩
theorem meetB_eq (p q : Pfx) : meetB p.at_ p.len q.at_ q.len = p.meets q := by
  rw [Bool.eq_iff_iff, meets_iff]
  unfold meetB lastI Pfx.right Pfx.hi
  simp only [Bool.and_eq_true, decide_eq_true_eq]
  constructor
  · intro ⟨⟨⟨h1, h2⟩, h3⟩, h4⟩; exact ⟨h1, h2, by omega, by omega⟩
  · intro ⟨h1, h2, h3, h4⟩; exact ⟨⟨⟨h1, h2⟩, by omega⟩, by omega⟩
theorem meets_comm (p q : Pfx) : p.meets q = q.meets p := by
  rw [Bool.eq_iff_iff, meets_iff, meets_iff]
  constructor <;> (intro ⟨h1, h2, h3, h4⟩; exact ⟨h2, h1, h4, h3⟩)
theorem holdB_iff {p : Pfx} {x : Int} : holdB p.at_ p.len x = true ↔ p.right = true ∧ p.at_ ≤ x ∧ x < p.hi := by
  unfold holdB within lastI Pfx.right Pfx.hi
  simp only [Bool.and_eq_true, decide_eq_true_eq]
  constructor
  · intro ⟨h1, h2, h3⟩; exact ⟨h1, h2, by omega⟩
  · intro ⟨h1, h2, h3⟩; exact ⟨h1, h2, by omega⟩
theorem holdP_eq (p : Pfx) (x : Int) : holdP p.at_ p.len x = holdB p.at_ p.len x := by
  rw [Bool.eq_iff_iff, holdB_iff]
  unfold holdP Pfx.right
  simp only [Bool.and_eq_true, decide_eq_true_eq, beq_iff_eq]
  constructor
  · intro ⟨h1, h2, h3, h4⟩
    obtain ⟨b1, b2, b3, b4, b5⟩ := right_bd h1
    have := (blk_iff (by have := szI_bd b1; omega) b5).1 h4
    exact ⟨h1, this.1, this.2⟩
  · intro ⟨h1, h2, h3⟩
    obtain ⟨b1, b2, b3, b4, b5⟩ := right_bd h1
    have hf := p.hi_bd h1
    exact ⟨h1, by omega, by omega, (blk_iff (by have := szI_bd b1; omega) b5).2 ⟨h2, h3⟩⟩
end Go.Proofs.Ytflbpkgnadjokaa
namespace Go.Proofs.Ytflbpkgnadjokaa
open Go Go.RowKit Go.Proofs
set_option maxRecDepth 100000
def meetQ (q p : Pfx) : Bool := meetB q.at_ q.len p.at_ p.len
def insRQ (p q : Pfx) : Bool := insR p.at_ p.len q.at_ q.len
set_option maxHeartbeats 1000000 in
set_option maxRecDepth 100000 in
theorem meetsUsed_any {A : Area} (root : Pfx) (us : List Pfx) (uo : Option Addr) (ucap : Nat) (p : Pfx) (w : World) (h : Sl A w 2 Pfx.R uo ucap us) :
    Calls Try.prog 31 #[.agg #[.int .i64 root.at_, .int .i64 root.len, .slice uo us.length ucap], .agg #[.int .i64 p.at_, .int .i64 p.len]] w fun e w' => e = .returned (.bool (us.any fun q => meetQ q p)) ∧ Ext w w' := by
  have hcl := h.cap_le
  have hcm := h.cap_max
  obtain ⟨r, hr⟩ : ∃ r, r = us.any fun q => meetQ q p := ⟨_, rfl⟩
  rw [← hr]
  replace hr := Lib.hid hr
  go_enter Try.func31, Try.ntmps31
  go_wp2_with fail
  go_loopw [5] (fun s5 wr => ∃ k : Nat, k ≤ us.length ∧ s5 = .int .i64 k ∧ Hid (∀ j (h : j < k) (h' : j < us.length), meetQ us[j] p = false) ∧ Ext ((w.alloc (.cells #[.int .i64 root.at_, .int .i64 root.len, .slice uo us.length ucap] 26)).alloc (.cells #[.int .i64 p.at_, .int .i64 p.len] 23)) wr) (fun s5 _ => us.length - (intOf s5).toNat)
  case atStart => exact ⟨0, Nat.zero_le _, rfl, Lib.hid (fun j hj => absurd hj (Nat.not_lt_zero _)), Below.refl _ _⟩
  case round =>
    obtain ⟨k, hk, rfl, hall, hx⟩ := hrel
    have hxx := ext_trans (ext_trans (ext_alloc _ _) (ext_alloc _ _)) hx
    obtain ⟨hcr, hfr⟩ := bcell hx
    have hzr := bsize hx
    (try simp only [World.size_alloc, World.size_setCell, World.size_drew, World.heap_drewN] at hcr hfr hzr)
    have lr : w.heap.size < wr.heap.size := by omega
    have lr1 : w.heap.size + 1 < wr.heap.size := by omega
    by_cases hlt : k < us.length
    · have hltI : (k : Int) < (us.length : Int) := by omega
      obtain ⟨b, off, cs, rfl, -, hlen, hR, hcs⟩ := h.elem k hlt
      replace hcs := cellsAt_ext hxx hcs
      unfold Pfx.R at hR
      subst hR
      obtain ⟨k0, k1⟩ := cellsAt_2 hcs
      have lb := lt_of_cell k0
      obtain ⟨y, hy⟩ : ∃ y, y = us[k] := ⟨_, rfl⟩
      rw [← hy] at k0 k1
      replace hy := Lib.hid hy
      have hm := meet_any y.at_ y.len p.at_ p.len
      obtain ⟨q, hq⟩ : ∃ q, q = meetQ y p := ⟨_, rfl⟩
      unfold meetQ at hq
      rw [← hq] at hm
      replace hq := Lib.hid hq
      replace hm := Lib.hid hm
      clear hcs h
      cases q
      case true =>
        go_wp2_with fail
        refine region_mix (by kernel_rfl) (by kernel_rfl) (fun _ _ d _ _ h => by cases d <;> exact h) ?_
        repeat (first | ((first | refine mix_skip_t rfl rfl rfl (by with_reducible rfl) ?_ | refine mix_skip_f rfl rfl rfl (by with_reducible rfl) ?_ | refine mix_skip_u rfl rfl rfl (by with_reducible rfl) ?_); simp only [Act.put, List.setIfInBounds_toArray, List.set_cons_zero, List.set_cons_succ]) | (apply mix_take; (first | exact want_0 rfl | exact want_b rfl rfl rfl (by with_reducible rfl)); intro wq hwq R hR; ((have hcc := (bcell hwq).1; (try simp only [World.size_alloc, World.size_setCell, World.size_drew, World.heap_drewN] at hcc)); go_simp; first | exact hR | ((go_at_call 28; exact mcall (hm.out _) hR))); simp only [Act.put, List.setIfInBounds_toArray, List.set_cons_zero, List.set_cons_succ]))
        refine mix_nil ?_
        intro w2 hw2
        obtain ⟨hcw2, hfw2⟩ := bcell hw2
        have hzw2 := bsize hw2
        (try simp only [World.size_alloc, World.size_setCell, World.size_drew, World.heap_drewN] at hcw2 hfw2 hzw2)
        go_wp2_with fail
        go_ret
        exact ⟨ret_bool (by rw [hr.out, List.any_eq_true.2 ⟨us[k], List.getElem_mem hlt, by rw [← hy.out]; exact hq.out.symm⟩]), ext_trans hxx hw2⟩
      case false =>
        go_wp2_with fail
        refine region_mix (by kernel_rfl) (by kernel_rfl) (fun _ _ d _ _ h => by cases d <;> exact h) ?_
        repeat (first | ((first | refine mix_skip_t rfl rfl rfl (by with_reducible rfl) ?_ | refine mix_skip_f rfl rfl rfl (by with_reducible rfl) ?_ | refine mix_skip_u rfl rfl rfl (by with_reducible rfl) ?_); simp only [Act.put, List.setIfInBounds_toArray, List.set_cons_zero, List.set_cons_succ]) | (apply mix_take; (first | exact want_0 rfl | exact want_b rfl rfl rfl (by with_reducible rfl)); intro wq hwq R hR; ((have hcc := (bcell hwq).1; (try simp only [World.size_alloc, World.size_setCell, World.size_drew, World.heap_drewN] at hcc)); go_simp; first | exact hR | ((go_at_call 28; exact mcall (hm.out _) hR))); simp only [Act.put, List.setIfInBounds_toArray, List.set_cons_zero, List.set_cons_succ]))
        refine mix_nil ?_
        intro w2 hw2
        obtain ⟨hcw2, hfw2⟩ := bcell hw2
        have hzw2 := bsize hw2
        (try simp only [World.size_alloc, World.size_setCell, World.size_drew, World.heap_drewN] at hcw2 hfw2 hzw2)
        go_wp2_with fail
        go_roundw
        case rel => exact ⟨k + 1, by omega, by go_num, Lib.hid (fun j hj hj' => by
          rcases Nat.lt_or_eq_of_le (Nat.le_of_lt_succ hj) with h1 | h1
          · exact hall.out j h1 hj'
          · subst h1; rw [← hy.out]; exact hq.out.symm), ext_trans hx hw2⟩
        case measure => simp [intOf]; omega
    · have hltI : ¬ (k : Int) < (us.length : Int) := by omega
      obtain rfl : k = us.length := by omega
      go_wp2_with fail
      go_ret
      exact ⟨ret_bool (by
        rw [hr.out, List.any_eq_false.2 (fun x hx => ?_)]
        obtain ⟨j, hj, rfl⟩ := List.mem_iff_getElem.1 hx
        rw [hall.out j hj hj]; simp), hxx⟩
def usedR (root : Pfx) : Option Pfx → List Pfx → Bool
  | _, [] => true
  | none, p :: ps => insRQ p root && usedR root (some p) ps
  | some q, p :: ps => insRQ p root && (!(decide (p.at_ ≤ q.at_) || meetQ q p) && usedR root (some p) ps)
theorem usedR_none (root p : Pfx) (ps : List Pfx) : usedR root none (p :: ps) = (insRQ p root && usedR root (some p) ps) := rfl
theorem usedR_some (root q p : Pfx) (ps : List Pfx) : usedR root (some q) (p :: ps) = (insRQ p root && (!(decide (p.at_ ≤ q.at_) || meetQ q p) && usedR root (some p) ps)) := rfl
theorem usedR_nil (root : Pfx) (q : Option Pfx) : usedR root q [] = true := by cases q <;> rfl
def chkSR (root : Pfx) (us : List Pfx) : Int := if us.length > 32 then 2 else if rightB root.at_ root.len then (if usedR root none us then 0 else 1) else 1
def prevOf (us : List Pfx) (k : Nat) : Option Pfx := if k = 0 then none else us[k - 1]?
set_option maxHeartbeats 2000000 in
set_option maxRecDepth 100000 in
theorem checkSpace_any {A : Area} (root : Pfx) (us : List Pfx) (uo : Option Addr) (ucap : Nat) (w : World) (h : Sl A w 2 Pfx.R uo ucap us) :
    Calls Try.prog 9 #[.agg #[.int .i64 root.at_, .int .i64 root.len, .slice uo us.length ucap]] w fun e w' => e = .returned (.int .i64 (chkSR root us)) ∧ Ext w w' := by
  have hcl := h.cap_le
  have hcm := h.cap_max
  have hri := rightR_any root.at_ root.len
  by_cases h32 : us.length > 32
  · have hr : chkSR root us = 2 := by unfold chkSR; rw [if_pos h32]
    rw [hr]
    have hI : (32 : Int) < (us.length : Int) := by omega
    clear hr h32 hri
    go_enter Try.func9, Try.ntmps9
    go_wp2_with fail
    go_ret
    refine ⟨rfl, Bel.bel (B := _) ?_⟩
    (repeat (first | with_reducible assumption | with_reducible exact Bel.refl _ | with_reducible refine Bel.alloc ?_ _ | with_reducible refine Bel.drewN ?_ _ | with_reducible refine Bel.drew ?_ | (with_reducible refine Bel.setCell0 ?_ ?_ _; rotate_left; (first | omega | (simp; done) | (simp; omega))) | (with_reducible refine Bel.setCell ?_ (p := _) ?_ _; rotate_left; (first | (simp; done) | omega | (simp; omega))) | refine Bel.call ?_ (by assumption) | (refine EX.bel ?_ (by assumption) ?_; rotate_left; (first | omega | (simp; omega)))))
  · have hI : (us.length : Int) ≤ 32 := by omega
    cases hR : rightB root.at_ root.len
    case false =>
      have hr : chkSR root us = 1 := by unfold chkSR; rw [if_neg h32, hR]; rfl
      rw [hr]
      rw [hR] at hri
      replace hri := Lib.hid hri
      clear hr h32 hR
      go_enter Try.func9, Try.ntmps9
      go_wp2_with fail
      refine (hri.out _).mono ?_
      rintro e w1 ⟨rfl, hw1⟩
      obtain ⟨hcw1, hfw1⟩ := bcell hw1
      have hzw1 := bsize hw1
      (try simp only [World.size_alloc, World.size_setCell, World.size_drew, World.heap_drewN] at hcw1 hfw1 hzw1)
      go_wp2_with fail
      go_ret
      refine ⟨rfl, Bel.bel (B := _) ?_⟩
      (repeat (first | with_reducible assumption | with_reducible exact Bel.refl _ | with_reducible refine Bel.alloc ?_ _ | with_reducible refine Bel.drewN ?_ _ | with_reducible refine Bel.drew ?_ | (with_reducible refine Bel.setCell0 ?_ ?_ _; rotate_left; (first | omega | (simp; done) | (simp; omega))) | (with_reducible refine Bel.setCell ?_ (p := _) ?_ _; rotate_left; (first | (simp; done) | omega | (simp; omega))) | refine Bel.call ?_ (by assumption) | (refine EX.bel ?_ (by assumption) ?_; rotate_left; (first | omega | (simp; omega)))))
    case true =>
      obtain ⟨r, hr⟩ : ∃ r, r = chkSR root us := ⟨_, rfl⟩
      rw [← hr]
      have hr2 : r = if usedR root none us then 0 else 1 := by rw [hr]; unfold chkSR; rw [if_neg h32, hR]; rfl
      rw [hR] at hri
      replace hri := Lib.hid hri
      clear hr h32 hR
      replace hr := Lib.hid hr2
      clear hr2
      go_enter Try.func9, Try.ntmps9
      go_wp2_with fail
      refine (hri.out _).mono ?_
      rintro e w1 ⟨rfl, hw1⟩
      obtain ⟨hcw1, hfw1⟩ := bcell hw1
      have hzw1 := bsize hw1
      (try simp only [World.size_alloc, World.size_setCell, World.size_drew, World.heap_drewN] at hcw1 hfw1 hzw1)
      have hx1 := ext_trans (ext_alloc _ _) hw1
      have l1 : w.heap.size < w1.heap.size := by omega
      go_wp2_with fail
      go_loopw [3] (fun s3 wr => ∃ (k : Nat), k ≤ us.length ∧ s3 = .int .i64 k ∧ Hid (usedR root none us = usedR root (prevOf us k) (us.drop k)) ∧ Ext w1 wr) (fun s3 _ => us.length - (intOf s3).toNat)
      case atStart => exact ⟨0, Nat.zero_le _, rfl, Lib.hid rfl, Below.refl _ _⟩
      case round =>
        obtain ⟨k, hk, rfl, hu, hx⟩ := hrel
        have hxx := ext_trans hx1 hx
        obtain ⟨hcr, hfr⟩ := bcell hx
        have hzr := bsize hx
        have lr : w.heap.size < wr.heap.size := by omega
        by_cases hlt : k < us.length
        · have hltI : (k : Int) < (us.length : Int) := by omega
          have hdrop : us.drop k = us[k] :: us.drop (k + 1) := List.drop_eq_getElem_cons hlt
          have hprev : prevOf us (k + 1) = some us[k] := by unfold prevOf; rw [if_neg (by omega)]; simp [List.getElem?_eq_getElem hlt]
          rw [hdrop] at hu
          clear hdrop
          obtain ⟨b, off, cs, huo, -, hlen, hRR, hcs⟩ := h.elem k hlt
          replace hcs := cellsAt_ext hxx hcs
          unfold Pfx.R at hRR
          subst hRR
          obtain ⟨k0, k1⟩ := cellsAt_2 hcs
          have lb := lt_of_cell k0
          obtain ⟨p, hp⟩ : ∃ p, p = us[k] := ⟨_, rfl⟩
          rw [← hp] at k0 k1 hu hprev
          replace hprev := Lib.hid hprev
          clear hcs hp
          have hin := insideOf_any p.at_ p.len root.at_ root.len
          obtain ⟨q, hq⟩ : ∃ q, q = insR p.at_ p.len root.at_ root.len := ⟨_, rfl⟩
          rw [← hq] at hin
          match k, hk, hlt with
          | 0, hk, hlt =>
            have hu2 : usedR root none us = (q && usedR root (some p) (us.drop 1)) := by rw [hu.out]; show usedR root none (p :: us.drop 1) = _; rw [usedR_none, hq]; rfl
            clear hu hq h
            subst huo
            rw [Nat.zero_mul, Nat.add_zero] at k0 k1
            replace hin := Lib.hid hin
            cases q
            case false =>
              have hret : r = 1 := by rw [hr.out, hu2]; rfl
              replace hret := Lib.hid hret
              clear hu2 hr
              go_wp2_with fail
              refine region_mix (by kernel_rfl) (by kernel_rfl) (fun _ _ d _ _ h => by cases d <;> exact h) ?_
              repeat (first | ((first | refine mix_skip_t rfl rfl rfl (by with_reducible rfl) ?_ | refine mix_skip_f rfl rfl rfl (by with_reducible rfl) ?_ | refine mix_skip_u rfl rfl rfl (by with_reducible rfl) ?_); simp only [Act.put, List.setIfInBounds_toArray, List.set_cons_zero, List.set_cons_succ]) | (apply mix_take; (first | exact want_0 rfl | exact want_b rfl rfl rfl (by with_reducible rfl)); intro wq hwq R hR; ((have hcc := (bcell hwq).1; (try simp only [World.size_alloc, World.size_setCell, World.size_drew, World.heap_drewN] at hcc)); go_simp; first | exact hR | ((go_at_call 27; exact mcall (hin.out _) hR))); simp only [Act.put, List.setIfInBounds_toArray, List.set_cons_zero, List.set_cons_succ]))
              refine mix_nil ?_
              intro w2 hw2
              obtain ⟨hcw2, hfw2⟩ := bcell hw2
              have hzw2 := bsize hw2
              (try simp only [World.size_alloc, World.size_setCell, World.size_drew, World.heap_drewN] at hcw2 hfw2 hzw2)
              go_wp2_with fail
              go_ret
              exact ⟨ret_int hret.out.symm, ext_trans hxx hw2⟩
            case true =>
              have hu3 : usedR root none us = usedR root (prevOf us (0 + 1)) (us.drop (0 + 1)) := by rw [hu2, hprev.out]; rfl
              replace hu3 := Lib.hid hu3
              clear hu2
              go_wp2_with fail
              refine region_mix (by kernel_rfl) (by kernel_rfl) (fun _ _ d _ _ h => by cases d <;> exact h) ?_
              repeat (first | ((first | refine mix_skip_t rfl rfl rfl (by with_reducible rfl) ?_ | refine mix_skip_f rfl rfl rfl (by with_reducible rfl) ?_ | refine mix_skip_u rfl rfl rfl (by with_reducible rfl) ?_); simp only [Act.put, List.setIfInBounds_toArray, List.set_cons_zero, List.set_cons_succ]) | (apply mix_take; (first | exact want_0 rfl | exact want_b rfl rfl rfl (by with_reducible rfl)); intro wq hwq R hR; ((have hcc := (bcell hwq).1; (try simp only [World.size_alloc, World.size_setCell, World.size_drew, World.heap_drewN] at hcc)); go_simp; first | exact hR | ((go_at_call 27; exact mcall (hin.out _) hR))); simp only [Act.put, List.setIfInBounds_toArray, List.set_cons_zero, List.set_cons_succ]))
              refine mix_nil ?_
              intro w2 hw2
              obtain ⟨hcw2, hfw2⟩ := bcell hw2
              have hzw2 := bsize hw2
              (try simp only [World.size_alloc, World.size_setCell, World.size_drew, World.heap_drewN] at hcw2 hfw2 hzw2)
              go_wp2_with fail
              go_roundw
              case rel => exact ⟨0 + 1, by omega, by go_num, hu3, ext_trans hx hw2⟩
              case measure => simp [intOf]; try omega
          | j + 1, hk, hlt =>
            have hjl : j < us.length := by omega
            obtain ⟨b', off', cs', huo', -, hlen', hRR', hcs'⟩ := h.elem j hjl
            rw [huo] at huo'
            cases huo'
            replace hcs' := cellsAt_ext hxx hcs'
            unfold Pfx.R at hRR'
            subst hRR'
            obtain ⟨m0, m1⟩ := cellsAt_2 hcs'
            have hpj : prevOf us (j + 1) = some us[j] := by unfold prevOf; rw [if_neg (by omega)]; simp [List.getElem?_eq_getElem hjl]
            rw [hpj] at hu
            obtain ⟨y, hy⟩ : ∃ y, y = us[j] := ⟨_, rfl⟩
            rw [← hy] at m0 m1 hu
            clear hpj hy hcs' h
            subst huo
            have hmt := meet_any y.at_ y.len p.at_ p.len
            obtain ⟨t, ht⟩ : ∃ t, t = meetQ y p := ⟨_, rfl⟩
            have hu2 : usedR root none us = (q && (!(decide (p.at_ ≤ y.at_) || t) && usedR root (some p) (us.drop (j + 1 + 1)))) := by rw [hu.out, usedR_some, hq, ht]; rfl
            unfold meetQ at ht
            rw [← ht] at hmt
            clear hu ht hq
            replace hin := Lib.hid hin
            replace hmt := Lib.hid hmt
            have hwj : IntKind.i64.wrap (j : Int) = (j : Int) := IntWalk.i64_in _ (by omega)
            have hwj' : IntKind.i64.wrap ((j : Int) + 1 - 1) = (j : Int) := by rw [show ((j : Int) + 1 - 1) = j from by omega]; exact hwj
            have hj0 : (0 : Int) ≤ (j : Int) := by omega
            have hpos2 : (0 : Int) < (j : Int) + 1 := by omega
            have hltI2 : (j : Int) < (us.length : Int) := by omega
            have hltI3 : (j : Int) + 1 < (us.length : Int) := by omega
            have htn : ((j : Int) + 1).toNat = j + 1 := by omega
            have hp1 : (0 : Int) ≤ (j : Int) + 1 := by omega
            clear hltI
            cases q
            case false =>
              have hret : r = 1 := by rw [hr.out, hu2]; rfl
              replace hret := Lib.hid hret
              clear hu2 hr
              go_wp2_with fail
              refine region_mix (by kernel_rfl) (by kernel_rfl) (fun _ _ d _ _ h => by cases d <;> exact h) ?_
              repeat (first | ((first | refine mix_skip_t rfl rfl rfl (by with_reducible rfl) ?_ | refine mix_skip_f rfl rfl rfl (by with_reducible rfl) ?_ | refine mix_skip_u rfl rfl rfl (by with_reducible rfl) ?_); simp only [Act.put, List.setIfInBounds_toArray, List.set_cons_zero, List.set_cons_succ]) | (apply mix_take; (first | exact want_0 rfl | exact want_b rfl rfl rfl (by with_reducible rfl)); intro wq hwq R hR; ((have hcc := (bcell hwq).1; (try simp only [World.size_alloc, World.size_setCell, World.size_drew, World.heap_drewN] at hcc)); go_simp; first | exact hR | ((go_at_call 27; exact mcall (hin.out _) hR))); simp only [Act.put, List.setIfInBounds_toArray, List.set_cons_zero, List.set_cons_succ]))
              refine mix_nil ?_
              intro w2 hw2
              obtain ⟨hcw2, hfw2⟩ := bcell hw2
              have hzw2 := bsize hw2
              (try simp only [World.size_alloc, World.size_setCell, World.size_drew, World.heap_drewN] at hcw2 hfw2 hzw2)
              go_wp2_with fail
              go_ret
              exact ⟨ret_int hret.out.symm, ext_trans hxx hw2⟩
            case true =>
              by_cases hge : p.at_ ≤ y.at_
              · have hret : r = 1 := by rw [hr.out, hu2]; simp [hge]
                replace hret := Lib.hid hret
                clear hu2 hr
                go_wp2_with fail
                refine region_mix (by kernel_rfl) (by kernel_rfl) (fun _ _ d _ _ h => by cases d <;> exact h) ?_
                repeat (first | ((first | refine mix_skip_t rfl rfl rfl (by with_reducible rfl) ?_ | refine mix_skip_f rfl rfl rfl (by with_reducible rfl) ?_ | refine mix_skip_u rfl rfl rfl (by with_reducible rfl) ?_); simp only [Act.put, List.setIfInBounds_toArray, List.set_cons_zero, List.set_cons_succ]) | (apply mix_take; (first | exact want_0 rfl | exact want_b rfl rfl rfl (by with_reducible rfl)); intro wq hwq R hR; ((have hcc := (bcell hwq).1; (try simp only [World.size_alloc, World.size_setCell, World.size_drew, World.heap_drewN] at hcc)); go_simp; first | exact hR | ((go_at_call 27; exact mcall (hin.out _) hR))); simp only [Act.put, List.setIfInBounds_toArray, List.set_cons_zero, List.set_cons_succ]))
                refine mix_nil ?_
                intro w2 hw2
                obtain ⟨hcw2, hfw2⟩ := bcell hw2
                have hzw2 := bsize hw2
                (try simp only [World.size_alloc, World.size_setCell, World.size_drew, World.heap_drewN] at hcw2 hfw2 hzw2)
                go_wp2_with fail
                go_ret
                exact ⟨ret_int hret.out.symm, ext_trans hxx hw2⟩
              · have hge' : decide (p.at_ ≤ y.at_) = false := by simp [hge]
                cases t
                case true =>
                  have hret : r = 1 := by rw [hr.out, hu2]; simp
                  replace hret := Lib.hid hret
                  clear hu2 hr
                  go_wp2_with fail
                  refine region_mix (by kernel_rfl) (by kernel_rfl) (fun _ _ d _ _ h => by cases d <;> exact h) ?_
                  repeat (first | ((first | refine mix_skip_t rfl rfl rfl (by with_reducible rfl) ?_ | refine mix_skip_f rfl rfl rfl (by with_reducible rfl) ?_ | refine mix_skip_u rfl rfl rfl (by with_reducible rfl) ?_); simp only [Act.put, List.setIfInBounds_toArray, List.set_cons_zero, List.set_cons_succ]) | (apply mix_take; (first | exact want_0 rfl | exact want_b rfl rfl rfl (by with_reducible rfl)); intro wq hwq R hR; ((have hcc := (bcell hwq).1; (try simp only [World.size_alloc, World.size_setCell, World.size_drew, World.heap_drewN] at hcc)); go_simp; first | exact hR | (first | (go_at_call 27; exact mcall (hin.out _) hR) | (go_at_call 28; exact mcall (hmt.out _) hR))); simp only [Act.put, List.setIfInBounds_toArray, List.set_cons_zero, List.set_cons_succ]))
                  refine mix_nil ?_
                  intro w2 hw2
                  obtain ⟨hcw2, hfw2⟩ := bcell hw2
                  have hzw2 := bsize hw2
                  (try simp only [World.size_alloc, World.size_setCell, World.size_drew, World.heap_drewN] at hcw2 hfw2 hzw2)
                  go_wp2_with fail
                  go_ret
                  exact ⟨ret_int hret.out.symm, ext_trans hxx hw2⟩
                case false =>
                  have hu3 : usedR root none us = usedR root (prevOf us (j + 1 + 1)) (us.drop (j + 1 + 1)) := by rw [hu2, hprev.out, hge']; rfl
                  replace hu3 := Lib.hid hu3
                  clear hu2
                  go_wp2_with fail
                  refine region_mix (by kernel_rfl) (by kernel_rfl) (fun _ _ d _ _ h => by cases d <;> exact h) ?_
                  repeat (first | ((first | refine mix_skip_t rfl rfl rfl (by with_reducible rfl) ?_ | refine mix_skip_f rfl rfl rfl (by with_reducible rfl) ?_ | refine mix_skip_u rfl rfl rfl (by with_reducible rfl) ?_); simp only [Act.put, List.setIfInBounds_toArray, List.set_cons_zero, List.set_cons_succ]) | (apply mix_take; (first | exact want_0 rfl | exact want_b rfl rfl rfl (by with_reducible rfl)); intro wq hwq R hR; ((have hcc := (bcell hwq).1; (try simp only [World.size_alloc, World.size_setCell, World.size_drew, World.heap_drewN] at hcc)); go_simp; first | exact hR | (first | (go_at_call 27; exact mcall (hin.out _) hR) | (go_at_call 28; exact mcall (hmt.out _) hR))); simp only [Act.put, List.setIfInBounds_toArray, List.set_cons_zero, List.set_cons_succ]))
                  refine mix_nil ?_
                  intro w2 hw2
                  obtain ⟨hcw2, hfw2⟩ := bcell hw2
                  have hzw2 := bsize hw2
                  (try simp only [World.size_alloc, World.size_setCell, World.size_drew, World.heap_drewN] at hcw2 hfw2 hzw2)
                  go_wp2_with fail
                  go_roundw
                  case rel => exact ⟨j + 1 + 1, by omega, by go_num, hu3, ext_trans hx hw2⟩
                  case measure => simp [intOf]; omega
        · have hltI : ¬ (k : Int) < (us.length : Int) := by omega
          obtain rfl : k = us.length := by omega
          have hret : r = 0 := by rw [hr.out, hu.out, List.drop_length, usedR_nil]; rfl
          replace hret := Lib.hid hret
          clear hr hu
          go_wp2_with fail
          go_ret
          exact ⟨ret_int hret.out.symm, hxx⟩
end Go.Proofs.Ytflbpkgnadjokaa
namespace Go.Proofs.Ytflbpkgnadjokaa
open Go Go.RowKit Go.Proofs
def Apart (a b : Pfx) : Prop := a.hi ≤ b.at_
theorem usedOK_iff (root : Pfx) : ∀ (us : List Pfx) (f : Int), usedOK root f us = true ↔ (∀ u ∈ us, insQ u root = true) ∧ (∀ u ∈ us, f ≤ u.at_) ∧ us.Pairwise Apart
  | [], f => by simp [usedOK]
  | p :: ps, f => by
    rw [usedOK_cons, Bool.and_eq_true, Bool.and_eq_true, decide_eq_true_eq, usedOK_iff root ps, List.pairwise_cons]
    constructor
    · intro ⟨h1, h2, h3, h4, h5⟩
      have hp := p.hi_bd (insQ_hi.1 h1).1
      refine ⟨?_, ?_, ⟨fun u hu => h4 u hu, h5⟩⟩
      · intro u hu; rcases List.mem_cons.1 hu with rfl | hu
        · exact h1
        · exact h3 u hu
      · intro u hu; rcases List.mem_cons.1 hu with rfl | hu
        · exact h2
        · have := h4 u hu; unfold Pfx.hi at hp; omega
    · intro ⟨h1, h2, h3, h4⟩
      exact ⟨h1 p (by simp), h2 p (by simp), fun u hu => h1 u (by simp [hu]), fun u hu => h3 u hu, h4⟩
theorem usedR_iff (root : Pfx) : ∀ (us : List Pfx) (q : Pfx), q.right = true → (usedR root (some q) us = true ↔ (∀ u ∈ us, insQ u root = true) ∧ (∀ u ∈ us, q.hi ≤ u.at_) ∧ us.Pairwise Apart)
  | [], q, _ => by simp [usedR]
  | p :: ps, q, hq => by
    have hqb := q.hi_bd hq
    rw [usedR_some, Bool.and_eq_true, Bool.and_eq_true, List.pairwise_cons]
    have e1 : insRQ p root = insQ p root := insR_eq p root
    rw [e1]
    constructor
    · intro ⟨h1, h2, h3⟩
      have hpr := (insQ_hi.1 h1).1
      have hp := p.hi_bd hpr
      rw [usedR_iff root ps p hpr] at h3
      obtain ⟨g1, g2, g3⟩ := h3
      have h4 : q.hi ≤ p.at_ := by
        simp only [Bool.not_eq_true', Bool.or_eq_false_iff, decide_eq_false_iff_not] at h2
        obtain ⟨k1, k2⟩ := h2
        have k3 : ¬ q.meets p = true := by rw [← meetB_eq]; unfold meetQ at k2; rw [k2]; simp
        rw [meets_iff] at k3
        rcases Int.lt_or_le p.at_ q.hi with h | h
        · exact absurd ⟨hq, hpr, by omega, h⟩ k3
        · exact h
      refine ⟨?_, ?_, ⟨fun u hu => g2 u hu, g3⟩⟩
      · intro u hu; rcases List.mem_cons.1 hu with rfl | hu
        · exact h1
        · exact g1 u hu
      · intro u hu; rcases List.mem_cons.1 hu with rfl | hu
        · exact h4
        · have := g2 u hu; omega
    · intro ⟨h1, h2, h3, h4⟩
      have hpi := h1 p (by simp)
      have hpr := (insQ_hi.1 hpi).1
      have hqp := h2 p (by simp)
      refine ⟨hpi, ?_, (usedR_iff root ps p hpr).2 ⟨fun u hu => h1 u (by simp [hu]), fun u hu => h3 u hu, h4⟩⟩
      simp only [Bool.not_eq_true', Bool.or_eq_false_iff, decide_eq_false_iff_not]
      refine ⟨by omega, ?_⟩
      unfold meetQ
      rw [meetB_eq, Bool.eq_false_iff]
      intro h
      have := (meets_iff.1 h).2.2
      omega
theorem used_eq (root : Pfx) (us : List Pfx) : usedR root none us = usedOK root root.at_ us := by
  rw [Bool.eq_iff_iff, usedOK_iff]
  cases us with
  | nil => simp [usedR]
  | cons p ps =>
    rw [usedR_none, Bool.and_eq_true, List.pairwise_cons]
    have e1 : insRQ p root = insQ p root := insR_eq p root
    rw [e1]
    constructor
    · intro ⟨h1, h2⟩
      obtain ⟨k1, k2, k3, k4⟩ := insQ_hi.1 h1
      have hp := p.hi_bd k1
      rw [usedR_iff root ps p k1] at h2
      obtain ⟨g1, g2, g3⟩ := h2
      refine ⟨?_, ?_, ⟨fun u hu => g2 u hu, g3⟩⟩
      · intro u hu; rcases List.mem_cons.1 hu with rfl | hu
        · exact h1
        · exact g1 u hu
      · intro u hu; rcases List.mem_cons.1 hu with rfl | hu
        · exact k3
        · have := g2 u hu; omega
    · intro ⟨h1, h2, h3, h4⟩
      have hpi := h1 p (by simp)
      exact ⟨hpi, (usedR_iff root ps p (insQ_hi.1 hpi).1).2 ⟨fun u hu => h1 u (by simp [hu]), fun u hu => h3 u hu, h4⟩⟩
/-- The program's check is the reference's. -/
theorem chkS_eq (root : Pfx) (us : List Pfx) : chkSR root us = chkS root us := by
  unfold chkSR chkS
  rw [used_eq]
  by_cases h : us.length > 32
  · rw [if_pos h, if_pos h]
  · rw [if_neg h, if_neg h]
    unfold rightB
    by_cases h2 : chk root.at_ root.len = 0
    · simp [h2]
    · simp [h2]
structure SpaceOK (root : Pfx) (us : List Pfx) : Prop where
  rr : root.right = true
  many : us.length ≤ 32
  ins : ∀ u ∈ us, insQ u root = true
  apart : us.Pairwise Apart
theorem chkS_ok {root : Pfx} {us : List Pfx} : chkS root us = 0 ↔ SpaceOK root us := by
  unfold chkS
  constructor
  · intro h
    split at h
    · omega
    · rename_i h1
      split at h
      · rename_i h2
        split at h
        · rename_i h3
          obtain ⟨g1, g2, g3⟩ := (usedOK_iff root us _).1 h3
          exact ⟨by simp [Pfx.right, rightB, h2], by omega, g1, g3⟩
        · omega
      · omega
  · intro ⟨h1, h2, h3, h4⟩
    have hc : chk root.at_ root.len = 0 := by unfold Pfx.right rightB at h1; simpa using h1
    rw [if_neg (by omega), if_pos hc, if_pos ((usedOK_iff root us _).2 ⟨h3, fun u hu => (insQ_hi.1 (h3 u hu)).2.2.1, h4⟩)]
/-- Two used ones that share an address are one. -/
theorem apart_eq {us : List Pfx} (h : us.Pairwise Apart) {u v : Pfx} (hu : u ∈ us) (hv : v ∈ us) (h1 : u.at_ < v.hi) (h2 : v.at_ < u.hi) : u = v := by
  induction us with
  | nil => cases hu
  | cons a t ih =>
    rw [List.pairwise_cons] at h
    rcases List.mem_cons.1 hu with rfl | hu' <;> rcases List.mem_cons.1 hv with rfl | hv'
    · rfl
    · have := h.1 v hv'; unfold Apart at this; omega
    · have := h.1 u hu'; unfold Apart at this; omega
    · exact ih h.2 hu' hv'
end Go.Proofs.Ytflbpkgnadjokaa
namespace Go.Proofs.Ytflbpkgnadjokaa
open Go Go.RowKit Go.Proofs
/-- Free: it meets no used one. -/
def freeP (us : List Pfx) (p : Pfx) : Bool := !us.any p.meets
theorem low_ins {p : Pfx} (h : p.right = true) (hl : p.len < 16) : p.low.at_ = p.at_ ∧ p.low.hi = p.high.at_ ∧ p.high.hi = p.hi ∧ p.at_ < p.high.at_ ∧ p.high.at_ < p.hi := by
  obtain ⟨g1, -⟩ := p.bd h
  have e := szI_half g1 hl
  have s1 := szI_bd (n := p.len + 1) (by omega)
  unfold Pfx.low Pfx.high Pfx.hi
  refine ⟨rfl, rfl, ?_, ?_, ?_⟩ <;> simp <;> omega
theorem insQ_trans {a b c : Pfx} (h : insQ a b = true) (k : insQ b c = true) : insQ a c = true := by
  rw [insQ_hi] at *
  exact ⟨h.1, k.2.1, by omega, by omega⟩
/-- What lies in p, and is shorter than all of p, lies in one half. -/
theorem ins_half {b p : Pfx} (h : insQ b p = true) (hl : p.len < b.len) : insQ b p.low = true ∨ insQ b p.high = true := by
  obtain ⟨k1, k2, k3, k4⟩ := insQ_hi.1 h
  obtain ⟨b1, b2, -⟩ := b.bd k1
  have hp16 : p.len < 16 := by omega
  obtain ⟨e1, e2, e3, e4, e5⟩ := low_ins k2 hp16
  have hb := b.hi_bd k1
  rcases Int.lt_or_le b.at_ p.high.at_ with hlt | hle
  · left
    rw [insQ_iff]
    exact ⟨k1, low_right k2 hp16, by simp [Pfx.low]; omega, by rw [e1]; exact k3, by rw [e2]; exact hlt⟩
  · right
    rw [insQ_iff]
    exact ⟨k1, high_right k2 hp16, by simp [Pfx.high]; omega, hle, by rw [e3]; omega⟩
theorem low_insQ {p : Pfx} (h : p.right = true) (hl : p.len < 16) : insQ p.low p = true := by
  obtain ⟨e1, e2, e3, e4, e5⟩ := low_ins h hl
  exact insQ_hi.2 ⟨low_right h hl, h, by omega, by omega⟩
theorem high_insQ {p : Pfx} (h : p.right = true) (hl : p.len < 16) : insQ p.high p = true := by
  obtain ⟨e1, e2, e3, e4, e5⟩ := low_ins h hl
  exact insQ_hi.2 ⟨high_right h hl, h, by omega, by omega⟩
theorem insQ_refl {p : Pfx} (h : p.right = true) : insQ p p = true := insQ_hi.2 ⟨h, h, by omega, by omega⟩
theorem hole_ins (us : List Pfx) : ∀ (n : Nat) (p : Pfx), 16 - p.len = (n : Int) → p.right = true → ∀ q ∈ holesF us n p, insQ q p = true ∧ freeP us q = true
  | 0, p, hn, hr, q, hq => by
    unfold holesF at hq
    split at hq
    · cases hq
    · rename_i h
      obtain rfl : q = p := by simpa using hq
      exact ⟨insQ_refl hr, by unfold freeP; simpa using h⟩
  | n + 1, p, hn, hr, q, hq => by
    unfold holesF at hq
    split at hq
    · split at hq
      · cases hq
      · have hl : p.len < 16 := by omega
        rcases List.mem_append.1 hq with h | h
        · have := hole_ins us n p.low (by simp [Pfx.low]; omega) (low_right hr hl) q h
          exact ⟨insQ_trans this.1 (low_insQ hr hl), this.2⟩
        · have := hole_ins us n p.high (by simp [Pfx.high]; omega) (high_right hr hl) q h
          exact ⟨insQ_trans this.1 (high_insQ hr hl), this.2⟩
    · rename_i h
      obtain rfl : q = p := by simpa using hq
      exact ⟨insQ_refl hr, by unfold freeP; simpa using h⟩
theorem hole_sorted (us : List Pfx) : ∀ (n : Nat) (p : Pfx), 16 - p.len = (n : Int) → p.right = true → (holesF us n p).Pairwise Apart
  | 0, p, hn, hr => by unfold holesF; split <;> simp
  | n + 1, p, hn, hr => by
    unfold holesF
    split
    · split
      · simp
      · have hl : p.len < 16 := by omega
        have h1 := hole_sorted us n p.low (by simp [Pfx.low]; omega) (low_right hr hl)
        have h2 := hole_sorted us n p.high (by simp [Pfx.high]; omega) (high_right hr hl)
        refine List.pairwise_append.2 ⟨h1, h2, fun a ha b hb => ?_⟩
        have ka := (insQ_hi.1 (hole_ins us n p.low (by simp [Pfx.low]; omega) (low_right hr hl) a ha).1)
        have kb := (insQ_hi.1 (hole_ins us n p.high (by simp [Pfx.high]; omega) (high_right hr hl) b hb).1)
        obtain ⟨e1, e2, e3, e4, e5⟩ := low_ins hr hl
        unfold Apart
        omega
    · simp
/-- Whatever is free lies in a hole. -/
theorem hole_all (us : List Pfx) (hu : ∀ u ∈ us, u.right = true) : ∀ (n : Nat) (p : Pfx), 16 - p.len = (n : Int) → p.right = true → ∀ b, insQ b p = true → freeP us b = true → ∃ h ∈ holesF us n p, insQ b h = true
  | n, p, hn, hr, b, hb, hf => by
    have hbr := (insQ_hi.1 hb).1
    have hbh := b.hi_bd hbr
    by_cases hm : us.any p.meets = true
    · have hnc : us.contains p = false := by
        rw [Bool.eq_false_iff]
        intro hc
        have hp : p ∈ us := by simpa using hc
        have : us.any b.meets = true := List.any_eq_true.2 ⟨p, hp, meets_iff.2 ⟨hbr, hr, by have := insQ_iff.1 hb; omega, by have := insQ_iff.1 hb; omega⟩⟩
        unfold freeP at hf; rw [this] at hf; cases hf
      have hlen : p.len < b.len := by
        have h3 := (insQ_iff.1 hb).2.2.1
        rcases Int.lt_or_eq_of_le h3 with h | h
        · exact h
        · exfalso
          have hi := (insQ_hi.1 hb)
          have : b = p := by
            obtain ⟨ba, bl⟩ := b
            obtain ⟨pa, pl⟩ := p
            simp only [Pfx.mk.injEq]
            simp only [Pfx.hi] at hi
            simp only at h
            subst h
            exact ⟨by omega, rfl⟩
          subst this
          unfold freeP at hf; rw [hm] at hf; cases hf
      obtain ⟨b1, b2, -⟩ := b.bd hbr
      have hl : p.len < 16 := by omega
      match n, hn with
      | 0, hn => omega
      | n + 1, hn =>
        unfold holesF
        rw [if_pos hm, if_neg (by rw [hnc]; simp)]
        rcases ins_half hb hlen with h | h
        · obtain ⟨q, hq, hi⟩ := hole_all us hu n p.low (by simp [Pfx.low]; omega) (low_right hr hl) b h hf
          exact ⟨q, List.mem_append.2 (.inl hq), hi⟩
        · obtain ⟨q, hq, hi⟩ := hole_all us hu n p.high (by simp [Pfx.high]; omega) (high_right hr hl) b h hf
          exact ⟨q, List.mem_append.2 (.inr hq), hi⟩
    · refine ⟨p, ?_, hb⟩
      match n with
      | 0 => unfold holesF; rw [if_neg hm]; simp
      | n + 1 => unfold holesF; rw [if_neg hm]; simp
theorem holesS_ins {root : Pfx} {us : List Pfx} (h : SpaceOK root us) {q : Pfx} (hq : q ∈ holesS root us) : insQ q root = true ∧ freeP us q = true := by
  obtain ⟨g1, g2, -⟩ := root.bd h.rr
  exact hole_ins us _ root (by omega) h.rr q hq
theorem holesS_sorted {root : Pfx} {us : List Pfx} (h : SpaceOK root us) : (holesS root us).Pairwise Apart := by
  obtain ⟨g1, g2, -⟩ := root.bd h.rr
  exact hole_sorted us _ root (by omega) h.rr
theorem holesS_all {root : Pfx} {us : List Pfx} (h : SpaceOK root us) {b : Pfx} (hb : insQ b root = true) (hf : freeP us b = true) : ∃ q ∈ holesS root us, insQ b q = true := by
  obtain ⟨g1, g2, -⟩ := root.bd h.rr
  exact hole_all us (fun u hu => (insQ_hi.1 (h.ins u hu)).1) _ root (by omega) h.rr b hb hf
theorem free_sub {us : List Pfx} {a b : Pfx} (h : insQ a b = true) (hf : freeP us b = true) : freeP us a = true := by
  unfold freeP at *
  rw [Bool.not_eq_true'] at *
  rw [List.any_eq_false] at *
  intro u hu hm
  obtain ⟨k1, k2, k3, k4⟩ := insQ_hi.1 h
  obtain ⟨m1, m2, m3, m4⟩ := meets_iff.1 hm
  exact hf u hu (meets_iff.2 ⟨k2, m2, by omega, by omega⟩)
/-- The first hole that is long enough, by the blocks of a size: the least free one. -/
theorem fit_some {root : Pfx} {us : List Pfx} (h : SpaceOK root us) {size at_ : Int} (hs1 : root.len ≤ size) (hs2 : size ≤ 16) (hi : insQ ⟨at_, size⟩ root = true) (hf : freeP us ⟨at_, size⟩ = true)
    (hmin : ∀ b, b < at_ → insQ ⟨b, size⟩ root = true → freeP us ⟨b, size⟩ = false) : ∃ q, (holesS root us).find? (fun q => decide (q.len ≤ size)) = some q ∧ q.at_ = at_ := by
  obtain ⟨q, hq, hqi⟩ := holesS_all h hi hf
  have hql := (insQ_iff.1 hqi).2.2.1
  cases hfd : (holesS root us).find? (fun q => decide (q.len ≤ size)) with
  | none =>
    rw [List.find?_eq_none] at hfd
    exact absurd hql (by simpa using hfd q hq)
  | some x =>
    refine ⟨x, rfl, ?_⟩
    obtain ⟨hx1, ⟨la, lb, hab, hno⟩⟩ := List.find?_eq_some_iff_append.1 hfd
    have hxl : x.len ≤ size := by simpa using hx1
    have hxm : x ∈ holesS root us := by rw [hab]; simp
    obtain ⟨xi, xf⟩ := holesS_ins h hxm
    obtain ⟨k1, k2, k3, k4⟩ := insQ_hi.1 xi
    obtain ⟨x1, x2, x3, x4, x5⟩ := x.bd k1
    obtain ⟨g1, g2, -⟩ := root.bd h.rr
    have hxb := x.hi_bd k1
    -- the block at x's head is free
    have hblk : insQ ⟨x.at_, size⟩ x = true := by
      rw [insQ_iff]
      obtain ⟨k, hk, hk1⟩ := szI_dvd x1 hxl hs2
      exact ⟨right_of (a := x.at_) (l := size) (by omega) hs2 x3 x4 (Int.emod_eq_zero_of_dvd (Int.dvd_trans ⟨k, hk⟩ (Int.dvd_of_emod_eq_zero x5))), k1, hxl, Int.le_refl _, hxb.1⟩
    have hge : at_ ≤ x.at_ := by
      rcases Int.lt_or_le x.at_ at_ with hlt | hle
      · have := hmin x.at_ hlt (insQ_trans hblk xi)
        rw [free_sub hblk xf] at this
        cases this
      · exact hle
    -- x is not behind q
    have hle : x.at_ ≤ q.at_ := by
      rw [hab] at hq
      rcases List.mem_append.1 hq with h1 | h1
      · exact absurd (hno q h1) (by simp [hql])
      · rcases List.mem_cons.1 h1 with rfl | h2
        · exact Int.le_refl _
        · have hs := holesS_sorted h
          rw [hab] at hs
          have := (List.pairwise_cons.1 (List.pairwise_append.1 hs).2.1).1 q h2
          unfold Apart at this
          omega
    have hqa := (insQ_hi.1 hqi).2.2.1
    simp only at hqa
    omega
theorem fit_none {root : Pfx} {us : List Pfx} (h : SpaceOK root us) {size : Int} (hs1 : root.len ≤ size) (hs2 : size ≤ 16)
    (hno : ∀ b, insQ ⟨b, size⟩ root = true → freeP us ⟨b, size⟩ = false) : (holesS root us).find? (fun q => decide (q.len ≤ size)) = none := by
  rw [List.find?_eq_none]
  intro x hx hxl
  simp only [decide_eq_true_eq] at hxl
  obtain ⟨xi, xf⟩ := holesS_ins h hx
  obtain ⟨k1, k2, k3, k4⟩ := insQ_hi.1 xi
  obtain ⟨x1, x2, x3, x4, x5⟩ := x.bd k1
  obtain ⟨g1, g2, -⟩ := root.bd h.rr
  have hxb := x.hi_bd k1
  have hblk : insQ ⟨x.at_, size⟩ x = true := by
    rw [insQ_iff]
    obtain ⟨k, hk, hk1⟩ := szI_dvd x1 hxl hs2
    exact ⟨right_of (a := x.at_) (l := size) (by omega) hs2 x3 x4 (Int.emod_eq_zero_of_dvd (Int.dvd_trans ⟨k, hk⟩ (Int.dvd_of_emod_eq_zero x5))), k1, hxl, Int.le_refl _, hxb.1⟩
  have := hno x.at_ (insQ_trans hblk xi)
  rw [free_sub hblk xf] at this
  cases this
end Go.Proofs.Ytflbpkgnadjokaa
namespace Go.Proofs.Ytflbpkgnadjokaa
open Go Go.RowKit Go.Proofs
set_option maxRecDepth 100000
def fitR (root : Pfx) (us : List Pfx) (size : Int) : Pfx × Bool :=
  match (holesS root us).find? (fun q => decide (q.len ≤ size)) with | some q => (⟨q.at_, size⟩, true) | none => (Pfx.zero, false)
theorem any_meetQ (us : List Pfx) (p : Pfx) : (us.any fun q => meetQ q p) = us.any p.meets := by
  congr 1; funext q; unfold meetQ; rw [meetB_eq, meets_comm]
/-- What the inner loop has found: the farthest last address of used ones that meet the block. -/
def FarAt (us : List Pfx) (p : Pfx) (k : Nat) (f : Int) : Prop := p.at_ ≤ f ∧ f ≤ 65535 ∧ (f = p.at_ ∨ ∃ u ∈ us, u.right = true ∧ u.meets p = true ∧ f = u.hi - 1)
theorem far_step {us : List Pfx} {p u : Pfx} {k : Nat} {f : Int} (h : FarAt us p k f) (hu : u ∈ us) (hr : u.right = true) (hm : u.meets p = true) : FarAt us p (k + 1) (max f (u.hi - 1)) := by
  obtain ⟨h1, h2, h3⟩ := h
  have hb := u.hi_bd hr
  refine ⟨by omega, by omega, ?_⟩
  rcases Int.le_total f (u.hi - 1) with hl | hl
  · right; exact ⟨u, hu, hr, hm, Int.max_eq_right hl⟩
  · rw [Int.max_eq_left hl]; exact h3
/-- The loop's state. -/
def NoFit (root : Pfx) (us : List Pfx) (size at_ : Int) : Prop := ∀ b, b < at_ → insQ ⟨b, size⟩ root = true → freeP us ⟨b, size⟩ = false
theorem nofit_start (root : Pfx) (us : List Pfx) (size : Int) : NoFit root us size root.at_ := fun b hb hi => by
  have := (insQ_hi.1 hi).2.2.1
  simp only at this; omega
theorem nofit_step {root : Pfx} {us : List Pfx} {size at_ f : Int} (h : NoFit root us size at_) (hr : Pfx.right ⟨at_, size⟩ = true) (hf : FarAt us ⟨at_, size⟩ us.length f) (hm : us.any (Pfx.meets ⟨at_, size⟩) = true) :
    NoFit root us size (max at_ (f / szI size * szI size) + szI size) := by
  intro b hb hi
  obtain ⟨g1, g2, g3, g4, g5⟩ := Pfx.bd hr
  simp only at g1 g2 g3 g4 g5
  have s1 := szI_bd g1
  have hbr := (insQ_hi.1 hi).1
  obtain ⟨b1, b2, b3, b4, b5⟩ := Pfx.bd hbr
  simp only at b3 b4 b5
  rcases Int.lt_or_le b at_ with hlt | hle
  · exact h b hlt hi
  · -- aligned ones: b = at_ or at_ + s ≤ b ≤ f
    have hd : szI size ∣ b - at_ := Int.dvd_sub (Int.dvd_of_emod_eq_zero b5) (Int.dvd_of_emod_eq_zero g5)
    rcases Int.lt_or_eq_of_le hle with hlt | heq
    · have h1 := dvd_step (by omega) (show 0 < b - at_ by omega) hd
      have hbf : b ≤ f := by
        have e1 := Int.emod_add_mul_ediv f (szI size)
        have e2 := Int.emod_nonneg f (b := szI size) (by omega)
        have e3 : f / szI size * szI size = szI size * (f / szI size) := Int.mul_comm _ _
        rcases Int.le_total at_ (f / szI size * szI size) with hl | hl
        · rw [Int.max_eq_right hl] at hb
          have hd2 : szI size ∣ f / szI size * szI size - b := Int.dvd_sub ⟨f / szI size, e3⟩ (Int.dvd_of_emod_eq_zero b5)
          rcases Int.lt_or_le (f / szI size * szI size) b with hlt2 | hle2
          · have := dvd_step (s := szI size) (x := b - f / szI size * szI size) (by omega) (by omega) (by have := Int.dvd_neg.2 hd2; rwa [Int.neg_sub] at this)
            omega
          · omega
        · rw [Int.max_eq_left hl] at hb; omega
      obtain ⟨k1, k2, k3⟩ := hf
      simp only at k1 k3
      rcases k3 with k3 | ⟨u, hu, hur, hum, hfu⟩
      · omega
      · obtain ⟨_, _, m3, m4⟩ := meets_iff.1 hum
        simp only [Pfx.hi] at m3 m4
        unfold freeP
        rw [List.any_eq_true.2 ⟨u, hu, meets_iff.2 ⟨hbr, hur, by simp only; omega, by simp only [Pfx.hi]; omega⟩⟩]; rfl
    · subst heq
      unfold freeP; rw [hm]; rfl
theorem fitR_hit {root : Pfx} {us : List Pfx} (h : SpaceOK root us) {size at_ : Int} (hs1 : root.len ≤ size) (hs2 : size ≤ 16) (hi : insQ ⟨at_, size⟩ root = true) (hm : us.any (Pfx.meets ⟨at_, size⟩) = false) (hn : NoFit root us size at_) : fitR root us size = (⟨at_, size⟩, true) := by
  obtain ⟨q, hq, he⟩ := fit_some h hs1 hs2 hi (by unfold freeP; rw [hm]; rfl) hn
  unfold fitR; rw [hq]; simp only [he]
theorem fitR_miss {root : Pfx} {us : List Pfx} (h : SpaceOK root us) {size at_ : Int} (hs1 : root.len ≤ size) (hs2 : size ≤ 16) (ha : root.hi ≤ at_) (hn : NoFit root us size at_) : fitR root us size = (Pfx.zero, false) := by
  have := fit_none h hs1 hs2 fun b hb => hn b (by obtain ⟨k1, k2, k3, k4⟩ := insQ_hi.1 hb; have := Pfx.hi_bd k1; simp only at this; omega) hb
  unfold fitR; rw [this]
set_option maxHeartbeats 2000000 in
set_option maxRecDepth 100000 in
theorem fitOf_any {A : Area} (root : Pfx) (us : List Pfx) (uo : Option Addr) (ucap : Nat) (size : Int) (w : World) (h : Sl A w 2 Pfx.R uo ucap us) (hok : SpaceOK root us) (hs1 : root.len ≤ size) (hs2 : size ≤ 16) :
    Calls Try.prog 10 #[.agg #[.int .i64 root.at_, .int .i64 root.len, .slice uo us.length ucap], .int .i64 size] w fun e w' => e = .returned (.tuple #[(fitR root us size).1.v, .bool (fitR root us size).2]) ∧ Ext w w' := by
  have hcl := h.cap_le
  have hcm := h.cap_max
  obtain ⟨g1, g2, g3, g4, g5⟩ := root.bd hok.rr
  have hrb := root.hi_bd hok.rr
  have hs0 : 0 ≤ size := by omega
  obtain ⟨z1, z2⟩ := szI_bd hs0
  have hsz := fun W => sizeOf_any size W hs0 hs2
  have hla := last_any root.at_ root.len
  have hlr : lastI root.at_ root.len = root.hi - 1 := rfl
  have hroot : rightB root.at_ root.len = true := hok.rr
  replace hla := fun W => hla W hroot
  rw [hlr] at hla
  obtain ⟨R, hR⟩ : ∃ R, R = fitR root us size := ⟨_, rfl⟩
  rw [← hR]
  have hRh := fun at_ => fitR_hit (at_ := at_) hok hs1 hs2
  have hRm := fun at_ => fitR_miss (at_ := at_) hok hs1 hs2
  rw [← hR] at hRh hRm
  replace hRh := Lib.hid hRh
  replace hRm := Lib.hid hRm
  replace hsz := Lib.hid hsz
  replace hla := Lib.hid hla
  obtain ⟨st, hst⟩ : ∃ st, st = szI size := ⟨_, rfl⟩
  rw [← hst] at hsz z1 z2
  obtain ⟨rh, hrh⟩ : ∃ rh, rh = root.hi := ⟨_, rfl⟩
  rw [← hrh] at hla hrb
  have hstart := nofit_start root us size
  have hrdvd : root.at_ % st = 0 := by
    obtain ⟨k, hk, -⟩ := szI_dvd g1 hs1 hs2
    rw [hst]; exact Int.emod_eq_zero_of_dvd (Int.dvd_trans ⟨k, hk⟩ (Int.dvd_of_emod_eq_zero g5))
  replace hst := Lib.hid hst
  replace hrh := Lib.hid hrh
  replace hstart := Lib.hid hstart
  replace hrdvd := Lib.hid hrdvd
  clear hR g5 hlr hroot
  go_enter Try.func10, Try.ntmps10
  go_wp2_with fail
  refine (hsz.out _).mono ?_
  rintro e w1 ⟨rfl, rfl⟩
  go_wp2_with fail
  go_loopw [7] (fun s7 wr => ∃ at_ : Int, s7 = .int .i64 at_ ∧ root.at_ ≤ at_ ∧ at_ ≤ 140000 ∧ Hid (at_ % st = 0) ∧ Hid (NoFit root us size at_) ∧ Ext ((w.alloc (.cells #[.int .i64 root.at_, .int .i64 root.len, .slice uo us.length ucap] 26)).alloc (.cells #[.int .i64 0, .int .i64 0] 23)) wr) (fun s7 _ => (200000 - intOf s7).toNat)
  case atStart => exact ⟨root.at_, rfl, Int.le_refl _, by omega, hrdvd, hstart, Below.refl _ _⟩
  case round =>
    obtain ⟨at_, rfl, ha1, ha2, hal, hno, hx⟩ := hrel
    have hxx := ext_trans (ext_trans (ext_alloc _ _) (ext_alloc _ _)) hx
    obtain ⟨hcr, hfr⟩ := bcell hx
    have hzr := bsize hx
    (try simp only [World.size_alloc, World.size_setCell, World.size_drew, World.heap_drewN] at hcr hfr hzr)
    have lr : w.heap.size < wr.heap.size := by omega
    have lr1 : w.heap.size + 1 < wr.heap.size := by omega
    go_wp2_with fail
    refine (hla.out _).mono ?_
    rintro e w2 ⟨rfl, hw2⟩
    obtain ⟨hcw2, hfw2⟩ := bcell hw2
    have hzw2 := bsize hw2
    (try simp only [World.size_alloc, World.size_setCell, World.size_drew, World.heap_drewN] at hcw2 hfw2 hzw2)
    have l2 : w.heap.size < w2.heap.size := by omega
    have l21 : w.heap.size + 1 < w2.heap.size := by omega
    have t0 : w2.cell? ⟨w.heap.size + 1, 0, none⟩ = some (.int .i64 0) := keepCell hw2 (keepCell hx (by simp))
    have t1 : w2.cell? ⟨w.heap.size + 1, 1, none⟩ = some (.int .i64 0) := keepCell hw2 (keepCell hx (by simp))
    have tf : ∀ o, w2.frozen? ⟨w.heap.size + 1, o, none⟩ = false := fun o => by rw [hfw2 _ _ lr1, hfr _ _ (by omega)]; simp
    by_cases hlt : at_ ≤ rh - 1
    · have hxw := ext_trans hxx hw2
      have hblk : insQ ⟨at_, size⟩ root = true := by
        rw [insQ_iff]
        exact ⟨right_of (a := at_) (l := size) hs0 hs2 (by omega) (by omega) (by rw [← hst.out]; exact hal.out), hok.rr, hs1, ha1, by rw [← hrh.out]; show at_ < rh; omega⟩
      have hbr := (insQ_hi.1 hblk).1
      replace hblk := Lib.hid hblk
      replace hbr := Lib.hid hbr
      go_wp2_with fail
      obtain ⟨wo, hwo⟩ : ∃ wo : World, wo = w2.alloc (.cells #[.int .i64 at_, .int .i64 size] 23) := ⟨_, rfl⟩
      have hxo : Ext w2 wo := by rw [hwo]; exact ext_alloc _ _
      have q0 : wo.cell? ⟨w2.heap.size, 0, none⟩ = some (.int .i64 at_) := by rw [hwo]; simp
      have q1 : wo.cell? ⟨w2.heap.size, 1, none⟩ = some (.int .i64 size) := by rw [hwo]; simp
      have s0 : wo.cell? ⟨w.heap.size, 0, none⟩ = some (.int .i64 root.at_) := keepCell hxo (keepCell hw2 (keepCell hx (by simp)))
      have s1 : wo.cell? ⟨w.heap.size, 1, none⟩ = some (.int .i64 root.len) := keepCell hxo (keepCell hw2 (keepCell hx (by simp)))
      have s2 : wo.cell? ⟨w.heap.size, 2, none⟩ = some (.slice uo us.length ucap) := keepCell hxo (keepCell hw2 (keepCell hx (by simp)))
      have t0o := keepCell hxo t0
      have t1o := keepCell hxo t1
      have tfo : ∀ o, wo.frozen? ⟨w.heap.size + 1, o, none⟩ = false := fun o => by rw [(bcell hxo).2 _ _ l21]; exact tf o
      have hxwo := ext_trans hxw hxo
      have l3 : w2.heap.size < wo.heap.size := by rw [hwo]; simp
      have l31 : w.heap.size < wo.heap.size := by omega
      have l32 : w.heap.size + 1 < wo.heap.size := by omega
      rw [← hwo]
      clear hwo hcw2 hfw2 hcr hfr t0 t1 tf hla
      obtain ⟨wz, rfl⟩ : ∃ wz : World, wz = wr := ⟨_, rfl⟩
      go_loopw [9, 10] (fun s9 s10 wr2 => ∃ (k : Nat) (f : Int), k ≤ us.length ∧ s10 = .int .i64 k ∧ s9 = .int .i64 f ∧ at_ ≤ f ∧ f ≤ 65535 ∧ Hid (FarAt us ⟨at_, size⟩ k f) ∧ Ext wo wr2) (fun _ s10 _ => us.length - (intOf s10).toNat)
      case atStart => exact ⟨0, at_, Nat.zero_le _, rfl, rfl, Int.le_refl _, by omega, Lib.hid ⟨Int.le_refl _, (by show at_ ≤ 65535; omega), .inl rfl⟩, Below.refl _ _⟩
      case round =>
        obtain ⟨k, f, hk, rfl, rfl, hf1, hf2, hfar, hx2⟩ := hrel
        obtain ⟨hcr, hfr⟩ := bcell hx2
        have hzr2 := bsize hx2
        have m1 : w.heap.size < wr.heap.size := by omega
        have m2 : w2.heap.size < wr.heap.size := by omega
        have m3 : w.heap.size + 1 < wr.heap.size := by omega
        by_cases hlk : k < us.length
        · have hltI : (k : Int) < (us.length : Int) := by omega
          obtain ⟨b, off, cs, rfl, -, hlen, hR', hcs⟩ := h.elem k hlk
          replace hcs := cellsAt_ext (ext_trans hxwo hx2) hcs
          unfold Pfx.R at hR'
          subst hR'
          obtain ⟨k0, k1⟩ := cellsAt_2 hcs
          have lb := lt_of_cell k0
          have hur := (insQ_hi.1 (hok.ins us[k] (List.getElem_mem hlk))).1
          have hum := List.getElem_mem hlk
          obtain ⟨y, hy⟩ : ∃ y, y = us[k] := ⟨_, rfl⟩
          rw [← hy] at k0 k1 hur hum
          have hyb := y.hi_bd hur
          have hm := meet_any y.at_ y.len at_ size
          have hme : meetB y.at_ y.len at_ size = y.meets ⟨at_, size⟩ := meetB_eq y ⟨at_, size⟩
          rw [hme] at hm
          have hl := fun W => last_any y.at_ y.len W hur
          rw [show lastI y.at_ y.len = y.hi - 1 from rfl] at hl
          obtain ⟨q, hq⟩ : ∃ q, q = y.meets ⟨at_, size⟩ := ⟨_, rfl⟩
          rw [← hq] at hm
          obtain ⟨yh, hyh⟩ : ∃ yh, yh = y.hi := ⟨_, rfl⟩
          rw [← hyh] at hl hyb
          replace hyh := Lib.hid hyh
          replace hq := Lib.hid hq
          replace hm := Lib.hid hm
          replace hl := Lib.hid hl
          replace hur := Lib.hid hur
          replace hum := Lib.hid hum
          have hya := (y.bd hur.out).2.2.1
          clear hcs hy h hme
          cases q
          case true =>
            have hstep := far_step hfar.out hum.out hur.out hq.out.symm
            rw [← hyh.out] at hstep
            replace hstep := Lib.hid hstep
            go_wp2_with fail
            refine region_mix (by kernel_rfl) (by kernel_rfl) (fun _ _ d _ _ h => by cases d <;> exact h) ?_
            repeat (first | ((first | refine mix_skip_t rfl rfl rfl (by with_reducible rfl) ?_ | refine mix_skip_f rfl rfl rfl (by with_reducible rfl) ?_ | refine mix_skip_u rfl rfl rfl (by with_reducible rfl) ?_); simp only [Act.put, List.setIfInBounds_toArray, List.set_cons_zero, List.set_cons_succ]) | (apply mix_take; (first | exact want_0 rfl | exact want_b rfl rfl rfl (by with_reducible rfl)); intro wq hwq R hR; ((have hcc := (bcell hwq).1; (try simp only [World.size_alloc, World.size_setCell, World.size_drew, World.heap_drewN] at hcc)); go_simp; first | exact hR | ((go_at_call 28; exact mcall (hm.out _) hR))); simp only [Act.put, List.setIfInBounds_toArray, List.set_cons_zero, List.set_cons_succ]))
            refine mix_nil ?_
            intro w4 hw4
            obtain ⟨hcw4, hfw4⟩ := bcell hw4
            have hzw4 := bsize hw4
            (try simp only [World.size_alloc, World.size_setCell, World.size_drew, World.heap_drewN] at hcw4 hfw4 hzw4)
            go_wp2_with fail
            refine (hl.out _).mono ?_
            rintro e w5 ⟨rfl, hw5⟩
            obtain ⟨hcw5, hfw5⟩ := bcell hw5
            have hzw5 := bsize hw5
            (try simp only [World.size_alloc, World.size_setCell, World.size_drew, World.heap_drewN] at hcw5 hfw5 hzw5)
            go_wp2_with fail
            go_roundw
            case rel => exact ⟨k + 1, max f (yh - 1), by omega, by go_num, rfl, by omega, by omega, hstep, ext_trans hx2 (ext_trans hw4 hw5)⟩
            case measure => simp [intOf]; omega
          case false =>
            go_wp2_with fail
            refine region_mix (by kernel_rfl) (by kernel_rfl) (fun _ _ d _ _ h => by cases d <;> exact h) ?_
            repeat (first | ((first | refine mix_skip_t rfl rfl rfl (by with_reducible rfl) ?_ | refine mix_skip_f rfl rfl rfl (by with_reducible rfl) ?_ | refine mix_skip_u rfl rfl rfl (by with_reducible rfl) ?_); simp only [Act.put, List.setIfInBounds_toArray, List.set_cons_zero, List.set_cons_succ]) | (apply mix_take; (first | exact want_0 rfl | exact want_b rfl rfl rfl (by with_reducible rfl)); intro wq hwq R hR; ((have hcc := (bcell hwq).1; (try simp only [World.size_alloc, World.size_setCell, World.size_drew, World.heap_drewN] at hcc)); go_simp; first | exact hR | ((go_at_call 28; exact mcall (hm.out _) hR))); simp only [Act.put, List.setIfInBounds_toArray, List.set_cons_zero, List.set_cons_succ]))
            refine mix_nil ?_
            intro w4 hw4
            obtain ⟨hcw4, hfw4⟩ := bcell hw4
            have hzw4 := bsize hw4
            (try simp only [World.size_alloc, World.size_setCell, World.size_drew, World.heap_drewN] at hcw4 hfw4 hzw4)
            go_wp2_with fail
            go_roundw
            case rel => exact ⟨k + 1, f, by omega, by go_num, rfl, hf1, hf2, Lib.hid ⟨hfar.out.1, hfar.out.2.1, hfar.out.2.2⟩, ext_trans hx2 hw4⟩
            case measure => simp [intOf]; omega
        · have hltI : ¬ (k : Int) < (us.length : Int) := by omega
          obtain rfl : k = us.length := by omega
          have hmu := fun W (h : Sl A W 2 Pfx.R uo ucap us) => meetsUsed_any root us uo ucap ⟨at_, size⟩ W h
          rw [any_meetQ] at hmu
          simp only at hmu
          obtain ⟨q, hq⟩ : ∃ q, q = us.any (Pfx.meets ⟨at_, size⟩) := ⟨_, rfl⟩
          rw [← hq] at hmu
          replace hq := Lib.hid hq
          replace hmu := Lib.hid hmu
          have hs4 := h.ext (ext_trans hxwo hx2)
          have l22 := l21
          cases q
          case false =>
            have hres := hRh.out at_ hblk.out hq.out.symm hno.out
            replace hres := Lib.hid hres
            have t0r := keepCell hx2 t0o
            have t1r := keepCell hx2 t1o
            have tfr : ∀ o, wr.frozen? ⟨w.heap.size + 1, o, none⟩ = false := fun o => by rw [hfr _ _ l32]; exact tfo o
            go_wp2_with fail
            refine (hmu.out _ hs4).mono ?_
            rintro e w5 ⟨rfl, hw5⟩
            obtain ⟨hcw5, hfw5⟩ := bcell hw5
            have hzw5 := bsize hw5
            (try simp only [World.size_alloc, World.size_setCell, World.size_drew, World.heap_drewN] at hcw5 hfw5 hzw5)
            have t05 := keepCell hw5 t0r
            have t15 := keepCell hw5 t1r
            have tf5 : ∀ o, w5.frozen? ⟨w.heap.size + 1, o, none⟩ = false := fun o => by rw [hfw5 _ _ m3]; exact tfr o
            go_wp2_with fail
            refine bodyPost_ret ?_ rfl ⟨by rw [hres.out], ?_⟩
            · unfold Pfx.v
              simp [results, Try.results10, go_sem, t05, t15]
            · exact Bel.bel (B := w.heap.size) (((Bel.refl w).call (ext_trans hxwo (ext_trans hx2 hw5))).setCell0 (by omega) _ |>.setCell0 (by omega) _)
          case true =>
            have hnx := nofit_step hno.out hbr.out hfar.out hq.out.symm
            rw [← hst.out] at hnx
            have h9 : 0 ≤ f / st ∧ f / st * st ≤ f := ⟨Int.ediv_nonneg (by omega) (by omega), Int.ediv_mul_le f (by omega)⟩
            have h10 := h9.1
            have h11 := h9.2
            have h12 : 0 ≤ f / st * st := Int.mul_nonneg h10 (by omega)
            have hal2 : (max at_ (f / st * st) + st) % st = 0 := by
              rw [Int.add_emod_right]
              rcases Int.le_total at_ (f / st * st) with hh | hh
              · rw [Int.max_eq_right hh]; exact Int.mul_emod_left _ _
              · rw [Int.max_eq_left hh]; exact hal.out
            replace hnx := Lib.hid hnx
            replace hal2 := Lib.hid hal2
            clear h9
            go_wp2_with fail
            refine (hmu.out _ hs4).mono ?_
            rintro e w5 ⟨rfl, hw5⟩
            obtain ⟨hcw5, hfw5⟩ := bcell hw5
            have hzw5 := bsize hw5
            (try simp only [World.size_alloc, World.size_setCell, World.size_drew, World.heap_drewN] at hcw5 hfw5 hzw5)
            go_wp2_with fail
            go_roundw
            case rel => exact ⟨_, rfl, by omega, by omega, hal2, hnx, ext_trans hx (ext_trans hw2 (ext_trans hxo (ext_trans hx2 hw5)))⟩
            case measure => simp [intOf]; omega
    · have hlt' : rh - 1 < at_ := by omega
      have hres := hRm.out at_ (by rw [← hrh.out]; omega) hno.out
      replace hres := Lib.hid hres
      go_wp2_with fail
      refine bodyPost_ret ?_ rfl ⟨by rw [hres.out], ?_⟩
      · unfold Pfx.zero Pfx.v
        simp [results, Try.results10, go_sem, t0, t1]
      · exact Bel.bel (B := w.heap.size) (((Bel.refl w).call (ext_trans hxx hw2)).setCell0 (by omega) _ |>.setCell0 (by omega) _)
end Go.Proofs.Ytflbpkgnadjokaa
namespace Go.Proofs.Ytflbpkgnadjokaa
open Go Go.RowKit
theorem areaC {M : Nat → Prop} {w : World} (hM : ∀ b, M b → b < w.heap.size) : ∀ b, (fun b => w.heap.size ≤ b) b → ¬ M b := fun b hb hm => by have := hM b hm; simp only at hb; omega
theorem spCheck_p (root : Pfx) (us : List Pfx) : PSpec Try.prog 13 [.agg (encS root us)] (.v (.int .i64 (chkS root us))) := by
  refine ⟨fnok_of Try.func13 (by kernel_rfl) rfl, fun M w vs hM hds => ?_⟩
  obtain ⟨v, vs, rfl, h1, hds⟩ := repDs_cons hds
  rw [repDs_nil hds]
  obtain ⟨uo, cap, rfl, hs⟩ := repD_S h1
  exact (spaceCheck_any root us uo cap w hs).mono fun e w' ⟨he, hx⟩ => ⟨_, he, .v _, hx⟩
theorem checkSpace_p (root : Pfx) (us : List Pfx) : PSpec Try.prog 9 [.agg (encS root us)] (.v (.int .i64 (chkS root us))) := by
  refine ⟨fnok_of Try.func9 (by kernel_rfl) rfl, fun M w vs hM hds => ?_⟩
  obtain ⟨v, vs, rfl, h1, hds⟩ := repDs_cons hds
  rw [repDs_nil hds]
  obtain ⟨uo, cap, rfl, hs⟩ := repD_S h1
  have := checkSpace_any root us uo cap w hs
  rw [chkS_eq] at this
  exact this.mono fun e w' ⟨he, hx⟩ => ⟨_, he, .v _, hx⟩
theorem meetsUsed_p (root : Pfx) (us : List Pfx) (p : Pfx) : PSpec Try.prog 31 [.agg (encS root us), .agg (encP p)] (.v (.bool (us.any p.meets))) := by
  refine ⟨fnok_of Try.func31 (by kernel_rfl) rfl, fun M w vs hM hds => ?_⟩
  obtain ⟨v, vs, rfl, h1, hds⟩ := repDs_cons hds
  obtain ⟨v, vs, rfl, h2, hds⟩ := repDs_cons hds
  rw [repDs_nil hds]
  obtain ⟨uo, cap, rfl, hs⟩ := repD_S h1
  rw [repD_P h2]
  have := meetsUsed_any root us uo cap p w hs
  rw [any_meetQ] at this
  exact this.mono fun e w' ⟨he, hx⟩ => ⟨_, he, .v _, hx⟩
theorem spFit_p (root : Pfx) (us : List Pfx) (size : Int) : PSpec Try.prog 7 [.agg (encS root us), .v (.int .i64 size)] (.tup [.agg (encP (fitS root us size).1), .v (.bool (fitS root us size).2.1), .v (.int .i64 (fitS root us size).2.2)]) := by
  refine ⟨fnok_of Try.func7 (by kernel_rfl) rfl, fun M w vs hM hds => ?_⟩
  obtain ⟨v, vs, rfl, h1, hds⟩ := repDs_cons hds
  obtain ⟨v, vs, rfl, h2, hds⟩ := repDs_cons hds
  rw [repDs_nil hds]
  obtain ⟨uo, cap, rfl, hs⟩ := repD_S h1
  rw [repD_v h2]
  exact (fit_any root us uo cap size w hs).mono fun e w' ⟨he, hx⟩ => ⟨_, he, flat_mk rfl rfl, hx⟩
theorem fitOf_p (root : Pfx) (us : List Pfx) (size : Int) (hok : SpaceOK root us) (h1 : root.len ≤ size) (h2 : size ≤ 16) : PSpec Try.prog 10 [.agg (encS root us), .v (.int .i64 size)] (.tup [.agg (encP (fitR root us size).1), .v (.bool (fitR root us size).2)]) := by
  refine ⟨fnok_of Try.func10 (by kernel_rfl) rfl, fun M w vs hM hds => ?_⟩
  obtain ⟨v, vs, rfl, g1, hds⟩ := repDs_cons hds
  obtain ⟨v, vs, rfl, g2, hds⟩ := repDs_cons hds
  rw [repDs_nil hds]
  obtain ⟨uo, cap, rfl, hs⟩ := repD_S g1
  rw [repD_v g2]
  exact (fitOf_any root us uo cap size w hs hok h1 h2).mono fun e w' ⟨he, hx⟩ => ⟨_, he, flat_mk rfl rfl, hx⟩
end Go.Proofs.Ytflbpkgnadjokaa
namespace Go.Proofs.Ytflbpkgnadjokaa
open Go Go.RowKit Go.Proofs
/-- May a hole of that length begin there? -/
def okAt (root : Pfx) (us : List Pfx) (a L : Int) : Bool := Pfx.right ⟨a, L⟩ && (insQ ⟨a, L⟩ root && freeP us ⟨a, L⟩)
/-- What the search over lengths has found, all above s being tried. -/
def Fnd (root : Pfx) (us : List Pfx) (a s cur : Int) : Prop :=
  (cur = 17 ∧ ∀ L, s < L → L ≤ 16 → okAt root us a L = false) ∨ (s < cur ∧ cur ≤ 16 ∧ okAt root us a cur = true ∧ ∀ L, s < L → L < cur → okAt root us a L = false)
theorem fnd_start (root : Pfx) (us : List Pfx) (a : Int) : Fnd root us a 16 17 := .inl ⟨rfl, fun L h1 h2 => by omega⟩
theorem fnd_yes {root : Pfx} {us : List Pfx} {a s : Int} (h2 : s ≤ 16) (hk : okAt root us a s = true) : Fnd root us a (s - 1) s := .inr ⟨by omega, h2, hk, fun L h1 h2 => by omega⟩
theorem fnd_no {root : Pfx} {us : List Pfx} {a s cur : Int} (h : Fnd root us a s cur) (hk : okAt root us a s = false) : Fnd root us a (s - 1) cur := by
  rcases h with ⟨h1, h2⟩ | ⟨h1, h2, h3, h4⟩
  · exact .inl ⟨h1, fun L g1 g2 => by
      rcases Int.lt_or_eq_of_le (show s ≤ L by omega) with h | h
      · exact h2 L h g2
      · subst h; exact hk⟩
  · exact .inr ⟨by omega, h2, h3, fun L g1 g2 => by
      rcases Int.lt_or_eq_of_le (show s ≤ L by omega) with h | h
      · exact h4 L h g2
      · subst h; exact hk⟩
/-- The search's state at an address. -/
structure HSt (root : Pfx) (us : List Pfx) (a : Int) (done rest : List Pfx) : Prop where
  all : holesS root us = done ++ rest
  before : ∀ q ∈ done, q.hi ≤ a
  behind : ∀ q ∈ rest, a ≤ q.at_
  used : ∀ u ∈ us, u.hi ≤ a ∨ a ≤ u.at_
  low : root.at_ ≤ a
theorem hst_start {root : Pfx} {us : List Pfx} (h : SpaceOK root us) : HSt root us root.at_ [] (holesS root us) :=
  ⟨rfl, (fun q hq => by cases hq), fun q hq => (insQ_hi.1 (holesS_ins h hq).1).2.2.1, fun u hu => .inr (insQ_hi.1 (h.ins u hu)).2.2.1, Int.le_refl _⟩
theorem hst_end {root : Pfx} {us : List Pfx} (h : SpaceOK root us) {a : Int} {done rest : List Pfx} (hs : HSt root us a done rest) (ha : root.hi ≤ a) : done = holesS root us := by
  cases rest with
  | nil => rw [hs.all]; simp
  | cons q t =>
    have hq : q ∈ holesS root us := by rw [hs.all]; simp
    obtain ⟨k1, k2, k3, k4⟩ := insQ_hi.1 (holesS_ins h hq).1
    have := q.hi_bd k1
    have := hs.behind q (by simp)
    omega
theorem hst_hole {root : Pfx} {us : List Pfx} (h : SpaceOK root us) {a cur : Int} {done rest : List Pfx} (hs : HSt root us a done rest) (hf : Fnd root us a (root.len - 1) cur) (hc : cur ≤ 16) :
    Pfx.right ⟨a, cur⟩ = true ∧ ∃ rest', HSt root us (Pfx.hi ⟨a, cur⟩) (done ++ [⟨a, cur⟩]) rest' := by
  rcases hf with ⟨rfl, _⟩ | ⟨h1, h2, h3, h4⟩
  · omega
  · unfold okAt at h3
    simp only [Bool.and_eq_true] at h3
    obtain ⟨r1, r2, r3⟩ := h3
    refine ⟨r1, ?_⟩
    obtain ⟨q, hq, hqi⟩ := holesS_all h r2 r3
    obtain ⟨k1, k2, k3, k4⟩ := insQ_hi.1 hqi
    have hab := Pfx.hi_bd r1
    simp only at k3 hab
    obtain ⟨qi, qf⟩ := holesS_ins h hq
    have hqr : q ∈ rest := by
      rw [hs.all] at hq
      rcases List.mem_append.1 hq with hd | hr
      · have := hs.before q hd; omega
      · exact hr
    have hqa : q.at_ = a := by have := hs.behind q hqr; omega
    have hqe : q = ⟨a, cur⟩ := by
      have hl := (insQ_iff.1 hqi).2.2.1
      simp only at hl
      have hql := (insQ_iff.1 qi).2.2.1
      have : ¬ q.len < cur := fun hlt => by
        have := h4 q.len (by omega) hlt
        have hok : okAt root us a q.len = true := by
          unfold okAt
          have e : (⟨a, q.len⟩ : Pfx) = q := by rw [← hqa]
          rw [e, k2, qi, qf]; rfl
        rw [hok] at this; cases this
      obtain ⟨qa, ql⟩ := q
      simp only [Pfx.mk.injEq] at *
      exact ⟨hqa, by omega⟩
    have hsort := holesS_sorted h
    rw [hs.all] at hsort
    cases rest with
    | nil => cases hqr
    | cons x t =>
      have hx : x = q := by
        rcases List.mem_cons.1 hqr with rfl | hm
        · rfl
        · have hap := (List.pairwise_cons.1 (List.pairwise_append.1 hsort).2.1).1 q hm
          have hxa := hs.behind x (by simp)
          have hxm : x ∈ holesS root us := by rw [hs.all]; simp
          have := x.hi_bd (insQ_hi.1 (holesS_ins h hxm).1).1
          unfold Apart at hap
          omega
      subst hx
      refine ⟨t, ⟨by rw [hs.all, hqe]; simp, ?_, ?_, ?_, by have := hs.low; omega⟩⟩
      · intro y hy
        rcases List.mem_append.1 hy with hd | hd
        · have := hs.before y hd; omega
        · simp only [List.mem_singleton] at hd; subst hd; exact Int.le_refl _
      · intro y hy
        have hap := (List.pairwise_cons.1 (List.pairwise_append.1 hsort).2.1).1 y hy
        unfold Apart at hap
        rw [hqe] at hap
        exact hap
      · intro u hu
        rcases hs.used u hu with hl | hl
        · left; omega
        · right
          unfold freeP at r3
          rw [Bool.not_eq_true', List.any_eq_false] at r3
          have hm := r3 u hu
          rw [meets_iff] at hm
          have hur := (insQ_hi.1 (h.ins u hu)).1
          have hub := u.hi_bd hur
          rcases Int.lt_or_le u.at_ (Pfx.hi ⟨a, cur⟩) with hlt | hle
          · exact absurd ⟨r1, hur, (by show a < u.hi; omega), hlt⟩ hm
          · exact hle
theorem hst_used {root : Pfx} {us : List Pfx} (h : SpaceOK root us) {a : Int} {done rest : List Pfx} (hs : HSt root us a done rest) (hf : Fnd root us a (root.len - 1) 17) (ha : a < root.hi) :
    ∃ u ∈ us, holdB u.at_ u.len a = true := by
  rcases hf with ⟨_, h2⟩ | ⟨h1, h2, _⟩
  · obtain ⟨g1, g2, g3, g4, g5⟩ := root.bd h.rr
    have hrb := root.hi_bd h.rr
    have hlow := hs.low
    have h16 := h2 16 (by omega) (by omega)
    have hm1 : a % szI 16 = 0 := by rw [show szI 16 = 1 from by decide]; exact Int.emod_one a
    have hr : Pfx.right ⟨a, 16⟩ = true := right_of (a := a) (l := 16) (by omega) (by omega) (by omega) (by omega) hm1
    have hi : insQ ⟨a, 16⟩ root = true := insQ_iff.2 ⟨hr, h.rr, g2, hlow, ha⟩
    unfold okAt at h16
    rw [hr, hi] at h16
    simp only [Bool.true_and] at h16
    unfold freeP at h16
    rw [Bool.not_eq_false'] at h16
    obtain ⟨u, hu, hm⟩ := List.any_eq_true.1 h16
    obtain ⟨_, m2, m3, m4⟩ := meets_iff.1 hm
    have : szI 16 = 1 := by decide
    simp only [Pfx.hi, this] at m4
    exact ⟨u, hu, holdB_iff.2 ⟨m2, by omega, m3⟩⟩
  · omega
theorem hst_skip {root : Pfx} {us : List Pfx} (h : SpaceOK root us) {a : Int} {done rest : List Pfx} (hs : HSt root us a done rest) {u : Pfx} (hu : u ∈ us) (hh : holdB u.at_ u.len a = true) : HSt root us u.hi done rest := by
  obtain ⟨k1, k2, k3⟩ := holdB_iff.1 hh
  have hua : u.at_ = a := by rcases hs.used u hu with h1 | h1 <;> omega
  have hub := u.hi_bd k1
  refine ⟨hs.all, fun q hq => by have := hs.before q hq; omega, fun q hq => ?_, fun v hv => ?_, by have := hs.low; omega⟩
  · have hqa := hs.behind q hq
    have hqm : q ∈ holesS root us := by rw [hs.all]; simp [hq]
    obtain ⟨qi, qf⟩ := holesS_ins h hqm
    have hqr := (insQ_hi.1 qi).1
    have hqb := q.hi_bd hqr
    unfold freeP at qf
    rw [Bool.not_eq_true', List.any_eq_false] at qf
    have hm := qf u hu
    rw [meets_iff] at hm
    rcases Int.lt_or_le q.at_ u.hi with hlt | hle
    · exact absurd ⟨hqr, k1, hlt, by omega⟩ hm
    · exact hle
  · have hvr := (insQ_hi.1 (h.ins v hv)).1
    have hvb := v.hi_bd hvr
    rcases hs.used v hv with h1 | h1
    · left; omega
    · rcases Int.lt_or_le v.at_ u.hi with hlt | hle
      · have := apart_eq h.apart hu hv (by omega) hlt
        subst this
        left; omega
      · right; exact hle
end Go.Proofs.Ytflbpkgnadjokaa
namespace Go.Proofs.Ytflbpkgnadjokaa
open Go Go.RowKit Go.Proofs Go.Shelf
set_option maxRecDepth 100000
attribute [local go_sem] Oper.semAt_some
theorem holesF_len (us : List Pfx) : ∀ n p, (holesF us n p).length ≤ 2 ^ n
  | 0, p => by unfold holesF; split <;> simp
  | n + 1, p => by
    unfold holesF
    split
    · split
      · simp
      · have h1 := holesF_len us n p.low
        have h2 := holesF_len us n p.high
        rw [List.length_append, Nat.pow_succ]; omega
    · have := Nat.one_le_two_pow (n := n + 1); simpa using this
def pcells (x : Pfx) : List Value := [.int .i64 x.at_, .int .i64 x.len]
theorem Try.infoPrefix : (Try.prog.info? 23).map (fun i => (i.zero, i.size, i.bytes)) = some (some (.agg #[.int .i64 0, .int .i64 0]), 2, 16) := by kernel_rfl
def apOwn (n : Nat) (W : World) (b : Nat) : Prop := b = n ∨ ∃ v, W.cell? ⟨n, 0, none⟩ = some v ∧ v.ownBlock = some b
def apG (n : Nat) (W : World) : Prop := ∃ v, blk W n #[v] 24 ∧ ∀ r, v.ownBlock = some r → n < r ∧ r < W.heap.size
def ApI (w : World) (pre : List Pfx) (W : World) : Prop :=
  ∃ v, blk W w.heap.size #[v] 24 ∧ W.ownsRow (w.heap.size + 1) 23 2 v pre.length (pre.flatMap pcells) ∧ Below w.heap.size w W
theorem apI_own (w : World) (B : Nat) (hB : w.heap.size ≤ B) : OwnFrom B (ApI w) := by
  intro s X Y row h hg hr
  obtain ⟨v, h1, h2, h3⟩ := h
  have hr' : ∀ r, row = some r → ∃ o : Obj, X.heap[r]? = some o ∧ o.isCells = false := fun r e => (hr r e).2
  refine ⟨v, blk_kept h1 hg hr', h2.kept hg ?_, h3.grown hg h3.size (fun k e => Nat.le_trans hB (hr k e).1)⟩
  rcases h2.2 with ⟨rfl, _⟩ | ⟨g, cap, cur, rfl, _, hgb, _⟩
  · left; rfl
  · right
    intro e
    obtain ⟨o, ho, hc⟩ := hr' g e.symm
    rw [hgb] at ho; cases ho; cases hc
theorem ap_g1 {n b : Nat} {X : World} (hg : apG n X) (ho : apOwn n X b) : n ≤ b ∧ b < X.heap.size := by
  obtain ⟨v, hv, hr⟩ := hg
  rcases ho with rfl | ⟨u, hu, hb⟩
  · exact ⟨Nat.le_refl _, lt_of_block hv⟩
  · have := blk_cell (o := 0) hv rfl
    rw [hu] at this
    cases this
    have := hr b hb
    omega
theorem ap_g2 {n b : Nat} {X Y : World} (hg : apG n X) (hx : Ext X Y) (ho : apOwn n Y b) : apOwn n X b := by
  obtain ⟨v, hv, _⟩ := hg
  rcases ho with rfl | ⟨u, hu, hb⟩
  · exact .inl rfl
  · have h1 := blk_cell (o := 0) hv rfl
    have h2 := keepCell hx h1
    rw [hu] at h2
    cases h2
    exact .inr ⟨_, h1, hb⟩
theorem ap_g3 {n : Nat} {X Y : World} (hg : apG n X) (hx : Ext X Y) : apG n Y := by
  obtain ⟨v, hv, hr⟩ := hg
  exact ⟨v, blk_ext hv hx, fun r e => ⟨(hr r e).1, Nat.lt_of_lt_of_le (hr r e).2 hx.size⟩⟩
theorem ap_put (n : Nat) {w : World} (W : World) (l : Nat) (o o' : Obj) (_ : w.heap.size ≤ l) (h : W.heap[l]? = some o) (hc : o.isCells = false) (_ : o.isWalk = false) : KG (apOwn n) (apG n) W (W.putObj l o') := by
  intro hg
  have hgr := grownBy_putObj' W l o'
  have hr' : ∀ r, some l = some r → ∃ o : Obj, W.heap[r]? = some o ∧ o.isCells = false := fun r e => by cases e; exact ⟨o, h, hc⟩
  obtain ⟨v, hv, hr⟩ := hg
  refine ⟨⟨hgr.size, fun b c t f _ hb => (hgr.block b (lt_of_block hb) (fun e => by cases e; rw [h] at hb; cases hb; cases hc)).trans hb, fun b _ ho => ?_⟩, ⟨v, blk_kept hv hgr hr', fun r e => ⟨(hr r e).1, Nat.lt_of_lt_of_le (hr r e).2 hgr.size⟩⟩⟩
  rcases ho with rfl | ⟨u, hu, hb⟩
  · exact .inl rfl
  · have h1 := blk_cell (o := 0) (blk_kept hv hgr hr') rfl
    rw [hu] at h1
    cases h1
    exact .inr ⟨_, blk_cell (o := 0) hv rfl, hb⟩
set_option maxHeartbeats 2000000 in
set_option maxRecDepth 100000 in
theorem appendSeq_any (us : List Pfx) (uo : Option Addr) (ucap : Nat) (p : Pfx) (n : Nat) (hn : 16 - p.len = (n : Int)) (hn16 : n ≤ 16) (hr : p.right = true) (b1 b2 : Nat) (w : World)
    (c0 : w.cell? ⟨b1, 0, none⟩ = some (.int .i64 p.at_)) (c1 : w.cell? ⟨b1, 1, none⟩ = some (.int .i64 p.len)) (c2 : w.cell? ⟨b2, 0, none⟩ = some (.slice uo us.length ucap)) {A : Area} (h : Sl A w 2 Pfx.R uo ucap us) :
    Calls Try.prog 45 #[.slice none 0 0, .func (.func 43) #[] #[.pointer (some ⟨b1, 0, none⟩), .pointer (some ⟨b2, 0, none⟩)]] w fun e w' =>
      ∃ v, e = .returned v ∧ w'.ownsRow (w.heap.size + 1) 23 2 v (holesF us n p).length ((holesF us n p).flatMap pcells) ∧ Ext w w' := by
  have hlen := holesF_len us n p
  have h65 : (holesF us n p).length ≤ 65536 := Nat.le_trans hlen (Nat.pow_le_pow_right (by omega) hn16)
  obtain ⟨i0, hi, hz0, hz1, hz2⟩ := info_parts Try.infoPrefix
  refine (callsIn_wide (n := 3)).1 ?_
  refine callsIn_of_wp_marks Try.func45 rfl trivial ?_ rfl
  simp only [Try.ntmps45, List.size_toArray, List.length_cons, List.length_nil, Nat.reduceAdd, Nat.reduceSub, Array.replicate_succ, Array.replicate_zero, List.push_toArray, List.append_toArray, List.nil_append, List.cons_append]
  gi_wp2_with fail
  have hx1 : Ext w (w.alloc (.cells #[.slice none 0 0] 24)) := ext_alloc _ _
  have bb : blk (w.alloc (.cells #[.slice none 0 0] 24)) w.heap.size #[.slice none 0 0] 24 := block_new _ _
  refine wpIn_rangeFunc_ownH rfl (by omega) (gf := 43) (lb := #[.pointer (some ⟨b1, 0, none⟩), .pointer (some ⟨b2, 0, none⟩)]) rfl trivial (enters_of Try.func43 (by kernel_rfl) rfl)
    (walk_stops (apOwn w.heap.size) (apG w.heap.size) 2 w.heap.size b1 b2 us uo ucap p n hn hr _ ⟨_, bb, fun r e => by simp [Value.ownBlock] at e⟩
      (fun X b hg ho => ap_g1 hg ho) (fun X Y b hg hx ho => ap_g2 hg hx ho) (fun X Y hg hx => ap_g3 hg hx) (keepCell hx1 c0) (keepCell hx1 c1) (keepCell hx1 c2) (h.inW.ext hx1)) KG_t (ap_put w.heap.size (w := (w.alloc (.cells #[.slice none 0 0] 24)))) (Below.refl _ _) (fun _ => rfl)
    (ApI w) (fun _ _ _ => False) (apI_own w _ (by simp)) (fun c s X Y row h _ _ => h)
    ⟨_, bb, World.ownsRow_nil _ _ _ _, hx1⟩
    (fun x a' W => ∃ Bx, w.heap.size < Bx ∧ blk W Bx #[.int .i64 x.at_, .int .i64 x.len] 23 ∧ a' = { tmps := #[.slice none 0 0, .func (.func 43) #[] #[.pointer (some ⟨b1, 0, none⟩), .pointer (some ⟨b2, 0, none⟩)], .pointer (some ⟨w.heap.size, 0, none⟩), undef, .slice none 0 0, .pointer (some ⟨Bx, 0, none⟩), .func (.func 43) #[] #[.pointer (some ⟨b1, 0, none⟩), .pointer (some ⟨b2, 0, none⟩)], .agg #[.int .i64 x.at_, .int .i64 x.len], undef, undef, undef, undef, undef], defers := [] })
    (fun x a' => by
      intro s X Y row h hg hr
      obtain ⟨Bx, h1, h2, h3⟩ := h
      exact ⟨Bx, h1, blk_kept h2 hg (fun r e => (hr r e).2), h3⟩) ?assign ?body ?done ?stop
  case assign =>
    intro l pre x W K hi hK
    have hi' := hi
    obtain ⟨v, hv, -, hB⟩ := hi'
    have hlt := lt_of_block hv
    unfold Pfx.v
    gi_wp2
    refine hK _ _ ((KeepsOthers.alloc _ _).from _) (fun g => ⟨KP.of (ext_alloc _ _) fun b ho => ap_g2 g (ext_alloc _ _) ho, ap_g3 g (ext_alloc _ _)⟩) (apI_own w w.heap.size (Nat.le_refl _) _ _ _ none hi (World.grownBy_alloc _ _ _) (fun r e => by cases e)) ⟨W.heap.size, hlt, block_new _ _, rfl⟩
  case body =>
    rintro l pre x a' W hl ⟨r, hr⟩ ⟨v, hv, hrow, hB⟩ ⟨Bx, hBx, bX, rfl⟩ hlt
    have x0 := blk_cell (o := 0) bX rfl
    have x1 := blk_cell (o := 1) bX rfl
    have s0 := blk_cell (o := 0) hv rfl
    have sf : ∀ o, W.frozen? ⟨w.heap.size, o, none⟩ = false := fun o => blk_free hv
    have hle := lt_of_block hv
    have hz := hB.size
    have hvB : Boxed W w.heap.size 24 v := hv
    gi_wp2_with (gi_at_builtin; refine wpListIn_append_own_at _ rfl _ _ 24 rfl (w.heap.size + 1) 23 i0 (.agg #[.int .i64 0, .int .i64 0]) 2 16 Try.underlying24 hi hz0 hz1 hz2 rfl (by decide) v pre.length (pre.flatMap pcells) rfl (hrow.alloc _) ⟨W.heap.size, 0, none⟩ 1 1 (pcells x) rfl rfl ?c1 ?c2 (by unfold maxLen; omega) (by omega) (by simp; omega) ?_; rotate_right; intro v' w3 hown' hgrow _ hvb; obtain ⟨g', cap', rfl⟩ := ownsRow_succ hown'; have hv1 : Boxed w3 w.heap.size 24 v := (hvB.alloc _).kept hgrow (hvB.not_row (by decide) hrow); have hc1 := hv1.cell; have hf1 := hv1.frozen)
    case c1 => exact cells_new _ _ _
    case c2 => intro u hu; simp [pcells] at hu; rcases hu with rfl | rfl <;> rfl
    have hkp : ∀ b, b < W.heap.size → ¬ apOwn w.heap.size W b → (w3.setCell ⟨w.heap.size, 0, none⟩ (.slice (some ⟨g', 0, none⟩) (pre.length + 1) cap')).heap[b]? = W.heap[b]? := fun b hb hno => by
      rw [block_setCell_ne _ (by intro e; exact hno (.inl e.symm)), hgrow.block b (by simp; omega) (fun e => hno (.inr ⟨v, hvB.cell, e.symm⟩)), Below.heap_alloc _ _ _ hb]
    have hb3 : blk (w3.setCell ⟨w.heap.size, 0, none⟩ (.slice (some ⟨g', 0, none⟩) (pre.length + 1) cap')) w.heap.size #[.slice (some ⟨g', 0, none⟩) (pre.length + 1) cap'] 24 := hv1.set _
    have hsz3 := hgrow.size
    simp only [World.size_alloc] at hsz3 hvb
    have hg'lt : w.heap.size < g' ∧ g' < w3.heap.size := by
      have := hown'.lt g' rfl
      omega
    have hown3 : (w3.setCell ⟨w.heap.size, 0, none⟩ (.slice (some ⟨g', 0, none⟩) (pre.length + 1) cap')).ownsRow (w.heap.size + 1) 23 2 (.slice (some ⟨g', 0, none⟩) (pre.length + 1) cap') (pre.length + 1) (pre.flatMap pcells ++ pcells x) :=
      hown'.kept (grownBy_setCell' w3 w.heap.size _) (.inr (hv1.not_row (by decide) hown').symm)
    have hB3 : Below w.heap.size w (w3.setCell ⟨w.heap.size, 0, none⟩ (.slice (some ⟨g', 0, none⟩) (pre.length + 1) cap')) :=
      ((hB.alloc (by omega) _).grown hgrow (by simp; omega) (fun k e => by have := hrow.lt k e; omega)).setCell (p := ⟨w.heap.size, 0, none⟩) (Nat.le_refl _) _
    refine ⟨?_, fun _ => ⟨⟨?_, ?_, ?_⟩, ⟨_, hb3, fun r e => by cases e; exact ⟨hg'lt.1, by rw [World.size_setCell]; exact hg'lt.2⟩⟩⟩, ⟨_, hb3, by simpa using hown3, hB3⟩⟩
    · refine (((KeepsOthers.alloc W _).trans (KeepsOthers.of_grownBy hgrow fun j o ej hj => ?_)).trans (KeepsOthers.setCell _ _ _)).from _
      rcases (hrow.alloc (.cells #[.int .i64 x.at_, .int .i64 x.len] 23)).2 with ⟨rfl, _⟩ | ⟨g, cap, cur, rfl, _, hgb, _⟩
      · cases ej
      · cases ej
        rw [hgb] at hj
        cases hj
        rfl
    · rw [World.size_setCell]; omega
    · intro b c t f hno hc
      exact (hkp b (lt_of_block hc) hno).trans hc
    · intro b hb ho
      rcases ho with rfl | ⟨u, hu, hub⟩
      · exact .inl rfl
      · have := blk_cell (o := 0) hb3 rfl
        rw [hu] at this
        cases this
        rcases hvb with e | e
        · exact .inr ⟨v, hvB.cell, by rw [← e]; exact hub⟩
        · have hub' : (Value.slice (some ⟨g', 0, none⟩) (pre.length + 1) cap').ownBlock = some b := hub
          rw [e] at hub'; cases hub'; omega
  case done =>
    rintro D ys W hD rfl ⟨v, hv, hrow, hB⟩ hK
    have s0 := blk_cell (o := 0) hv rfl
    gi_wp2
    refine ⟨by simp, .inl ⟨_, _, rfl, run_takeDeferred hK, ?_⟩⟩
    refine ⟨v, ?_, v, rfl, ownsRow_putObj hrow _ hK rfl, hB.trans (belowK_b (w := w) (Nat.le_refl _) W D _ _ (by simp at hD; omega) hK rfl rfl)⟩
    simp [results, Try.f45, go_sem]
  case stop =>
    rintro D c pre W hD hpre hf hK
    exact hf.elim
end Go.Proofs.Ytflbpkgnadjokaa
namespace Go.Proofs.Ytflbpkgnadjokaa
open Go Go.RowKit Go.Proofs
theorem flatMap_at {α : Type} {f : α → List Value} {k : Nat} : ∀ (l : List α), (∀ x ∈ l, (f x).length = k) → ∀ i (h : i < l.length) j, j < k → (l.flatMap f)[i * k + j]? = (f l[i])[j]?
  | [], _, i, h, _, _ => absurd h (by simp)
  | x :: l, hf, i, h, j, hj => by
    have hx := hf x (by simp)
    rw [List.flatMap_cons]
    match i with
    | 0 => rw [List.getElem?_append_left (by omega)]; simp
    | i + 1 =>
      have e : (i + 1) * k + j - k = i * k + j := by rw [Nat.succ_mul]; omega
      rw [List.getElem?_append_right (by rw [hx, Nat.succ_mul]; omega), hx, e, flatMap_at l (fun y hy => hf y (by simp [hy])) i (by simpa using h) j hj]
      simp
theorem sl_own {α : Type} {A : Area} {w : World} {base k : Nat} {e : TypeId} {v : Value} {l : List α} {f : α → List Value} {n : Nat} (h : w.ownsRow base e k v n (l.flatMap f)) (hn : n = l.length) (hf : ∀ x ∈ l, (f x).length = k)
    (hA : ∀ b, base ≤ b → A b) : ∃ ao cap, v = .slice ao n cap ∧ Sl A w k (fun cs x => cs = f x) ao cap l := by
  subst hn
  rcases h.2 with ⟨hv, h0⟩ | ⟨g, cap, cur, hv, hg, hb, hc, hm, hsz, ht⟩
  · refine ⟨none, 0, by rw [hv, h0], ⟨by omega, by decide, fun i hi => absurd hi (by omega)⟩⟩
  · subst hv
    refine ⟨_, cap, rfl, ⟨hc, hm, fun i hi => ⟨g, 0, f l[i], rfl, hA g hg, hf _ (List.getElem_mem hi), rfl, fun j hj => ?_⟩⟩⟩
    have hj' : j < k := by rw [hf _ (List.getElem_mem hi)] at hj; exact hj
    have hlt : i * k + j < l.length * k := by
      have : (i + 1) * k ≤ l.length * k := Nat.mul_le_mul_right k hi
      rw [Nat.succ_mul] at this; omega
    rw [show 0 + i * k + j = i * k + j from by omega, h.cellAt _ hlt, flatMap_at l hf i hi j hj', List.getElem?_eq_getElem hj]
end Go.Proofs.Ytflbpkgnadjokaa
namespace Go.Proofs.Ytflbpkgnadjokaa
open Go Go.RowKit Go.Proofs
set_option maxRecDepth 100000
def ColOut (w : World) (L : List Pfx) (e : Ending) (w' : World) : Prop :=
  ∃ ao cap, e = .returned (.slice ao L.length cap) ∧ Sl (fun b => w.heap.size ≤ b) w' 2 Pfx.R ao cap L ∧ Ext w w'
theorem col_out {w w' : World} {L : List Pfx} {v : Value} (h : w'.ownsRow (w.heap.size + 1) 23 2 v L.length (L.flatMap pcells)) (hx : Ext w w') : ColOut w L (.returned v) w' := by
  obtain ⟨ao, cap, rfl, hs⟩ := sl_own (A := fun b => w.heap.size ≤ b) h rfl (fun _ _ => rfl) (fun b hb => by omega)
  exact ⟨ao, cap, rfl, hs.mono fun cs x _ e => e, hx⟩
theorem collect_any (us : List Pfx) (uo : Option Addr) (ucap : Nat) (p : Pfx) (n : Nat) (hn : 16 - p.len = (n : Int)) (hn16 : n ≤ 16) (hr : p.right = true) (b1 b2 : Nat) (w : World)
    (c0 : w.cell? ⟨b1, 0, none⟩ = some (.int .i64 p.at_)) (c1 : w.cell? ⟨b1, 1, none⟩ = some (.int .i64 p.len)) (c2 : w.cell? ⟨b2, 0, none⟩ = some (.slice uo us.length ucap)) {A : Area} (h : Sl A w 2 Pfx.R uo ucap us) :
    Calls Try.prog 25 #[.func (.func 43) #[] #[.pointer (some ⟨b1, 0, none⟩), .pointer (some ⟨b2, 0, none⟩)]] w (ColOut w (holesF us n p)) := by
  have hc := Lib.hid (appendSeq_any us uo ucap p n hn hn16 hr b1 b2 w c0 c1 c2 h)
  clear c0 c1 c2 h hr
  go_enter Try.func25, Try.ntmps25
  go_wp2_with fail
  refine hc.out.mono ?_
  rintro e w1 ⟨v, rfl, hrow, hx⟩
  have ho := col_out hrow hx
  clear hrow
  go_wp2_with fail
  go_ret
  exact ho
def HolesOut (w : World) (root : Pfx) (us : List Pfx) (e : Ending) (w' : World) : Prop :=
  (chkS root us = 0 ∧ ∃ ao cap, e = .returned (.tuple #[.slice ao (holesS root us).length cap, .int .i64 0]) ∧ Sl (fun b => w.heap.size ≤ b) w' 2 Pfx.R ao cap (holesS root us) ∧ Ext w w') ∨
  (chkS root us ≠ 0 ∧ e = .returned (.tuple #[.slice none 0 0, .int .i64 (chkS root us)]) ∧ Ext w w')
set_option maxHeartbeats 1000000 in
theorem holes_any {A : Area} (root : Pfx) (us : List Pfx) (uo : Option Addr) (ucap : Nat) (w : World) (h : Sl A w 2 Pfx.R uo ucap us) :
    Calls Try.prog 8 #[.agg #[.int .i64 root.at_, .int .i64 root.len, .slice uo us.length ucap]] w (HolesOut w root us) := by
  have hck := fun W (h : Sl A W 2 Pfx.R uo ucap us) => spaceCheck_any root us uo ucap W h
  by_cases h0 : chkS root us = 0
  · have hroot : root.right = true := by
      unfold chkS at h0
      split at h0 <;> (try split at h0) <;> simp_all [Pfx.right, rightB]
    obtain ⟨g1, g2, -⟩ := right_bd hroot
    have hcol := fun (b1 b2 : Nat) W (hs : Sl A W 2 Pfx.R uo ucap us) c0 c1 c2 => collect_any us uo ucap root (16 - root.len).toNat (by omega) (by omega) hroot b1 b2 W c0 c1 c2 hs
    rw [h0] at hck
    have hwk := fun W => walk_any root uo us.length ucap W
    unfold Pfx.v at hwk
    replace hwk := Lib.hid hwk
    replace hck := Lib.hid hck
    replace hcol := Lib.hid hcol
    replace h0 := Lib.hid h0
    clear hroot
    go_enter Try.func8, Try.ntmps8
    go_wp2_with fail
    refine (hck.out _ (h.ext (ext_alloc _ _))).mono ?_
    rintro e w1 ⟨rfl, hw1⟩
    obtain ⟨hcw1, hfw1⟩ := bcell hw1
    have hzw1 := bsize hw1
    (try simp only [World.size_alloc, World.size_setCell, World.size_drew, World.heap_drewN] at hcw1 hfw1 hzw1)
    have hx1 := ext_trans (ext_alloc _ _) hw1
    have l1 : w.heap.size < w1.heap.size := by omega
    go_wp2_with fail
    refine (hwk.out _).mono ?_
    rintro e w2 ⟨rfl, rfl⟩
    go_wp2_with fail
    refine (hcol.out _ _ _ (((h.ext hx1).ext (ext_alloc _ _)).ext (ext_alloc _ _)) (by simp) (by simp) (by simp)).mono ?_
    rintro e w3 ⟨ao, cap, rfl, hs3, hx3⟩
    have ho : HolesOut w root us (.returned (.tuple #[.slice ao (holesS root us).length cap, .int .i64 0])) w3 := .inl ⟨h0.out, ao, cap, rfl, by
      refine ⟨hs3.cap_le, hs3.cap_max, fun i hi => ?_⟩
      obtain ⟨b, off, cs, q1, q2, q3, q4, q5⟩ := hs3.elem i hi
      exact ⟨b, off, cs, q1, by simp at q2; omega, q3, q4, q5⟩, ext_trans hx1 (ext_trans (ext_trans (ext_alloc _ _) (ext_alloc _ _)) hx3)⟩
    unfold holesS at ho
    clear hs3
    replace ho := Lib.hid ho
    go_wp2_with fail
    go_ret2
    exact ho.out
  · obtain ⟨c, hc⟩ : ∃ c, c = chkS root us := ⟨_, rfl⟩
    have ho : ∀ W', Ext w W' → HolesOut w root us (.returned (.tuple #[.slice none 0 0, .int .i64 c])) W' := fun W' hx => .inr ⟨h0, by rw [hc], hx⟩
    rw [← hc] at hck h0
    have hne : (c != 0) = true := by simpa using h0
    clear h0 hc
    replace hck := Lib.hid hck
    replace ho := Lib.hid ho
    go_enter Try.func8, Try.ntmps8
    go_wp2_with fail
    refine (hck.out _ (h.ext (ext_alloc _ _))).mono ?_
    rintro e w1 ⟨rfl, hw1⟩
    obtain ⟨hcw1, hfw1⟩ := bcell hw1
    have hzw1 := bsize hw1
    (try simp only [World.size_alloc, World.size_setCell, World.size_drew, World.heap_drewN] at hcw1 hfw1 hzw1)
    go_wp2_with fail
    go_ret2
    exact ho.out _ (ext_trans (ext_alloc _ _) hw1)
end Go.Proofs.Ytflbpkgnadjokaa
namespace Go.Proofs.Ytflbpkgnadjokaa
open Go Go.RowKit Go.Proofs Go.Shelf
/-- A row of prefixes at the head of a block, free to be written. -/
structure Fl (w : World) (b cap : Nat) (l : List Pfx) : Prop where
  cap_le : l.length ≤ cap
  cap_max : cap ≤ 9223372036854775807
  at_ : ∀ i (h : i < l.length), w.cell? ⟨b, i * 2, none⟩ = some (.int .i64 l[i].at_)
  len : ∀ i (h : i < l.length), w.cell? ⟨b, i * 2 + 1, none⟩ = some (.int .i64 l[i].len)
  free : ∀ o, w.frozen? ⟨b, o, none⟩ = false
theorem Fl.sl {A : Area} {w : World} {b cap : Nat} {l : List Pfx} (h : Fl w b cap l) (hA : A b) : Sl A w 2 Pfx.R (some ⟨b, 0, none⟩) cap l := by
  refine ⟨h.cap_le, h.cap_max, fun i hi => ⟨b, 0, pcells l[i], rfl, hA, rfl, rfl, fun j hj => ?_⟩⟩
  match j, hj with
  | 0, _ => have := h.at_ i hi; simpa [pcells] using this
  | 1, _ => have := h.len i hi; simpa [pcells] using this
theorem fl_own {w : World} {base g cap n : Nat} {l : List Pfx} (h : w.ownsRow base 23 2 (.slice (some ⟨g, 0, none⟩) n cap) n (l.flatMap pcells)) (hn : n = l.length) : Fl w g cap l := by
  subst hn
  obtain ⟨ao, cap', e, hs⟩ := sl_own (A := fun _ => True) h rfl (fun _ _ => rfl) (fun _ _ => trivial)
  simp only [Value.slice.injEq, true_and] at e
  obtain ⟨rfl, rfl⟩ := e
  rcases h.2 with ⟨hv, _⟩ | ⟨g', cap', cur, hv, hg, hb, hc, hm, hsz, ht⟩
  · cases hv
  · simp only [Value.slice.injEq, Option.some.injEq, Addr.mk.injEq, and_true, true_and] at hv
    obtain ⟨rfl, rfl⟩ := hv
    refine ⟨hc, hm, fun i hi => ?_, fun i hi => ?_, fun o => free_of_block hb⟩
    · obtain ⟨b, off, cs, e1, -, -, e2, e3⟩ := hs.elem i hi
      simp only [Option.some.injEq, Addr.mk.injEq, and_true] at e1
      obtain ⟨rfl, rfl⟩ := e1
      subst e2
      have := e3 0 (by simp [pcells])
      simpa [pcells] using this
    · obtain ⟨b, off, cs, e1, -, -, e2, e3⟩ := hs.elem i hi
      simp only [Option.some.injEq, Addr.mk.injEq, and_true] at e1
      obtain ⟨rfl, rfl⟩ := e1
      subst e2
      have := e3 1 (by simp [pcells])
      simpa [pcells] using this
abbrev RP := {p : Pfx // p.right = true}
def encRP (x : RP) : List Value := pcells x.1
def cfRP (x y : RP) : Int := x.1.at_ - y.1.at_
theorem ltRP (x y : RP) : ltOf cfRP x y = decide (x.1.at_ < y.1.at_) := by
  unfold ltOf cfRP
  by_cases h : x.1.at_ < y.1.at_
  · simp [h]; omega
  · simp [h]; omega
theorem swoRP : Sort.SWO (ltOf cfRP) where
  irrefl x := by rw [ltRP]; simp
  trans x y z h1 h2 := by rw [ltRP] at *; simp at *; omega
  ntrans x y z h1 h2 := by rw [ltRP] at *; simp at *; omega
theorem closure_any (x y : RP) (W : World) : Calls Try.prog 38 #[.agg (encRP x).toArray, .agg (encRP y).toArray] W fun e w' => e = .returned (.int .i64 (cfRP x y)) ∧ ∃ q os', w' = Sort.grow (W.drewN q) os' := by
  obtain ⟨⟨a, l⟩, hx⟩ := x
  obtain ⟨⟨b, m⟩, hy⟩ := y
  obtain ⟨x1, x2, x3, x4, x5⟩ := Pfx.bd hx
  obtain ⟨y1, y2, y3, y4, y5⟩ := Pfx.bd hy
  simp only at x3 x4 y3 y4
  have hw : IntKind.i64.wrap (a - b) = a - b := IntWalk.i64_in _ (by omega)
  show Calls Try.prog 38 #[.agg #[.int .i64 a, .int .i64 l], .agg #[.int .i64 b, .int .i64 m]] W fun e w' => e = .returned (.int .i64 (a - b)) ∧ ∃ q os', w' = Sort.grow (W.drewN q) os'
  clear hx hy x1 x2 x5 y1 y2 y5
  go_enter Try.func38, Try.ntmps38
  go_wp2_with fail
  go_ret
  exact ⟨by first | rfl | (rw [hw]), 0, _, by rw [Sort.alloc_eq_grow, Sort.alloc_eq_grow, Sort.grow_grow]; rfl⟩
def SortOut (w : World) (g cap : Nat) (l : List Pfx) (e : Ending) (w' : World) : Prop :=
  e = .returned (.tuple #[]) ∧ ∃ l', l'.Perm l ∧ l'.Pairwise (fun x y => x.at_ ≤ y.at_) ∧ Fl w' g cap l' ∧ w.grownBy w' (some g)
theorem grownBy_sortK {w : World} {g n : Nat} {os : Array Obj} {α : Type} [Inhabited α] (enc : α → List Value) (k : Nat) (d : Array α) : w.grownBy (sortWorldK enc k w g 0 n d os) (some g) := by
  unfold sortWorldK Sort.putRowK
  refine ⟨rfl, rfl, rfl, by simp, fun k hk hne => ?_⟩
  rw [Sort.heap_grow_old _ _ (by simpa using hk)]
  have : g ≠ k := fun e => hne (by rw [e])
  simp [Sort.putRow, Sort.mapBlock, Sort.ahead, Array.getElem?_modify, this]
theorem sort_any (l : List Pfx) (g cap : Nat) (w : World) (hr : ∀ p ∈ l, p.right = true) (h : Fl w g cap l) (hg : g < w.heap.size) (hl : l.length ≤ 65536) :
    Calls Try.prog 37 #[.slice (some ⟨g, 0, none⟩) l.length cap, .func (.func 38) #[] #[]] w (SortOut w g cap l) := by
  have inh : Inhabited RP := ⟨⟨⟨0, 16⟩, by decide⟩⟩
  obtain ⟨d, hd⟩ : ∃ d : Array RP, d.toList.map Subtype.val = l := ⟨(l.pmap Subtype.mk hr).toArray, by simp [List.map_pmap]⟩
  have hdl : d.size = l.length := by rw [← hd]; simp
  have hdi : ∀ i (hi : i < d.size), d[i]!.1 = l[i]'(by omega) := by
    intro i hi
    subst hd
    rw [getElem!_pos d i hi]; simp
  have hH : Sort.HoldsK encRP 2 w g 0 d := by
    intro t ht
    rw [Sort.size_flatK] at ht
    refine ⟨?_, h.free _⟩
    rw [Sort.get_flatK _ _ _ _ ht]
    have ht2 : t / 2 < d.size := by omega
    unfold encRP
    rw [hdi _ ht2]
    rcases Nat.mod_two_eq_zero_or_one t with e | e
    · rw [e, show (0 + t : Nat) = t / 2 * 2 from by omega, h.at_ (t / 2) (by omega)]; rfl
    · rw [e, show (0 + t : Nat) = t / 2 * 2 + 1 from by omega, h.len (t / 2) (by omega)]; rfl
  have eg : ∀ args w, (callFunc 38 args).run Try.prog w = .ok (.enter 38 args) w := enters_of Try.func38 (by kernel_rfl) rfl
  have hcon := AnyQ.slices_SortFunc Try.sortP 2 Try.isAgg23 Try.sizeOf23 encRP (fun _ => rfl) (fun x v hv => by simp [encRP, pcells] at hv; rcases hv with rfl | rfl <;> rfl) cfRP swoRP 38 #[] g 0 cap d w eg (fun _ _ _ _ x y => closure_any x y _) hH hg (by omega)
  rw [hdl] at hcon
  refine Calls.mono hcon ?_
  rintro e w' ⟨rfl, d', n, os, ⟨hp1, -, hp⟩, hs, rfl⟩
  have hs' := holdsK_sortWorldK encRP 2 w g 0 n d d' os hg hH hp1
  have hdi' : ∀ i (hi : i < d'.size), d'[i]!.1 = (d'.toList.map Subtype.val)[i]'(by simpa using hi) := by
    intro i hi
    rw [getElem!_pos d' i hi]; simp
  refine ⟨rfl, d'.toList.map Subtype.val, ?_, ?_, ⟨by simp; have := h.cap_le; omega, h.cap_max, fun i hi => ?_, fun i hi => ?_, fun o => ?_⟩, grownBy_sortK _ _ _⟩
  · rw [← hd]
    refine List.Perm.map _ ?_
    rw [show l.length = d.size from hdl.symm] at hp
    rw [Array.extract_size] at hp
    rw [← hp1, Array.extract_size] at hp
    exact hp
  · rw [List.pairwise_iff_getElem]
    intro i j hi hj hij
    have hj' : j < d'.size := by simpa using hj
    have := hs i j (Nat.zero_le _) hij (by omega)
    rw [ltRP] at this
    rw [← hdi' i (by omega), ← hdi' j hj']
    simpa using this
  · have hi' : i < d'.size := by simpa using hi
    have := (hs'.cell (c := 0) hi' (by omega)).1
    rw [← hdi' i hi']
    simpa [encRP, pcells] using this
  · have hi' : i < d'.size := by simpa using hi
    have := (hs'.cell (c := 1) hi' (by omega)).1
    rw [← hdi' i hi']
    simpa [encRP, pcells] using this
  · have := h.free o
    show (Sort.grow (Sort.putRowK encRP 2 (Sort.ahead w n) g 0 d') os).frozen? _ = false
    rw [Sort.frozen?_grow _ _ _ (by show g < (Sort.putRowK encRP 2 (Sort.ahead w n) g 0 d').heap.size; simpa [Sort.putRowK] using hg), Sort.putRowK, Sort.frozen?_putRow]
    exact this
end Go.Proofs.Ytflbpkgnadjokaa
namespace Go.Proofs.Ytflbpkgnadjokaa
open Go Go.RowKit Go.Proofs
def CloneOut (w : World) (l : List Pfx) (e : Ending) (w' : World) : Prop :=
  ∃ v, e = .returned v ∧ w'.ownsRow w.heap.size 23 2 v l.length (l.flatMap pcells) ∧ Ext w w'
theorem flat_len : ∀ (l : List Pfx), (l.flatMap pcells).length = l.length * 2
  | [] => rfl
  | x :: t => by rw [List.flatMap_cons, List.length_append, flat_len t, List.length_cons]; simp only [pcells, List.length_cons, List.length_nil]; omega
theorem pcells_at {l : List Pfx} {j : Nat} {u : Value} (h : (l.flatMap pcells)[j]? = some u) : ∃ (h' : j / 2 < l.length), (pcells l[j / 2])[j % 2]? = some u := by
  have hlen := flat_len l
  have hj : j < l.length * 2 := by
    rw [← hlen]; exact (List.getElem?_eq_some_iff.1 h).1
  have h2 : j / 2 < l.length := by omega
  refine ⟨h2, ?_⟩
  have := flatMap_at (f := pcells) (k := 2) l (fun _ _ => rfl) (j / 2) h2 (j % 2) (by omega)
  rw [← this, ← h]
  congr 1
  omega
theorem slice_cells {A : Area} {w : World} {a : Addr} {cap : Nat} {l : List Pfx} (h : Sl A w 2 Pfx.R (some a) cap l) : ∀ j u, (l.flatMap pcells)[j]? = some u → w.cell? (a.add j) = some u := by
  intro j u hj
  obtain ⟨h1, h2⟩ := pcells_at hj
  obtain ⟨b, off, cs, e1, -, -, e2, e3⟩ := h.elem (j / 2) h1
  cases e1
  subst e2
  have h3 := e3 (j % 2) (by simp; omega)
  rw [Addr.add_lit]
  have e4 : off + j = off + j / 2 * 2 + j % 2 := by omega
  rw [e4, h3]
  rcases Nat.mod_two_eq_zero_or_one j with e | e <;> simp [e, pcells] at h2 ⊢ <;> exact h2
set_option maxHeartbeats 1000000 in
set_option maxRecDepth 100000 in
theorem clone_any {A : Area} (l : List Pfx) (ao : Option Addr) (cap : Nat) (w : World) (h : Sl A w 2 Pfx.R ao cap l) (hl : l.length ≤ 65536) :
    Calls Try.prog 36 #[.slice ao l.length cap] w (CloneOut w l) := by
  obtain ⟨i0, hi, hz0, hz1, hz2⟩ := info_parts Try.infoPrefix
  have q : ∀ (w : World) (a : Option Addr) (n c n' c' : Nat), (binOp .eql 24 (.slice a n c) (.slice none n' c')).run Try.prog w = .ok (.bool a.isNone) w := fun w a n c n' c' => Lib.run_eql_slice_nil w _ _ a n c n' c' Try.underlying24
  cases ao with
  | none =>
    have h0 : l = [] := by
      cases l with
      | nil => rfl
      | cons x t => obtain ⟨b, off, cs, e, _⟩ := h.elem 0 (by simp); cases e
    subst h0
    clear h
    go_enter Try.func36, Try.ntmps36
    go_wp2_with fail
    go_ret
    exact ⟨_, rfl, World.ownsRow_nil _ _ _ _, Below.refl _ _⟩
  | some a =>
    have hc := Lib.hid (slice_cells h)
    have h1 : Hid (∀ u ∈ l.flatMap pcells, u.oneCell' = true) := by
      intro u hu
      obtain ⟨x, -, hx⟩ := List.mem_flatMap.1 hu
      simp [pcells] at hx; rcases hx with rfl | rfl <;> rfl
    have hlen := Lib.hid (flat_len l)
    clear h
    go_enter Try.func36, Try.ntmps36
    go_wp2_with (at_builtin; refine wpList_append_own _ rfl _ _ 24 rfl w.heap.size 23 i0 (.agg #[.int .i64 0, .int .i64 0]) 2 16 Try.underlying24 hi hz0 hz1 hz2 rfl (by decide) _ _ _ rfl (World.ownsRow_made w #[] 0 (Nat.le_refl _) (Nat.zero_le _) (by simp)) a l.length cap (l.flatMap pcells) rfl hlen.out ?c1 h1.out (by unfold maxLen; omega) (by omega) (by simp) ?_; rotate_right; intro v' w1 hown hgrow hnil)
    case c1 =>
      intro j u hj
      exact Lib.cell?_alloc_some _ (hc.out j u hj)
    go_ret
    exact ⟨_, rfl, by simpa using hown, ((Below.refl _ w).alloc (Nat.le_refl _) _).grown hgrow (by simp) (by intro k hk; cases hk; exact Nat.le_refl _)⟩
def DelOut (w : World) (g cap : Nat) (l : List Pfx) (i : Nat) (e : Ending) (w' : World) : Prop :=
  e = .returned (.slice (some ⟨g, 0, none⟩) (l.length - 1) cap) ∧ Fl w' g cap (l.eraseIdx i) ∧ w.grownBy w' (some g)
theorem zero_prefix : ∀ w, (zeroValue 23).run Try.prog w = .ok (.agg #[.int .i64 0, .int .i64 0]) w := Try.zeroValue23
theorem run_clear_one (w : World) (ty : TypeId) (b o c : Nat)
    (hc : ∀ j, j < 2 → (w.cell? ⟨b, o + j, none⟩).isSome = true) (hf : ∀ j, j < 2 → w.frozen? ⟨b, o + j, none⟩ = false) :
    (Builtin.clear_ #[24] ty #[.slice (some ⟨b, o, none⟩) 1 c]).run Try.prog w = .ok (.tuple #[]) (w.setCells b o [.int .i64 0, .int .i64 0]) := by
  have hst := run_storeCells_cells (P := Try.prog) b o [.int .i64 0, .int .i64 0] 0 w (by simpa using hc) (by simpa using hf) (by intro v hv; simp at hv; rcases hv with rfl | rfl <;> rfl)
  simp only [Nat.add_zero] at hst
  have hzc : Builtin.zeroCells (Value.agg #[.int .i64 0, .int .i64 0]).cells 1 = #[.int .i64 0, .int .i64 0] := by simp [Builtin.zeroCells, Value.cells, show Array.range 2 = #[0, 1] from rfl]
  simp [Builtin.clear_, run_underlying Try.underlying24, zero_prefix, hzc, hst]
theorem gr_set (w : World) (b o : Nat) (u : Value) : w.grownBy (w.setCell ⟨b, o, none⟩ u) (some b) :=
  ⟨rfl, rfl, rfl, by rw [World.size_setCell]; exact Nat.le_refl _, fun k _ hne => block_setCell_ne u (fun e => hne (by rw [← e]))⟩
theorem gr_trans {a b c : World} {r : Option Nat} (h : a.grownBy b r) (k : b.grownBy c r) : a.grownBy c r :=
  ⟨k.os.trans h.os, k.tape.trans h.tape, k.output.trans h.output, Nat.le_trans h.size k.size, fun i hi hne => (k.block i (Nat.lt_of_lt_of_le hi h.size) hne).trans (h.block i hi hne)⟩
theorem grownBy_setCells (b : Nat) : ∀ (vs : List Value) (o : Nat) (w : World), w.grownBy (w.setCells b o vs) (some b)
  | [], _, w => ⟨rfl, rfl, rfl, Nat.le_refl _, fun _ _ _ => rfl⟩
  | v :: r, o, w => gr_trans (gr_set w b o v) (grownBy_setCells b r (o + 1) _)
set_option maxHeartbeats 1000000 in
set_option maxRecDepth 100000 in
theorem delete_any (l : List Pfx) (g cap i : Nat) (w : World) (h : Fl w g cap l) (hi : i < l.length) :
    Calls Try.prog 40 #[.slice (some ⟨g, 0, none⟩) l.length cap, .int .i64 i, .int .i64 ((i : Int) + 1)] w (DelOut w g cap l i) := by
  obtain ⟨i0, hi0, hz0, hz1, hz2⟩ := info_parts Try.infoPrefix
  have hcl := h.cap_le
  have hcm := h.cap_max
  obtain ⟨j, hj⟩ : ∃ j, j = i + 1 := ⟨_, rfl⟩
  obtain ⟨n, hn⟩ : ∃ n, n = l.length := ⟨_, rfl⟩
  obtain ⟨news, hnews⟩ : ∃ news, news = (l.drop j).flatMap pcells := ⟨_, rfl⟩
  have hnl : Hid (news.length = (n - j) * 2) := by
    show news.length = _
    rw [hnews, flat_len, List.length_drop, hn]
  have hget : ∀ t u, news[t]? = some u → w.cell? ⟨g, j * 2 + t, none⟩ = some u := by
    intro t u ht
    rw [hnews] at ht
    obtain ⟨h1, h2⟩ := pcells_at ht
    rw [List.getElem_drop] at h2
    have h3 : j + t / 2 < l.length := by simp at h1; omega
    rcases Nat.mod_two_eq_zero_or_one t with e | e
    · rw [show j * 2 + t = (j + t / 2) * 2 from by omega, h.at_ _ h3]
      rw [e] at h2; simpa [pcells] using h2
    · rw [show j * 2 + t = (j + t / 2) * 2 + 1 from by omega, h.len _ h3]
      rw [e] at h2; simpa [pcells] using h2
  have hone : Hid (∀ u ∈ news, u.oneCell' = true) := by
    intro u hu
    rw [hnews] at hu
    obtain ⟨x, -, hx⟩ := List.mem_flatMap.1 hu
    simp [pcells] at hx; rcases hx with rfl | rfl <;> rfl
  have hthere : ∀ t, t < n * 2 → (w.cell? ⟨g, t, none⟩).isSome = true := by
    intro t ht
    rcases Nat.mod_two_eq_zero_or_one t with e | e
    · rw [show t = t / 2 * 2 from by omega, h.at_ (t / 2) (by omega)]; rfl
    · rw [show t = t / 2 * 2 + 1 from by omega, h.len (t / 2) (by omega)]; rfl
  obtain ⟨A, hA, hsrc⟩ : ∃ A : Addr, (if cap = j then some (⟨g, 0, none⟩ : Addr) else some ⟨g, 0 + j * 2, none⟩) = some A ∧ Hid (∀ t u, news[t]? = some u → w.drew.cell? (A.add t) = some u) := by
    by_cases hc : cap = j
    · refine ⟨⟨g, 0, none⟩, by simp [hc], fun t u hu => ?_⟩
      have h0 : news.length = 0 := by rw [hnl.out]; omega
      rw [List.length_eq_zero_iff.1 h0] at hu
      simp at hu
    · refine ⟨⟨g, 0 + j * 2, none⟩, by simp [hc], fun t u hu => ?_⟩
      rw [Addr.add_lit, Nat.zero_add]
      exact hget t u hu
  have hsp : Hid (∀ t, t < news.length → (w.drew.cell? ⟨g, 0 + i * 2 + t, none⟩).isSome = true ∧ w.drew.frozen? ⟨g, 0 + i * 2 + t, none⟩ = false) := by
    intro t ht
    rw [hnl.out] at ht
    exact ⟨hthere _ (by omega), h.free _⟩
  obtain ⟨W1, hW1⟩ : ∃ W1, W1 = w.drew.setCells g (0 + i * 2) news := ⟨_, rfl⟩
  have hcl1 : ∀ ty, (Builtin.clear_ #[24] ty #[.slice (some ⟨g, 0 + (i + (n - j)) * 2, none⟩) (n - (i + (n - j))) (cap - (i + (n - j)))]).run Try.prog W1 = .ok (.tuple #[]) (W1.setCells g (0 + (i + (n - j)) * 2) [.int .i64 0, .int .i64 0]) := by
    intro ty
    rw [show n - (i + (n - j)) = 1 from by omega]
    exact run_clear_one W1 ty g _ _ (fun t ht => by rw [hW1]; exact World.isSome_setCells g _ _ _ _ (hthere _ (by omega))) (fun t ht => by rw [hW1, World.frozen?_setCells]; exact h.free _)
  have hW : Hid (W1 = w.drew.setCells g (0 + i * 2) news) := hW1
  have hfin : Hid (DelOut w g cap l i (.returned (.slice (some ⟨g, 0, none⟩) (n - 1) cap)) (W1.setCells g (0 + (i + (n - j)) * 2) [.int .i64 0, .int .i64 0])) := by
    have key : ∀ k (hk : k < (l.eraseIdx i).length) c, c < 2 → (W1.setCells g (0 + (i + (n - j)) * 2) [.int .i64 0, .int .i64 0]).cell? ⟨g, k * 2 + c, none⟩ = (pcells (l.eraseIdx i)[k])[c]? := by
      intro k hk c hc
      have hk' : k < n - 1 := by rw [List.length_eraseIdx_of_lt hi] at hk; omega
      rw [World.cell?_setCells_out g _ _ _ _ (fun _ _ => .inl (by show k * 2 + c < _; omega)), hW1]
      by_cases hki : k < i
      · rw [World.cell?_setCells_out g _ _ _ _ (fun _ _ => .inl (by show k * 2 + c < _; omega))]
        have e : (l.eraseIdx i)[k] = l[k]'(by omega) := by rw [List.getElem_eraseIdx, dif_pos hki]
        rw [e]
        show w.cell? _ = _
        match c, hc with
        | 0, _ => have := h.at_ k (by omega); simpa [pcells] using this
        | 1, _ => have := h.len k (by omega); simpa [pcells] using this
      · have e : (l.eraseIdx i)[k] = l[k + 1]'(by omega) := by rw [List.getElem_eraseIdx, dif_neg hki]
        rw [e]
        have hin := World.cell?_setCells_in g news (0 + i * 2) w.drew (fun t ht => (hsp.out t ht).1) ((k - i) * 2 + c) (by rw [hnl.out]; omega)
        rw [show 0 + i * 2 + ((k - i) * 2 + c) = k * 2 + c from by omega] at hin
        rw [hin, ← List.getElem?_eq_getElem]
        have hf := flatMap_at (f := pcells) (k := 2) (l.drop j) (fun _ _ => rfl) (k - i) (by simp; omega) c hc
        rw [← hnews, List.getElem_drop] at hf
        rw [hf]
        congr 3
        omega
    refine ⟨by rw [hn], ⟨by rw [List.length_eraseIdx_of_lt hi]; omega, hcm, fun k hk => ?_, fun k hk => ?_, fun o => ?_⟩, ?_⟩
    · have := key k hk 0 (by omega); simpa [pcells] using this
    · have := key k hk 1 (by omega); simpa [pcells] using this
    · rw [World.frozen?_setCells, hW1, World.frozen?_setCells]; exact h.free o
    · rw [hW1]
      have g0 : w.grownBy w.drew (some g) := ⟨rfl, rfl, rfl, Nat.le_refl _, fun _ _ _ => rfl⟩
      exact gr_trans (gr_trans g0 (grownBy_setCells g _ _ _)) (grownBy_setCells g _ _ _)
  have hic : i ≤ cap := by omega
  have hjc : j ≤ cap := by omega
  have hjn : j ≤ n := by omega
  have hjI : ((i : Int) + 1) = (j : Int) := by omega
  rw [hjI, ← hn]
  have hnc : n ≤ cap := by omega
  have hin : i < n := by omega
  have hie : i + (n - j) = n - 1 := by omega
  have hij : ¬ i = j := by omega
  replace hj := Lib.hid hj
  replace hie := Lib.hid hie
  clear hget hthere hW1 hnews h hn hcl hi
  rw [Nat.zero_add] at hA hcl1 hfin
  have hne1 : ¬ cap = i + (n - j) := by omega
  have hle1 : i + (n - j) ≤ n := by omega
  have hle2 : i + (n - j) ≤ cap := by omega
  have mixed : Try.prog.follows .mixedOrders = true := by kernel_rfl
  go_enter Try.func40, Try.ntmps40
  go_wp2_with fail
  go_region_law_o (refine step_append_room rfl (.tmp 22) (.tmp 25) 24 rfl 23 i0 2 Try.underlying24 hi0 hz1 g 0 i cap (by simp [Act.eval, Act.put]) A (n - j) (cap - j) news (by simp [Act.eval, Act.put]) hnl.out hsrc.out hone.out (by omega) hsp.out ?_; rw [← hW.out])
  go_wp2_with fail
  go_ret
  rw [hie.out]
  rw [hie.out] at hfin
  exact hfin.out
end Go.Proofs.Ytflbpkgnadjokaa
namespace Go.Proofs.Ytflbpkgnadjokaa
open Go Go.RowKit
/-- All that was there below lo is as it was. -/
structure SX (lo : Nat) (w w' : World) : Prop where
  os : w'.os = w.os
  tape : w'.tape = w.tape
  output : w'.output = w.output
  size : w.heap.size ≤ w'.heap.size
  block : ∀ b, b < w.heap.size → b < lo → w'.heap[b]? = w.heap[b]?
theorem SX.trans {lo : Nat} {a b c : World} (h : SX lo a b) (k : SX lo b c) : SX lo a c :=
  ⟨k.os.trans h.os, k.tape.trans h.tape, k.output.trans h.output, Nat.le_trans h.size k.size, fun i hi hx => (k.block i (Nat.lt_of_lt_of_le hi h.size) hx).trans (h.block i hi hx)⟩
theorem SX.of {lo : Nat} {w w' : World} (h : Ext w w') : SX lo w w' := ⟨h.os, h.tape, h.output, h.size, fun b hb _ => h.block b hb⟩
theorem SX.grown {lo : Nat} {w w' : World} {row : Option Nat} (h : w.grownBy w' row) (hr : ∀ r, row = some r → lo ≤ r) : SX lo w w' :=
  ⟨h.os, h.tape, h.output, h.size, fun b hb hl => h.block b hb (fun e => by have := hr b e.symm; omega)⟩
theorem SX.lo {lo : Nat} {w w' : World} (h : SX lo w w') (hl : lo ≤ w.heap.size) : ∀ b o, b < lo → w'.cell? ⟨b, o, none⟩ = w.cell? ⟨b, o, none⟩ := fun b o hb => World.cell?_of_block (w := w) (h.block b (Nat.lt_of_lt_of_le hb hl) hb)
theorem SX.setCell {lo : Nat} {w : World} {b o : Nat} (hb : lo ≤ b) (v : Value) : SX lo w (w.setCell ⟨b, o, none⟩ v) :=
  ⟨rfl, rfl, rfl, by rw [World.size_setCell]; exact Nat.le_refl _, fun i _ hx => block_setCell_ne v (by show b ≠ i; omega)⟩
theorem SX.bel {lo B : Nat} {a w w' : World} (h : Bel B a w) (hx : SX lo w w') (hB : B ≤ lo) : Bel B a w' :=
  ⟨h.bel.trans ⟨hx.os, hx.tape, hx.output, hx.size, fun k hk => hx.block k (Nat.lt_of_lt_of_le hk h.le) (Nat.lt_of_lt_of_le hk hB)⟩, Nat.le_trans h.le hx.size⟩
section
variable {P : Program} {ops : Array Oper} {Q : Exit → Act → World → Prop}
/-- Whatever order is picked, from every world that extends W; each step leaves what is below lo. -/
def GZ (P : Program) (ops : Array Oper) (Q : Exit → Act → World → Prop) (lo : Nat) : Nat → Array Bool → Act → World → Prop
  | 0, listed, a, W => Region.ready .any ops listed = [] ∧ ∀ w, Ext W w → Q .normal a w
  | fuel + 1, listed, a, W => ∀ w, Ext W w → (Region.ready .any ops listed = [] → Q .normal a w) ∧
      ∀ i ∈ Region.ready .any ops listed, wpOp P ops Q i (fun a' w' => SX lo w w' ∧ GZ P ops Q lo fuel (listed.setIfInBounds i true) a' w') a w
theorem GZ.world {lo : Nat} : ∀ {fuel : Nat} {listed : Array Bool} {a : Act} {W W' : World}, Ext W W' → GZ P ops Q lo fuel listed a W → GZ P ops Q lo fuel listed a W'
  | 0, _, _, _, _, hx, h => ⟨h.1, fun w hw => h.2 w (ext_trans hx hw)⟩
  | _ + 1, _, _, _, _, hx, h => fun w hw => h w (ext_trans hx hw)
theorem GZ.any {lo : Nat} : ∀ {fuel : Nat} {listed : Array Bool} {a : Act} {W : World}, GZ P ops Q lo fuel listed a W → wpAny P .any ops Q fuel listed a W
  | 0, _, _, _, h => ⟨h.1, h.2 _ (Below.refl _ _)⟩
  | _ + 1, _, _, W, h => ⟨(h W (Below.refl _ _)).1, fun i hi => wpOp_mono (fun _ _ h' => GZ.any h'.2) ((h W (Below.refl _ _)).2 i hi)⟩
/-- In every world that extends W operation o yields v, and at most extends it. -/
def QZ (P : Program) (ops : Array Oper) (lo : Nat) (W : World) (o : Oper) (v : Value) (a : Act) : Prop :=
  (Region.wanted o (yielded ops a.tmps) = true ∧ ∀ w, SX lo W w → o.quietAt P a (Ext w) w v) ∨
  (Region.wanted o (yielded ops a.tmps) = false ∧ v = undef)
theorem QZ.world {lo : Nat} {W W' : World} {o : Oper} {v : Value} {a : Act} (hx : SX lo W W') (h : QZ P ops lo W o v a) : QZ P ops lo W' o v a :=
  h.imp (fun ⟨g1, g2⟩ => ⟨g1, fun w hw => g2 w (hx.trans hw)⟩) id
theorem QZ.of_same {lo : Nat} {W : World} {o : Oper} {v : Value} {a a' : Act} (hy : QZ P ops lo W o v a) (he : execOp a'.eval o = execOp a.eval o)
    (hw : Region.wanted o (yielded ops a'.tmps) = Region.wanted o (yielded ops a.tmps)) : QZ P ops lo W o v a' := by
  unfold QZ Oper.quietAt at *
  rw [he, hw]
  exact hy
theorem QZ.wpOp {lo : Nat} {W : World} {i : Nat} {o : Oper} {v : Value} {a : Act} (hi' : ops[i]? = some o) (hy : QZ P ops lo W o v a) {K : Act → World → Prop} {w : World} (hw : SX lo W w) (h : ∀ w', Ext w w' → K (a.put o.dst v) w') : wpOp P ops Q i K a w := by
  unfold Go.wpOp
  simp only [hi']
  rcases hy with ⟨hwa, hv⟩ | ⟨hwa, rfl⟩
  · simp only [hwa, if_true]
    left
    have h3 := hv w hw
    unfold Oper.quietAt at h3
    unfold Oper.wp
    generalize (execOp a.eval o).run P w = r at *
    cases r with
    | ok n w' =>
      cases n <;> simp only [Oper.quietUpon] at h3 <;> simp only [Oper.upon]
      case value u =>
        obtain ⟨e1, e2⟩ := h3
        rw [e1, e2]
        exact h _ (Below.refl _ _)
      case skip =>
        obtain ⟨e1, e2⟩ := h3
        rw [e1, ← e2]
        exact h _ (Below.refl _ _)
      case enter f args =>
        obtain ⟨e1, hc⟩ := h3
        rw [e1]
        exact hc.mono fun e w'' ⟨he, hw''⟩ => by subst he; exact h _ hw''
    | halt x w' => simp only [Oper.quietUpon] at h3
  · simp only [hwa, Bool.false_eq_true, if_false]
    exact h w (Below.refl _ _)
theorem wpOp_putZ {lo : Nat} {W : World} {j : Nat} {oi oj : Oper} {v : Value} (hj : ops[j]? = some oj) (hap : oi.apart ops oj = true)
    (hsi : ∀ cs b, oi.op ≠ .select cs b) (hsj : ∀ cs b, oj.op ≠ .select cs b)
    (hQ : ∀ c a w, Q (.panic c) (a.put oi.dst v) w → Q (.panic c) a w) {K : Act → World → Prop} {a : Act} {w : World}
    (hy : QZ P ops lo W oi v a) (h : wpOp P ops Q j K (a.put oi.dst v) w) :
    wpOp P ops Q j (fun a' w' => QZ P ops lo W oi v a' ∧ K (a'.put oi.dst v) w') a w := by
  obtain ⟨h1, h2, h3⟩ := Oper.apart_spec hap
  have keep : ∀ (a : Act), QZ P ops lo W oi v a → ∀ u, QZ P ops lo W oi v (a.put oj.dst u) := fun a hy u =>
    hy.of_same (execOp_put oi hsi a oj.dst u h3) (wanted_put oi a oj.dst u h3)
  have keepD : ∀ d, QZ P ops lo W oi v { a with defers := d :: a.defers } := fun d => hy.of_same rfl rfl
  unfold wpOp at *
  simp only [hj] at *
  rw [wanted_put oj a oi.dst v h1] at h
  split
  · rename_i hw
    simp only [hw, if_true] at h
    rcases h with h | ⟨hasks, hlets⟩
    case inr => exact .inr ⟨by unfold Oper.asks at *; rw [execOp_put oj hsj a oi.dst v h1] at hasks; exact hasks, hlets⟩
    refine .inl ?_
    unfold Oper.wp at *
    rw [execOp_put oj hsj a oi.dst v h1] at h
    generalize (execOp a.eval oj).run P w = r at *
    cases r with
    | ok n w' =>
      cases n <;> simp only [Oper.upon] at h ⊢
      case value u => exact ⟨keep a hy u, by rw [← Act.put_comm a v u h2]; exact h⟩
      case skip => exact ⟨keep a hy _, by rw [← Act.put_comm a v undef h2]; exact h⟩
      case defer d =>
        refine ⟨keep _ (keepD d) _, ?_⟩
        rw [← Act.put_comm _ v undef h2, ← Act.put_defers]
        exact h
      case enter f args =>
        refine Calls.mono h fun e w'' he => ?_
        cases e with
        | returned u => exact ⟨keep a hy u, by rw [← Act.put_comm a v u h2]; exact he⟩
        | panicked c => exact hQ _ _ _ he
        | outgrown => exact he
      case row row args => exact Rows.mono h fun u w'' he => ⟨keep a hy u, by rw [← Act.put_comm a v u h2]; exact he⟩
    | halt x w' =>
      cases x <;> simp only [Oper.upon] at h ⊢
      case panic u => exact hQ _ _ _ h
  · rename_i hw
    simp only [hw] at h
    exact ⟨keep a hy _, by rw [← Act.put_comm a v undef h2]; exact h⟩
theorem GZ_first {i : Nat} {oi : Oper} {v : Value} {lo : Nat} (hi : ops[i]? = some oi) (hsel : ∀ (j : Nat) (o : Oper) cs b, ops[j]? = some o → o.op ≠ .select cs b)
    (hQ : ∀ c a w, Q (.panic c) (a.put oi.dst v) w → Q (.panic c) a w) :
    ∀ (fuel : Nat) (listed : Array Bool) (a : Act) (W : World),
      (∀ j oj, ops[j]? = some oj → j ≠ i → listed.getD j true = false → (∀ e ∈ oj.after, Region.binds .any e = true → e.on ≠ i) → oi.apart ops oj = true) →
      i ∈ Region.ready .any ops listed → QZ P ops lo W oi v a →
      GZ P ops Q lo fuel (listed.setIfInBounds i true) (a.put oi.dst v) W → GZ P ops Q lo (fuel + 1) listed a W := by
  intro fuel
  induction fuel with
  | zero =>
    intro listed a W _ hr hy H w hw
    refine ⟨fun h => (by rw [h] at hr; cases hr), fun j hj => ?_⟩
    by_cases hji : j = i
    · subst hji; exact hy.wpOp hi (SX.of hw) fun w' hw' => ⟨SX.of hw', H.world (ext_trans hw hw')⟩
    · have := ready_mono hj hji
      rw [H.1] at this
      cases this
  | succ fuel ih =>
    intro listed a W hfree hr hy H w hw
    refine ⟨fun h => (by rw [h] at hr; cases hr), fun j hj => ?_⟩
    by_cases hji : j = i
    · subst hji; exact hy.wpOp hi (SX.of hw) fun w' hw' => ⟨SX.of hw', H.world (ext_trans hw hw')⟩
    · have h1 := (H w hw).2 j (ready_mono hj hji)
      obtain ⟨hjun, oj, hoj, hall⟩ := mem_ready.1 hj
      have hnot : ∀ e ∈ oj.after, Region.binds .any e = true → e.on ≠ i := fun e he hb heq => by
        have h1 := hall e he hb
        have h0 := (mem_ready.1 hr).1
        rw [heq] at h1
        rcases Nat.lt_or_ge i listed.size with h' | h'
        · simp [h'] at h0 h1; rw [h0] at h1; cases h1
        · simp [Array.getElem?_eq_none h'] at h1
      have h2 := wpOp_putZ hoj (hfree j oj hoj hji hjun hnot) (fun cs b => hsel i oi cs b hi) (fun cs b => hsel j oj cs b hoj) hQ (hy.world (SX.of hw)) h1
      have hfree' : ∀ k ok, ops[k]? = some ok → k ≠ i → (listed.setIfInBounds j true).getD k true = false →
          (∀ e ∈ ok.after, Region.binds .any e = true → e.on ≠ i) → oi.apart ops ok = true := fun k ok hk hki hun hno => by
        refine hfree k ok hk hki ?_ hno
        by_cases hjk : j = k
        · subst hjk; exact hjun
        · rw [getD_set_ne true hjk] at hun; exact hun
      refine wpOp_mono (fun a' w' h3 => ⟨h3.2.1, ih (listed.setIfInBounds j true) a' w' hfree' (ready_mono hr (Ne.symm hji)) (h3.1.world h3.2.1) ?_⟩) h2
      rw [Array.setIfInBounds_comm _ _ hji]
      exact h3.2.2
theorem region_miz {id : Nat} {a : Act} {w : World} {l : List Oper} (lo n : Nat) (hm : P.follows .mixedOrders = true) (hn : l.length = n) (h : GZ P l.toArray Q lo n (Array.replicate n false) a w) : (Code.region id l.toArray true).wp P Q a w := by
  subst hn
  refine wp_region_any hm ?_
  have h3 := (h.world ((Below.refl _ _).drew : Ext w w.drew)).any
  simpa using h3
theorem miz_take {i fuel lo : Nat} {listed : Array Bool} {a : Act} {W : World} {oi : Oper} {v : Value} (hio : ops[i]? = some oi) (hs : Region.noSelect ops = true) (hQ : ∀ c a d v w, Q (.panic c) (a.put d v) w → Q (.panic c) a w)
    (hB : ((Region.ready .any ops listed).contains i && Region.free .any ops listed i) = true) (hw : Region.wanted oi (yielded ops a.tmps) = true)
    (h : ∀ w, SX lo W w → ∀ R : Value → Prop, R v → qUp P w w R ((execOp a.eval oi).run P w)) (hn : GZ P ops Q lo fuel (listed.setIfInBounds i true) (a.put oi.dst v) W) : GZ P ops Q lo (fuel + 1) listed a W := by
  simp only [Bool.and_eq_true] at hB
  exact GZ_first hio (Region.noSelect_spec hs) (fun c a w => hQ c a _ _ w) fuel listed a W (Region.free_spec hio hB.2) (by simpa using hB.1) (.inl ⟨hw, fun w hw => qUp_quiet (h w hw)⟩) hn
theorem miz_step {i fuel lo : Nat} {listed : Array Bool} {a : Act} {w : World} {o : Oper} (hio : ops[i]? = some o) (hw : Region.wanted o (yielded ops a.tmps) = true)
    (h : ∀ K : Act → World → Prop, (∀ a' w', SX lo w w' → GZ P ops Q lo fuel (listed.setIfInBounds i true) a' w' → K a' w') → o.wp P a w K Q) :
    wpOp P ops Q i (fun a' w' => SX lo w w' ∧ GZ P ops Q lo fuel (listed.setIfInBounds i true) a' w') a w := by
  unfold wpOp
  simp only [hio, hw, if_true]
  left
  exact h _ fun _ _ h1 h2 => ⟨h1, h2⟩
theorem miz_one {i fuel lo : Nat} {listed : Array Bool} {a : Act} {W : World} {o : Oper} (hr : Region.ready .any ops listed = [i]) (hio : ops[i]? = some o) (hw : Region.wanted o (yielded ops a.tmps) = true)
    (h : ∀ w, Ext W w → ∀ K : Act → World → Prop, (∀ a' w', SX lo w w' → GZ P ops Q lo fuel (listed.setIfInBounds i true) a' w' → K a' w') → o.wp P a w K Q) : GZ P ops Q lo (fuel + 1) listed a W := by
  intro w hx
  refine ⟨fun e => by rw [hr] at e; simp at e, fun j hj => ?_⟩
  rw [hr] at hj
  obtain rfl : j = i := by simpa using hj
  exact miz_step hio hw (h w hx)
theorem miz_two {i k fuel lo : Nat} {listed : Array Bool} {a : Act} {W : World} {o p : Oper} (hr : Region.ready .any ops listed = [i, k]) (hio : ops[i]? = some o) (hkp : ops[k]? = some p) (hw : Region.wanted o (yielded ops a.tmps) = true) (hv : Region.wanted p (yielded ops a.tmps) = true)
    (h : ∀ w, Ext W w → ∀ K : Act → World → Prop, (∀ a' w', SX lo w w' → GZ P ops Q lo fuel (listed.setIfInBounds i true) a' w' → K a' w') → o.wp P a w K Q)
    (h' : ∀ w, Ext W w → ∀ K : Act → World → Prop, (∀ a' w', SX lo w w' → GZ P ops Q lo fuel (listed.setIfInBounds k true) a' w' → K a' w') → p.wp P a w K Q) : GZ P ops Q lo (fuel + 1) listed a W := by
  intro w hx
  refine ⟨fun e => by rw [hr] at e; simp at e, fun j hj => ?_⟩
  rw [hr] at hj
  simp only [List.mem_cons, List.not_mem_nil, or_false] at hj
  rcases hj with rfl | rfl
  · exact miz_step hio hw (h w hx)
  · exact miz_step hkp hv (h' w hx)
theorem miz_nil {lo : Nat} {listed : Array Bool} {a : Act} {W : World} (hr : Region.ready .any ops listed = []) (h : ∀ w, Ext W w → Q .normal a w) : GZ P ops Q lo 0 listed a W := ⟨hr, h⟩
end
end Go.Proofs.Ytflbpkgnadjokaa
namespace Go.Proofs.Ytflbpkgnadjokaa
open Go Go.RowKit Go.Proofs
set_option maxRecDepth 100000
/-- Put in by its address. -/
def insU (p : Pfx) : List Pfx → List Pfx
  | [] => [p]
  | x :: t => if p.at_ < x.at_ then p :: x :: t else x :: insU p t
def claimE (root : Pfx) (us : List Pfx) (p : Pfx) : Int :=
  if chkS root us = 0 then (if insQ p root = true then (if us.any p.meets = true then 6 else if us.length = 32 then 2 else 0) else 3) else chkS root us
/-- A space, or an error. -/
def SpOut (w : World) (c : Int) (root : Pfx) (l : List Pfx) (e : Ending) (w' : World) : Prop :=
  (c = 0 ∧ ∃ ao cap, e = .returned (.tuple #[.agg #[.int .i64 root.at_, .int .i64 root.len, .slice ao l.length cap], .int .i64 0]) ∧ Sl (fun b => w.heap.size ≤ b) w' 2 Pfx.R ao cap l ∧ Ext w w') ∨
  (c ≠ 0 ∧ e = .returned (.tuple #[.agg #[.int .i64 0, .int .i64 0, .slice none 0 0], .int .i64 c]) ∧ Ext w w')
theorem insU_perm (p : Pfx) : ∀ (us : List Pfx), (insU p us).Perm (us ++ [p])
  | [] => by simp [insU]
  | x :: t => by
    unfold insU
    split
    · exact (List.perm_append_comm (l₁ := [p]) (l₂ := x :: t))
    · exact (insU_perm p t).cons x
theorem insU_sorted (p : Pfx) : ∀ (us : List Pfx), us.Pairwise (fun x y => x.at_ ≤ y.at_) → (insU p us).Pairwise (fun x y => x.at_ ≤ y.at_)
  | [], _ => by simp [insU]
  | x :: t, h => by
    obtain ⟨h1, h2⟩ := List.pairwise_cons.1 h
    unfold insU
    split
    · rename_i hlt
      refine List.pairwise_cons.2 ⟨fun y hy => ?_, h⟩
      rcases List.mem_cons.1 hy with rfl | hy
      · omega
      · have := h1 y hy; omega
    · rename_i hlt
      refine List.pairwise_cons.2 ⟨fun y hy => ?_, insU_sorted p t h2⟩
      rcases List.mem_append.1 ((insU_perm p t).mem_iff.1 hy) with hy | hy
      · exact h1 y hy
      · simp at hy; subst hy; omega
/-- Of used ones that lie apart, and one that meets none, no two begin at one address. -/
theorem at_inj {root : Pfx} {us : List Pfx} (h : SpaceOK root us) {p : Pfx} (hp : p.right = true) (hm : us.any p.meets = false) {a b : Pfx} (ha : a ∈ us ++ [p]) (hb : b ∈ us ++ [p]) (hab : a.at_ = b.at_) : a = b := by
  have hpu : ∀ u ∈ us, u.at_ = p.at_ → False := by
    intro u hu e
    rw [List.any_eq_false] at hm
    have hn := hm u hu
    rw [meets_iff] at hn
    have hur := (insQ_hi.1 (h.ins u hu)).1
    have := u.hi_bd hur
    have := p.hi_bd hp
    exact hn ⟨hp, hur, by omega, by omega⟩
  have huu : ∀ u ∈ us, ∀ v ∈ us, u.at_ = v.at_ → u = v := by
    intro u hu v hv e
    have hur := u.hi_bd (insQ_hi.1 (h.ins u hu)).1
    have hvr := v.hi_bd (insQ_hi.1 (h.ins v hv)).1
    obtain ⟨i, hi, rfl⟩ := List.mem_iff_getElem.1 hu
    obtain ⟨j, hj, rfl⟩ := List.mem_iff_getElem.1 hv
    have hpw := List.pairwise_iff_getElem.1 h.apart
    rcases Nat.lt_trichotomy i j with hij | hij | hij
    · have := hpw i j hi hj hij; unfold Apart at this; omega
    · subst hij; rfl
    · have := hpw j i hj hi hij; unfold Apart at this; omega
  rcases List.mem_append.1 ha with ha | ha <;> rcases List.mem_append.1 hb with hb | hb
  · exact huu a ha b hb hab
  · rw [List.mem_singleton] at hb; exact (hpu a ha (by rw [hab, hb])).elim
  · rw [List.mem_singleton] at ha; exact (hpu b hb (by rw [← hab, ha])).elim
  · simp at ha hb; rw [ha, hb]
theorem us_sorted {root : Pfx} {us : List Pfx} (h : SpaceOK root us) : us.Pairwise (fun x y => x.at_ ≤ y.at_) := by
  refine h.apart.imp_of_mem ?_
  intro a b ha _ hab
  have := a.hi_bd (insQ_hi.1 (h.ins a ha)).1
  unfold Apart at hab
  omega
theorem sorted_is {root : Pfx} {us : List Pfx} (h : SpaceOK root us) {p : Pfx} (hp : p.right = true) (hm : us.any p.meets = false) {l : List Pfx} (h1 : l.Perm (us ++ [p])) (h2 : l.Pairwise (fun x y => x.at_ ≤ y.at_)) : l = insU p us :=
  List.Perm.eq_of_pairwise (le := fun x y => x.at_ ≤ y.at_) (fun a b ha hb hab hba => at_inj h hp hm (h1.mem_iff.1 ha) ((insU_perm p us).mem_iff.1 hb) (by omega)) h2 (insU_sorted p us (us_sorted h)) (h1.trans (insU_perm p us).symm)
set_option maxHeartbeats 1500000 in
set_option maxRecDepth 100000 in
theorem claim_err {A : Area} (root : Pfx) (us : List Pfx) (uo : Option Addr) (ucap : Nat) (p : Pfx) (w : World) (h : Sl A w 2 Pfx.R uo ucap us) (c : Int) (hc : c = claimE root us p) (hc0 : c ≠ 0) :
    Calls Try.prog 15 #[.agg #[.int .i64 root.at_, .int .i64 root.len, .slice uo us.length ucap], .agg #[.int .i64 p.at_, .int .i64 p.len]] w fun e w' => e = .returned (.tuple #[.agg #[.int .i64 0, .int .i64 0, .slice none 0 0], .int .i64 c]) ∧ Ext w w' := by
  have hck := fun W (h : Sl A W 2 Pfx.R uo ucap us) => spaceCheck_any root us uo ucap W h
  have hx3 : Ext w (((w.alloc (.cells #[.int .i64 root.at_, .int .i64 root.len, .slice uo us.length ucap] 26)).alloc (.cells #[.int .i64 p.at_, .int .i64 p.len] 23)).alloc (.cells #[.int .i64 0, .int .i64 0, .slice none 0 0] 26)) := ext_trans (ext_alloc _ _) (ext_trans (ext_alloc _ _) (ext_alloc _ _))
  by_cases h0 : chkS root us = 0
  · have hin := inside_any p.at_ p.len root.at_ root.len
    have hq : insP p.at_ p.len root.at_ root.len = insQ p root := rfl
    rw [hq] at hin
    rw [h0] at hck
    unfold claimE at hc
    rw [if_pos h0] at hc
    replace hck := Lib.hid hck
    clear h0 hq
    cases hi : insQ p root
    case false =>
      rw [hi] at hc hin
      rw [if_neg (by simp)] at hc
      subst hc
      replace hin := Lib.hid hin
      clear hc0 hi
      go_enter Try.func15, Try.ntmps15
      go_wp2_with fail
      refine (hck.out _ (h.ext hx3)).mono ?_
      rintro e w1 ⟨rfl, hw1⟩
      obtain ⟨hcw1, hfw1⟩ := bcell hw1
      have hzw1 := bsize hw1
      (try simp only [World.size_alloc, World.size_setCell, World.size_drew, World.heap_drewN] at hcw1 hfw1 hzw1)
      have l0w1 : w.heap.size < w1.heap.size := by omega
      have l1w1 : w.heap.size + 1 < w1.heap.size := by omega
      have l2w1 : w.heap.size + 1 + 1 < w1.heap.size := by omega
      go_wp2_with fail
      refine (hin.out _).mono ?_
      rintro e w2 ⟨rfl, hw2⟩
      obtain ⟨hcw2, hfw2⟩ := bcell hw2
      have hzw2 := bsize hw2
      (try simp only [World.size_alloc, World.size_setCell, World.size_drew, World.heap_drewN] at hcw2 hfw2 hzw2)
      have l0w2 : w.heap.size < w2.heap.size := by omega
      have l1w2 : w.heap.size + 1 < w2.heap.size := by omega
      have l2w2 : w.heap.size + 1 + 1 < w2.heap.size := by omega
      go_wp2_with fail
      refine bodyPost_ret ?_ rfl ⟨rfl, Bel.bel (B := _) ?_⟩
      · simp [results, Try.results15, go_sem, hcw1, hcw2, l2w1]
      · (repeat (first | with_reducible assumption | with_reducible exact Bel.refl _ | with_reducible refine Bel.alloc ?_ _ | with_reducible refine Bel.drewN ?_ _ | with_reducible refine Bel.drew ?_ | (with_reducible refine Bel.setCell0 ?_ ?_ _; rotate_left; (first | omega | (simp; done) | (simp; omega))) | (with_reducible refine Bel.setCell ?_ (p := _) ?_ _; rotate_left; (first | (simp; done) | omega | (simp; omega))) | refine Bel.call ?_ (by assumption) | (refine EX.bel ?_ (by assumption) ?_; rotate_left; (first | omega | (simp; omega)))))
    case true =>
      rw [hi] at hc hin
      rw [if_pos rfl] at hc
      replace hin := Lib.hid hin
      have hme := fun W (h : Sl A W 2 Pfx.R uo ucap us) => spaceMeets_any us uo ucap p W h
      have hq : (us.any fun q => p.meets q) = us.any p.meets := rfl
      rw [hq] at hme
      clear hq
      cases hm : us.any p.meets
      case true =>
        rw [hm] at hc hme
        rw [if_pos rfl] at hc
        subst hc
        replace hme := Lib.hid hme
        clear hc0 hi hm
        go_enter Try.func15, Try.ntmps15
        go_wp2_with fail
        refine (hck.out _ (h.ext hx3)).mono ?_
        rintro e w1 ⟨rfl, hw1⟩
        obtain ⟨hcw1, hfw1⟩ := bcell hw1
        have hzw1 := bsize hw1
        (try simp only [World.size_alloc, World.size_setCell, World.size_drew, World.heap_drewN] at hcw1 hfw1 hzw1)
        have l0w1 : w.heap.size < w1.heap.size := by omega
        have l1w1 : w.heap.size + 1 < w1.heap.size := by omega
        have l2w1 : w.heap.size + 1 + 1 < w1.heap.size := by omega
        have hx1 := ext_trans hx3 hw1
        go_wp2_with fail
        refine (hin.out _).mono ?_
        rintro e w2 ⟨rfl, hw2⟩
        obtain ⟨hcw2, hfw2⟩ := bcell hw2
        have hzw2 := bsize hw2
        (try simp only [World.size_alloc, World.size_setCell, World.size_drew, World.heap_drewN] at hcw2 hfw2 hzw2)
        have l0w2 : w.heap.size < w2.heap.size := by omega
        have l1w2 : w.heap.size + 1 < w2.heap.size := by omega
        have l2w2 : w.heap.size + 1 + 1 < w2.heap.size := by omega
        have hx2 := ext_trans hx1 hw2
        go_wp2_with fail
        refine (hme.out _ (h.ext hx2)).mono ?_
        rintro e w4 ⟨rfl, hw4⟩
        obtain ⟨hcw4, hfw4⟩ := bcell hw4
        have hzw4 := bsize hw4
        (try simp only [World.size_alloc, World.size_setCell, World.size_drew, World.heap_drewN] at hcw4 hfw4 hzw4)
        have l0w4 : w.heap.size < w4.heap.size := by omega
        have l1w4 : w.heap.size + 1 < w4.heap.size := by omega
        have l2w4 : w.heap.size + 1 + 1 < w4.heap.size := by omega
        go_wp2_with fail
        refine bodyPost_ret ?_ rfl ⟨rfl, Bel.bel (B := _) ?_⟩
        · simp [results, Try.results15, go_sem, hcw1, hcw2, hcw4, l2w1, l2w2]
        · (repeat (first | with_reducible assumption | with_reducible exact Bel.refl _ | with_reducible refine Bel.alloc ?_ _ | with_reducible refine Bel.drewN ?_ _ | with_reducible refine Bel.drew ?_ | (with_reducible refine Bel.setCell0 ?_ ?_ _; rotate_left; (first | omega | (simp; done) | (simp; omega))) | (with_reducible refine Bel.setCell ?_ (p := _) ?_ _; rotate_left; (first | (simp; done) | omega | (simp; omega))) | refine Bel.call ?_ (by assumption) | (refine EX.bel ?_ (by assumption) ?_; rotate_left; (first | omega | (simp; omega)))))
      case false =>
        rw [hm] at hc hme
        rw [if_neg (by simp)] at hc
        replace hme := Lib.hid hme
        by_cases h32 : us.length = 32
        · rw [if_pos h32] at hc
          subst hc
          have h32I : ((us.length : Int) == 32) = true := by simp; omega
          clear hc0 hi hm h32
          go_enter Try.func15, Try.ntmps15
          go_wp2_with fail
          refine (hck.out _ (h.ext hx3)).mono ?_
          rintro e w1 ⟨rfl, hw1⟩
          obtain ⟨hcw1, hfw1⟩ := bcell hw1
          have hzw1 := bsize hw1
          (try simp only [World.size_alloc, World.size_setCell, World.size_drew, World.heap_drewN] at hcw1 hfw1 hzw1)
          have l0w1 : w.heap.size < w1.heap.size := by omega
          have l1w1 : w.heap.size + 1 < w1.heap.size := by omega
          have l2w1 : w.heap.size + 1 + 1 < w1.heap.size := by omega
          have hx1 := ext_trans hx3 hw1
          go_wp2_with fail
          refine (hin.out _).mono ?_
          rintro e w2 ⟨rfl, hw2⟩
          obtain ⟨hcw2, hfw2⟩ := bcell hw2
          have hzw2 := bsize hw2
          (try simp only [World.size_alloc, World.size_setCell, World.size_drew, World.heap_drewN] at hcw2 hfw2 hzw2)
          have l0w2 : w.heap.size < w2.heap.size := by omega
          have l1w2 : w.heap.size + 1 < w2.heap.size := by omega
          have l2w2 : w.heap.size + 1 + 1 < w2.heap.size := by omega
          have hx2 := ext_trans hx1 hw2
          go_wp2_with fail
          refine (hme.out _ (h.ext hx2)).mono ?_
          rintro e w4 ⟨rfl, hw4⟩
          obtain ⟨hcw4, hfw4⟩ := bcell hw4
          have hzw4 := bsize hw4
          (try simp only [World.size_alloc, World.size_setCell, World.size_drew, World.heap_drewN] at hcw4 hfw4 hzw4)
          have l0w4 : w.heap.size < w4.heap.size := by omega
          have l1w4 : w.heap.size + 1 < w4.heap.size := by omega
          have l2w4 : w.heap.size + 1 + 1 < w4.heap.size := by omega
          go_wp2_with fail
          refine bodyPost_ret ?_ rfl ⟨rfl, Bel.bel (B := _) ?_⟩
          · simp [results, Try.results15, go_sem, hcw1, hcw2, hcw4, l2w1, l2w2]
          · (repeat (first | with_reducible assumption | with_reducible exact Bel.refl _ | with_reducible refine Bel.alloc ?_ _ | with_reducible refine Bel.drewN ?_ _ | with_reducible refine Bel.drew ?_ | (with_reducible refine Bel.setCell0 ?_ ?_ _; rotate_left; (first | omega | (simp; done) | (simp; omega))) | (with_reducible refine Bel.setCell ?_ (p := _) ?_ _; rotate_left; (first | (simp; done) | omega | (simp; omega))) | refine Bel.call ?_ (by assumption) | (refine EX.bel ?_ (by assumption) ?_; rotate_left; (first | omega | (simp; omega)))))
        · rw [if_neg h32] at hc
          exact absurd hc hc0
  · unfold claimE at hc
    rw [if_neg h0] at hc
    rw [← hc] at hck
    have hne : (c != 0) = true := by simpa using hc0
    replace hck := Lib.hid hck
    clear hc h0 hc0
    go_enter Try.func15, Try.ntmps15
    go_wp2_with fail
    refine (hck.out _ (h.ext hx3)).mono ?_
    rintro e w1 ⟨rfl, hw1⟩
    obtain ⟨hcw1, hfw1⟩ := bcell hw1
    have hzw1 := bsize hw1
    (try simp only [World.size_alloc, World.size_setCell, World.size_drew, World.heap_drewN] at hcw1 hfw1 hzw1)
    have l0w1 : w.heap.size < w1.heap.size := by omega
    have l1w1 : w.heap.size + 1 < w1.heap.size := by omega
    have l2w1 : w.heap.size + 1 + 1 < w1.heap.size := by omega
    go_wp2_with fail
    refine bodyPost_ret ?_ rfl ⟨rfl, Bel.bel (B := _) ?_⟩
    · simp [results, Try.results15, go_sem, hcw1, l2w1]
    · (repeat (first | with_reducible assumption | with_reducible exact Bel.refl _ | with_reducible refine Bel.alloc ?_ _ | with_reducible refine Bel.drewN ?_ _ | with_reducible refine Bel.drew ?_ | (with_reducible refine Bel.setCell0 ?_ ?_ _; rotate_left; (first | omega | (simp; done) | (simp; omega))) | (with_reducible refine Bel.setCell ?_ (p := _) ?_ _; rotate_left; (first | (simp; done) | omega | (simp; omega))) | refine Bel.call ?_ (by assumption) | (refine EX.bel ?_ (by assumption) ?_; rotate_left; (first | omega | (simp; omega)))))
end Go.Proofs.Ytflbpkgnadjokaa
namespace Go.Proofs.Ytflbpkgnadjokaa
open Go Go.RowKit Go.Proofs
set_option maxRecDepth 100000
/-- Behind the append: a row of one's own, of all. -/
theorem claim_row {w W w' : World} {v v' : Value} {l : List Pfx} {p : Pfx} {base : Nat} (hb : w.heap.size ≤ base) (hown : w'.ownsRow base 23 2 v' (l.length + 1) (l.flatMap pcells ++ pcells p)) :
    ∃ g cap, v' = .slice (some ⟨g, 0, none⟩) (l.length + 1) cap ∧ base ≤ g ∧ g < w'.heap.size ∧ Fl w' g cap (l ++ [p]) := by
  obtain ⟨g, cap, rfl⟩ := ownsRow_succ hown
  have hl := hown.lt g rfl
  refine ⟨g, cap, rfl, hl.1, hl.2, fl_own (base := base) (n := l.length + 1) (by simpa using hown) (by simp)⟩
theorem Fl.of_block {w w' : World} {g cap : Nat} {l : List Pfx} (h : Fl w g cap l) (hb : w'.heap[g]? = w.heap[g]?) : Fl w' g cap l :=
  ⟨h.cap_le, h.cap_max, fun i hi => (World.cell?_of_block (a := ⟨g, i * 2, none⟩) hb).trans (h.at_ i hi), fun i hi => (World.cell?_of_block (a := ⟨g, i * 2 + 1, none⟩) hb).trans (h.len i hi), fun o => (World.frozen?_of_block (a := ⟨g, o, none⟩) hb).trans (h.free o)⟩
theorem SX.fr {lo : Nat} {w w' : World} (h : SX lo w w') (hl : lo ≤ w.heap.size) : ∀ b o, b < lo → w'.frozen? ⟨b, o, none⟩ = w.frozen? ⟨b, o, none⟩ := fun b o hb => World.frozen?_of_block (w := w) (h.block b (Nat.lt_of_lt_of_le hb hl) hb)
theorem SX.ext {w w' : World} (h : SX w.heap.size w w') : Ext w w' := ⟨h.os, h.tape, h.output, h.size, fun b hb => h.block b hb hb⟩
theorem SX.mono {lo lo' : Nat} {w w' : World} (hl : lo' ≤ lo) (h : SX lo w w') : SX lo' w w' := ⟨h.os, h.tape, h.output, h.size, fun b hb hx => h.block b hb (by omega)⟩
theorem keepAdd {X w1 : World} (h : Ext X w1) {b o j : Nat} {v : Value} (hc : X.cell? ((⟨b, o, none⟩ : Addr).add j) = some v) : w1.cell? ((⟨b, o, none⟩ : Addr).add j) = some v := by
  rw [Addr.add_lit] at *
  exact keepCell h hc
theorem step_own {P : Program} {o : Oper} {a : Act} {w : World} {K : Act → World → Prop} {Q : Exit → Act → World → Prop} (s x : Operand) (t : TypeId)
    (ho : o.op = .call { callee := .builtin .append, args := #[s, x], argTypes := #[t, t] })
    (base : Nat) (e : TypeId) (i : TypeInfo) (z : Value) (size bytes : Nat) (ht : P.underlying t = some (.slice e)) (hi : P.info? e = some i) (hz : i.zero = some z)
    (hsize : i.size = size) (hby : i.bytes = bytes) (hzs : z.cells.size = size) (hsz : 0 < size)
    (v : Value) (n : Nat) (xs : List Value) (hs : a.eval s = v) (hown : w.ownsRow base e size v n xs)
    (ad : Addr) (m c : Nat) (news : List Value) (hx : a.eval x = .slice (some ad) m c) (hl : news.length = m * size) (hnews : ∀ j u, news[j]? = some u → w.cell? (ad.add j) = some u) (h1 : ∀ u ∈ news, u.oneCell' = true)
    (h63 : n + m ≤ maxLen) (hbytes : (n + m) * bytes ≤ 140737488355328) (hbase : base ≤ w.heap.size)
    (hK : ∀ v' w', w'.ownsRow base e size v' (n + m) (xs ++ news) → w.grownBy w' v.ownBlock → K (a.put o.dst v') w') : Oper.wp P o a w K Q := by
  obtain ⟨v', w', hr, h2, h3, h4⟩ := run_append_own (P := P) w base t o.type e i z size bytes ht hi hz hsize hby hzs hsz v n xs hown ad m c news hl hnews h1 h63 hbytes hbase
  unfold Oper.wp execOp
  simp only [ho, resolve, invoke, builtin, Sem.run_bind, Sem.run_pure, Result.andThen_ok, List.map_toArray, List.map_cons, List.map_nil, hs, hx, hr]
  exact hK _ _ h2 h3
set_option maxHeartbeats 1500000 in
set_option maxRecDepth 100000 in
theorem claim_ok {A : Area} (root : Pfx) (us : List Pfx) (uo : Option Addr) (ucap : Nat) (p : Pfx) (w : World) (h : Sl A w 2 Pfx.R uo ucap us) (hc : claimE root us p = 0) :
    Calls Try.prog 15 #[.agg #[.int .i64 root.at_, .int .i64 root.len, .slice uo us.length ucap], .agg #[.int .i64 p.at_, .int .i64 p.len]] w (SpOut w 0 root (insU p us)) := by
  obtain ⟨i0, hi0, hz0, hz1, hz2⟩ := info_parts Try.infoPrefix
  have hck := fun W (h : Sl A W 2 Pfx.R uo ucap us) => spaceCheck_any root us uo ucap W h
  have hx3 : Ext w (((w.alloc (.cells #[.int .i64 root.at_, .int .i64 root.len, .slice uo us.length ucap] 26)).alloc (.cells #[.int .i64 p.at_, .int .i64 p.len] 23)).alloc (.cells #[.int .i64 0, .int .i64 0, .slice none 0 0] 26)) := ext_trans (ext_alloc _ _) (ext_trans (ext_alloc _ _) (ext_alloc _ _))
  have hin := inside_any p.at_ p.len root.at_ root.len
  have hme := fun W (h : Sl A W 2 Pfx.R uo ucap us) => spaceMeets_any us uo ucap p W h
  have hq : (us.any fun q => p.meets q) = us.any p.meets := rfl
  have hq2 : insP p.at_ p.len root.at_ root.len = insQ p root := rfl
  rw [hq] at hme
  rw [hq2] at hin
  clear hq hq2
  unfold claimE at hc
  have h0 : chkS root us = 0 := by
    by_cases h0 : chkS root us = 0
    · exact h0
    · rw [if_neg h0] at hc; exact hc
  rw [if_pos h0] at hc
  have hi : insQ p root = true := by
    by_cases hi : insQ p root = true
    · exact hi
    · rw [if_neg hi] at hc; cases hc
  rw [if_pos hi] at hc
  have hm : us.any p.meets = false := by
    by_cases hm : us.any p.meets = true
    · rw [if_pos hm] at hc; cases hc
    · simpa using hm
  rw [hm, if_neg (by simp)] at hc
  have h32 : us.length ≠ 32 := by
    intro h32
    rw [if_pos h32] at hc; cases hc
  have hok := chkS_ok.1 h0
  have hmany := hok.many
  rw [h0] at hck
  rw [hi] at hin
  rw [hm] at hme
  have h32I : ((us.length : Int) == 32) = false := by simp; omega
  have hfin := fun (l : List Pfx) (h1 : l.Perm (us ++ [p])) (h2 : l.Pairwise (fun x y => x.at_ ≤ y.at_)) => sorted_is hok (insQ_hi.1 hi).1 hm h1 h2
  have hrr : ∀ q ∈ us ++ [p], q.right = true := by
    intro q hq
    rcases List.mem_append.1 hq with hq | hq
    · exact (insQ_hi.1 (hok.ins q hq)).1
    · rw [List.mem_singleton] at hq; rw [hq]; exact (insQ_hi.1 hi).1
  have hcl := fun W (h : Sl A W 2 Pfx.R uo ucap us) => clone_any us uo ucap W h (by omega)
  replace hck := Lib.hid hck
  replace hin := Lib.hid hin
  replace hme := Lib.hid hme
  replace hfin := Lib.hid hfin
  replace hrr := Lib.hid hrr
  replace hcl := Lib.hid hcl
  clear hc h0 hi hm hok h32
  go_enter Try.func15, Try.ntmps15
  go_wp2_with fail
  refine (hck.out _ (h.ext hx3)).mono ?_
  rintro e w1 ⟨rfl, hw1⟩
  obtain ⟨hcw1, hfw1⟩ := bcell hw1
  have hzw1 := bsize hw1
  (try simp only [World.size_alloc, World.size_setCell, World.size_drew, World.heap_drewN] at hcw1 hfw1 hzw1)
  have l0w1 : w.heap.size < w1.heap.size := by omega
  have l1w1 : w.heap.size + 1 < w1.heap.size := by omega
  have l2w1 : w.heap.size + 1 + 1 < w1.heap.size := by omega
  have hx1 := ext_trans hx3 hw1
  go_wp2_with fail
  refine (hin.out _).mono ?_
  rintro e w2 ⟨rfl, hw2⟩
  obtain ⟨hcw2, hfw2⟩ := bcell hw2
  have hzw2 := bsize hw2
  (try simp only [World.size_alloc, World.size_setCell, World.size_drew, World.heap_drewN] at hcw2 hfw2 hzw2)
  have l0w2 : w.heap.size < w2.heap.size := by omega
  have l1w2 : w.heap.size + 1 < w2.heap.size := by omega
  have l2w2 : w.heap.size + 1 + 1 < w2.heap.size := by omega
  have hx2 := ext_trans hx1 hw2
  go_wp2_with fail
  refine (hme.out _ (h.ext hx2)).mono ?_
  rintro e w4 ⟨rfl, hw4⟩
  obtain ⟨hcw4, hfw4⟩ := bcell hw4
  have hzw4 := bsize hw4
  (try simp only [World.size_alloc, World.size_setCell, World.size_drew, World.heap_drewN] at hcw4 hfw4 hzw4)
  have l0w4 : w.heap.size < w4.heap.size := by omega
  have l1w4 : w.heap.size + 1 < w4.heap.size := by omega
  have l2w4 : w.heap.size + 1 + 1 < w4.heap.size := by omega
  have hx4 := ext_trans hx2 hw4
  go_wp2_with fail
  refine region_miz (w4.heap.size) (7) (by kernel_rfl) (by rfl) ?_
  apply miz_take (i := 0)
  · (simp only [List.getElem?_toArray, List.getElem?_cons_succ, List.getElem?_cons_zero] <;> rfl)
  · kernel_rfl
  · exact fun _ _ d _ _ h => by cases d <;> exact h
  · kernel_rfl
  · first | exact want_0 rfl | exact want_b rfl rfl rfl (by with_reducible rfl)
  · intro wq hwq R hR; ((have hcc := SX.lo hwq (by first | omega | (simp; omega) | (simp; done)); (try simp only [World.size_alloc, World.size_setCell, World.size_drew, World.heap_drewN] at hcc)); go_simp; first | exact hR | (fail))
  simp only [Act.put, List.setIfInBounds_toArray, List.set_cons_zero, List.set_cons_succ]
  apply miz_take (i := 1)
  · (simp only [List.getElem?_toArray, List.getElem?_cons_succ, List.getElem?_cons_zero] <;> rfl)
  · kernel_rfl
  · exact fun _ _ d _ _ h => by cases d <;> exact h
  · kernel_rfl
  · first | exact want_0 rfl | exact want_b rfl rfl rfl (by with_reducible rfl)
  · intro wq hwq R hR; ((have hcc := SX.lo hwq (by first | omega | (simp; omega) | (simp; done)); (try simp only [World.size_alloc, World.size_setCell, World.size_drew, World.heap_drewN] at hcc)); go_simp; first | exact hR | (fail))
  simp only [Act.put, List.setIfInBounds_toArray, List.set_cons_zero, List.set_cons_succ]
  apply miz_take (i := 3)
  · (simp only [List.getElem?_toArray, List.getElem?_cons_succ, List.getElem?_cons_zero] <;> rfl)
  · kernel_rfl
  · exact fun _ _ d _ _ h => by cases d <;> exact h
  · kernel_rfl
  · first | exact want_0 rfl | exact want_b rfl rfl rfl (by with_reducible rfl)
  · intro wq hwq R hR; ((have hcc := SX.lo hwq (by first | omega | (simp; omega) | (simp; done)); (try simp only [World.size_alloc, World.size_setCell, World.size_drew, World.heap_drewN] at hcc)); go_simp; first | exact hR | (fail))
  simp only [Act.put, List.setIfInBounds_toArray, List.set_cons_zero, List.set_cons_succ]
  refine miz_two (i := 2) (k := 4) (by kernel_rfl) (by (simp only [List.getElem?_toArray, List.getElem?_cons_succ, List.getElem?_cons_zero] <;> rfl)) (by (simp only [List.getElem?_toArray, List.getElem?_cons_succ, List.getElem?_cons_zero] <;> rfl)) (by exact want_0 rfl) (by exact want_0 rfl) (fun w5 hw5 K hK => ?_) (fun w5 hw5 K hK => ?_)
  · obtain ⟨hcw5, hfw5⟩ := bcell hw5
    have hzw5 := bsize hw5
    have hx5 := ext_trans hx4 hw5
    go_simp
    refine (hcl.out w5 (h.ext hx5)).mono ?_
    rintro e w6 ⟨v, rfl, hown6, hw6⟩
    have hz6 := bsize hw6
    refine hK _ _ (SX.of hw6) ?_
    clear hK K
    (try simp only [Act.put, List.setIfInBounds_toArray, List.set_cons_zero, List.set_cons_succ])
    refine miz_one (i := 4) (by kernel_rfl) (by (simp only [List.getElem?_toArray, List.getElem?_cons_succ, List.getElem?_cons_zero] <;> rfl)) (by first | exact want_0 rfl | exact want_b rfl rfl rfl (by with_reducible rfl)) (fun w7 hw7 K hK => ?_)
    obtain ⟨hcw7, hfw7⟩ := bcell hw7
    have hzw7 := bsize hw7
    (try simp only [World.size_alloc, World.size_setCell, World.size_drew, World.heap_drewN] at hcw7 hfw7 hzw7)
    go_simp
    refine hK _ _ (SX.of (ext_alloc _ _)) ?_
    clear hK K
    (try simp only [Act.put, List.setIfInBounds_toArray, List.set_cons_zero, List.set_cons_succ])
    obtain ⟨BS, hBS⟩ : ∃ BS, BS = w7.heap.size := ⟨_, rfl⟩
    have hbs : ∀ j u, (pcells p)[j]? = some u → (w7.alloc (.cells #[.int .i64 p.at_, .int .i64 p.len] 23)).cell? ((⟨BS, 0, none⟩ : Addr).add j) = some u := by rw [hBS]; exact cells_new _ _ _
    have HW : Ext w4 (w7.alloc (.cells #[.int .i64 p.at_, .int .i64 p.len] 23)) := ext_trans (ext_trans (ext_trans hw5 hw6) hw7) (ext_alloc _ _)
    rw [← hBS]
    replace hBS := Lib.hid hBS
    refine miz_one (i := 5) (by kernel_rfl) (by (simp only [List.getElem?_toArray, List.getElem?_cons_succ, List.getElem?_cons_zero] <;> rfl)) (by exact want_0 rfl) (fun w9 hw9 K hK => ?_)
    have hown9 := ownsRow_ext hw9 ((ownsRow_ext hw7 hown6).alloc _)
    have hz9 := bsize hw9
    have hle9 : w5.heap.size ≤ w9.heap.size := Nat.le_trans hw6.size (Nat.le_trans hw7.size (Nat.le_trans (ext_alloc _ _).size hw9.size))
    refine step_own (.tmp 35) (.tmp 37) 24 rfl w5.heap.size 23 i0 (.agg #[.int .i64 0, .int .i64 0]) 2 16 Try.underlying24 hi0 hz0 hz1 hz2 rfl (by decide) v us.length (us.flatMap pcells) rfl hown9 ⟨BS, 0, none⟩ 1 1 (pcells p) rfl rfl ?c1 ?c2 (by unfold maxLen; omega) (by omega) hle9 ?_
    case c1 => exact fun j u hu => keepAdd hw9 (hbs j u hu)
    case c2 => intro u hu; simp [pcells] at hu; rcases hu with rfl | rfl <;> rfl
    intro v' w10 hown10 hg10
    have hSX : SX w4.heap.size w9 w10 := SX.grown hg10 (fun r e => by have := (hown9.lt r e).1; omega)
    refine hK _ _ hSX ?_
    clear hK K
    obtain ⟨g, cap, rfl, hg1, hg2, hfl⟩ := claim_row (w := w) (W := w) (v := v) (l := us) (by omega) hown10
    apply miz_take (i := 6)
    · (simp only [List.getElem?_toArray, List.getElem?_cons_succ, List.getElem?_cons_zero] <;> rfl)
    · kernel_rfl
    · exact fun _ _ d _ _ h => by cases d <;> exact h
    · kernel_rfl
    · first | exact want_0 rfl | exact want_b rfl rfl rfl (by with_reducible rfl)
    · intro wq hwq R hR; ((have hcc := SX.lo hwq (by first | omega | (simp; omega) | (simp; done)); (try simp only [World.size_alloc, World.size_setCell, World.size_drew, World.heap_drewN] at hcc)); go_simp; first | exact hR | (fail))
    simp only [Act.put, List.setIfInBounds_toArray, List.set_cons_zero, List.set_cons_succ]
    refine miz_nil (by kernel_rfl) ?_
    intro w11 hw11
    obtain ⟨hcw11, hfw11⟩ := bcell hw11
    have hzw11 := bsize hw11
    (try simp only [World.size_alloc, World.size_setCell, World.size_drew, World.heap_drewN] at hcw11 hfw11 hzw11)
    have hS11 : SX w4.heap.size w4 w11 := ((SX.of HW).trans (SX.of hw9)).trans (hSX.trans (SX.of hw11))
    have hfl11 := hfl.of_block (hw11.block g hg2)
    have hg11 : g < w11.heap.size := by omega
    obtain ⟨L, hL⟩ : ∃ L, L = us ++ [p] := ⟨_, rfl⟩
    rw [← hL] at hfl11
    have hLu : L.length = us.length + 1 := by rw [hL]; simp
    have hLl : L.length ≤ 65536 := by rw [hL]; simp; omega
    have hso := sort_any L g cap w11 (by rw [hL]; exact hrr.out) hfl11 hg11 hLl
    rw [hLu] at hso
    have hcc11 := hS11.lo (Nat.le_refl _)
    have hff11 := hS11.fr (Nat.le_refl _)
    replace hso := Lib.hid hso
    replace hL := Lib.hid hL
    replace hLu := Lib.hid hLu
    clear hfl11 hbs hfl hown10 hg10 hown9 hcw11 hfw11 hown6 hcw5 hfw5 hle9 hz9 hLl
    (try clear hcw7 hfw7)
    (try clear hcw6 hfw6)
    go_wp2_with fail
    refine hso.out.mono ?_
    rintro e w12 ⟨rfl, L', hp, hs, hfl12, hg12⟩
    have hS12 : SX w4.heap.size w4 w12 := hS11.trans (SX.grown hg12 (fun r e => by cases e; omega))
    have hcc12 := hS12.lo (Nat.le_refl _)
    have hff12 := hS12.fr (Nat.le_refl _)
    have hLe : L' = insU p us := hfin.out L' (by rw [← hL.out]; exact hp) hs
    have hLn : Hid (us.length + 1 = (insU p us).length) := by rw [← hLe, hp.length_eq]; exact hLu.out.symm
    have hsz12 := hS12.size
    replace hp := Lib.hid hp
    replace hs := Lib.hid hs
    replace hLe := Lib.hid hLe
    clear hcc11 hff11
    go_wp2_with fail
    refine bodyPost_ret (v := .tuple #[.agg #[.int .i64 root.at_, .int .i64 root.len, .slice (some ⟨g, 0, none⟩) (us.length + 1) cap], .int .i64 0]) ?_ rfl (.inl ⟨rfl, some ⟨g, 0, none⟩, cap, by rw [hLn.out], ?_, ?_⟩)
    · simp [results, Try.results15, go_sem, hcw1, hcw2, hcw4, hcc12, l2w1, l2w2, l2w4]
    · rw [← hLe.out]
      refine Fl.sl (hfl12.of_block ?_) (by show w.heap.size ≤ g; omega)
      rw [block_setCell_ne _ (by show w.heap.size + 1 + 1 ≠ g; omega), block_setCell_ne _ (by show w.heap.size + 1 + 1 ≠ g; omega), block_setCell_ne _ (by show w.heap.size + 1 + 1 ≠ g; omega)]
    · refine Bel.bel (B := w.heap.size) ?_
      have hb4 : Bel w.heap.size w w4 := ⟨hx4, by omega⟩
      have hb12 : Bel w.heap.size w w12 := SX.bel hb4 hS12 (by omega)
      exact ((hb12.setCell0 (by omega) _).setCell0 (by omega) _).setCell0 (by omega) _
  · obtain ⟨hcw5, hfw5⟩ := bcell hw5
    have hzw5 := bsize hw5
    have hx5 := ext_trans hx4 hw5
    go_simp
    refine hK _ _ (SX.of (ext_alloc _ _)) ?_
    clear hK K
    (try simp only [Act.put, List.setIfInBounds_toArray, List.set_cons_zero, List.set_cons_succ])
    obtain ⟨BS, hBS⟩ : ∃ BS, BS = w5.heap.size := ⟨_, rfl⟩
    have hbs5 : ∀ j u, (pcells p)[j]? = some u → (w5.alloc (.cells #[.int .i64 p.at_, .int .i64 p.len] 23)).cell? ((⟨BS, 0, none⟩ : Addr).add j) = some u := by rw [hBS]; exact cells_new _ _ _
    rw [← hBS]
    replace hBS := Lib.hid hBS
    refine miz_one (i := 2) (by kernel_rfl) (by (simp only [List.getElem?_toArray, List.getElem?_cons_succ, List.getElem?_cons_zero] <;> rfl)) (by first | exact want_0 rfl | exact want_b rfl rfl rfl (by with_reducible rfl)) (fun w6 hw6 K hK => ?_)
    obtain ⟨hcw6, hfw6⟩ := bcell hw6
    have hzw6 := bsize hw6
    (try simp only [World.size_alloc, World.size_setCell, World.size_drew, World.heap_drewN] at hcw6 hfw6 hzw6)
    go_simp
    have hx6 := ext_trans hx5 (ext_trans (ext_alloc _ _) hw6)
    refine (hcl.out w6 (h.ext hx6)).mono ?_
    rintro e w7 ⟨v, rfl, hown6, hw7⟩
    have hz7 := bsize hw7
    refine hK _ _ (SX.of hw7) ?_
    clear hK K
    (try simp only [Act.put, List.setIfInBounds_toArray, List.set_cons_zero, List.set_cons_succ])
    have hbs : ∀ j u, (pcells p)[j]? = some u → w7.cell? ((⟨BS, 0, none⟩ : Addr).add j) = some u := fun j u hu => keepAdd (ext_trans hw6 hw7) (hbs5 j u hu)
    have HW : Ext w4 w7 := ext_trans (ext_trans hw5 (ext_alloc _ _)) (ext_trans hw6 hw7)
    refine miz_one (i := 5) (by kernel_rfl) (by (simp only [List.getElem?_toArray, List.getElem?_cons_succ, List.getElem?_cons_zero] <;> rfl)) (by exact want_0 rfl) (fun w9 hw9 K hK => ?_)
    have hown9 := ownsRow_ext hw9 hown6
    have hz9 := bsize hw9
    have hle9 : w6.heap.size ≤ w9.heap.size := Nat.le_trans hw7.size hw9.size
    refine step_own (.tmp 35) (.tmp 37) 24 rfl w6.heap.size 23 i0 (.agg #[.int .i64 0, .int .i64 0]) 2 16 Try.underlying24 hi0 hz0 hz1 hz2 rfl (by decide) v us.length (us.flatMap pcells) rfl hown9 ⟨BS, 0, none⟩ 1 1 (pcells p) rfl rfl ?c1 ?c2 (by unfold maxLen; omega) (by omega) hle9 ?_
    case c1 => exact fun j u hu => keepAdd hw9 (hbs j u hu)
    case c2 => intro u hu; simp [pcells] at hu; rcases hu with rfl | rfl <;> rfl
    intro v' w10 hown10 hg10
    have hSX : SX w4.heap.size w9 w10 := SX.grown hg10 (fun r e => by have := (hown9.lt r e).1; omega)
    refine hK _ _ hSX ?_
    clear hK K
    obtain ⟨g, cap, rfl, hg1, hg2, hfl⟩ := claim_row (w := w) (W := w) (v := v) (l := us) (by omega) hown10
    apply miz_take (i := 6)
    · (simp only [List.getElem?_toArray, List.getElem?_cons_succ, List.getElem?_cons_zero] <;> rfl)
    · kernel_rfl
    · exact fun _ _ d _ _ h => by cases d <;> exact h
    · kernel_rfl
    · first | exact want_0 rfl | exact want_b rfl rfl rfl (by with_reducible rfl)
    · intro wq hwq R hR; ((have hcc := SX.lo hwq (by first | omega | (simp; omega) | (simp; done)); (try simp only [World.size_alloc, World.size_setCell, World.size_drew, World.heap_drewN] at hcc)); go_simp; first | exact hR | (fail))
    simp only [Act.put, List.setIfInBounds_toArray, List.set_cons_zero, List.set_cons_succ]
    refine miz_nil (by kernel_rfl) ?_
    intro w11 hw11
    obtain ⟨hcw11, hfw11⟩ := bcell hw11
    have hzw11 := bsize hw11
    (try simp only [World.size_alloc, World.size_setCell, World.size_drew, World.heap_drewN] at hcw11 hfw11 hzw11)
    have hS11 : SX w4.heap.size w4 w11 := ((SX.of HW).trans (SX.of hw9)).trans (hSX.trans (SX.of hw11))
    have hfl11 := hfl.of_block (hw11.block g hg2)
    have hg11 : g < w11.heap.size := by omega
    obtain ⟨L, hL⟩ : ∃ L, L = us ++ [p] := ⟨_, rfl⟩
    rw [← hL] at hfl11
    have hLu : L.length = us.length + 1 := by rw [hL]; simp
    have hLl : L.length ≤ 65536 := by rw [hL]; simp; omega
    have hso := sort_any L g cap w11 (by rw [hL]; exact hrr.out) hfl11 hg11 hLl
    rw [hLu] at hso
    have hcc11 := hS11.lo (Nat.le_refl _)
    have hff11 := hS11.fr (Nat.le_refl _)
    replace hso := Lib.hid hso
    replace hL := Lib.hid hL
    replace hLu := Lib.hid hLu
    clear hfl11 hbs hfl hown10 hg10 hown9 hcw11 hfw11 hown6 hcw5 hfw5 hle9 hz9 hLl
    (try clear hcw7 hfw7)
    (try clear hcw6 hfw6)
    go_wp2_with fail
    refine hso.out.mono ?_
    rintro e w12 ⟨rfl, L', hp, hs, hfl12, hg12⟩
    have hS12 : SX w4.heap.size w4 w12 := hS11.trans (SX.grown hg12 (fun r e => by cases e; omega))
    have hcc12 := hS12.lo (Nat.le_refl _)
    have hff12 := hS12.fr (Nat.le_refl _)
    have hLe : L' = insU p us := hfin.out L' (by rw [← hL.out]; exact hp) hs
    have hLn : Hid (us.length + 1 = (insU p us).length) := by rw [← hLe, hp.length_eq]; exact hLu.out.symm
    have hsz12 := hS12.size
    replace hp := Lib.hid hp
    replace hs := Lib.hid hs
    replace hLe := Lib.hid hLe
    clear hcc11 hff11
    go_wp2_with fail
    refine bodyPost_ret (v := .tuple #[.agg #[.int .i64 root.at_, .int .i64 root.len, .slice (some ⟨g, 0, none⟩) (us.length + 1) cap], .int .i64 0]) ?_ rfl (.inl ⟨rfl, some ⟨g, 0, none⟩, cap, by rw [hLn.out], ?_, ?_⟩)
    · simp [results, Try.results15, go_sem, hcw1, hcw2, hcw4, hcc12, l2w1, l2w2, l2w4]
    · rw [← hLe.out]
      refine Fl.sl (hfl12.of_block ?_) (by show w.heap.size ≤ g; omega)
      rw [block_setCell_ne _ (by show w.heap.size + 1 + 1 ≠ g; omega), block_setCell_ne _ (by show w.heap.size + 1 + 1 ≠ g; omega), block_setCell_ne _ (by show w.heap.size + 1 + 1 ≠ g; omega)]
    · refine Bel.bel (B := w.heap.size) ?_
      have hb4 : Bel w.heap.size w w4 := ⟨hx4, by omega⟩
      have hb12 : Bel w.heap.size w w12 := SX.bel hb4 hS12 (by omega)
      exact ((hb12.setCell0 (by omega) _).setCell0 (by omega) _).setCell0 (by omega) _
end Go.Proofs.Ytflbpkgnadjokaa
namespace Go.Proofs.Ytflbpkgnadjokaa
open Go Go.RowKit Go.Proofs
set_option maxRecDepth 100000
theorem claim_any {A : Area} (root : Pfx) (us : List Pfx) (uo : Option Addr) (ucap : Nat) (p : Pfx) (w : World) (h : Sl A w 2 Pfx.R uo ucap us) :
    Calls Try.prog 15 #[.agg #[.int .i64 root.at_, .int .i64 root.len, .slice uo us.length ucap], .agg #[.int .i64 p.at_, .int .i64 p.len]] w (SpOut w (claimE root us p) root (insU p us)) := by
  by_cases hc : claimE root us p = 0
  · rw [hc]; exact claim_ok root us uo ucap p w h hc
  · exact (claim_err root us uo ucap p w h _ rfl hc).mono fun e w' ⟨h1, h2⟩ => .inr ⟨hc, h1, h2⟩
def delU (p : Pfx) (us : List Pfx) : List Pfx := us.filter fun q => !decide (q = p)
def freeE (root : Pfx) (us : List Pfx) (p : Pfx) : Int := if chkS root us = 0 then (if p ∈ us then 0 else 5) else chkS root us
theorem del_none : ∀ (l : List Pfx) (p : Pfx), p ∉ l → delU p l = l := by
  intro l p h
  unfold delU
  rw [List.filter_eq_self]
  intro q hq
  simp
  rintro rfl
  exact h hq
theorem del_idx : ∀ (l : List Pfx) (p : Pfx), l.Nodup → ∀ i (hi : i < l.length), l[i] = p → l.eraseIdx i = delU p l
  | [], _, _, i, hi, _ => absurd hi (by simp)
  | x :: t, p, h, 0, _, e => by
    have : x = p := e
    subst this
    have hx := (List.nodup_cons.1 h).1
    have := del_none t x hx
    unfold delU at *
    simp [this]
  | x :: t, p, h, i + 1, hi, e => by
    obtain ⟨h1, h2⟩ := List.nodup_cons.1 h
    have hi' : i < t.length := by simpa using hi
    have e' : t[i] = p := by simpa using e
    have ih := del_idx t p h2 i hi' e'
    have hne : x ≠ p := by rintro rfl; exact h1 (by rw [← e']; exact List.getElem_mem hi')
    unfold delU at *
    simp [hne, ih]
theorem us_nodup {root : Pfx} {us : List Pfx} (h : SpaceOK root us) : us.Nodup := by
  refine h.apart.imp_of_mem ?_
  rintro a b ha _ hab rfl
  have := a.hi_bd (insQ_hi.1 (h.ins a ha)).1
  unfold Apart at hab
  omega
theorem idx_mem {l : List Pfx} {p : Pfx} (h : p ∈ l) : ∃ i, ∃ (hi : i < l.length), idxOf (fun x => decide (p = x)) l = (i : Int) ∧ l[i] = p := by
  unfold idxOf
  cases hf : l.findIdx? (fun x => decide (p = x)) with
  | none =>
    rw [List.findIdx?_eq_none_iff] at hf
    have := hf p h
    simp at this
  | some i =>
    rw [List.findIdx?_eq_some_iff_getElem] at hf
    obtain ⟨hi, h1, _⟩ := hf
    exact ⟨i, hi, rfl, (of_decide_eq_true h1).symm⟩
theorem idx_no {l : List Pfx} {p : Pfx} (h : p ∉ l) : idxOf (fun x => decide (p = x)) l = -1 :=
  idx_none fun j hj => by simp; rintro rfl; exact h (List.getElem_mem hj)
set_option maxHeartbeats 1500000 in
set_option maxRecDepth 100000 in
theorem free_err {A : Area} (root : Pfx) (us : List Pfx) (uo : Option Addr) (ucap : Nat) (p : Pfx) (w : World) (h : Sl A w 2 Pfx.R uo ucap us) (c : Int) (hc : c = freeE root us p) (hc0 : c ≠ 0) :
    Calls Try.prog 16 #[.agg #[.int .i64 root.at_, .int .i64 root.len, .slice uo us.length ucap], .agg #[.int .i64 p.at_, .int .i64 p.len]] w fun e w' => e = .returned (.tuple #[.agg #[.int .i64 0, .int .i64 0, .slice none 0 0], .int .i64 c]) ∧ Ext w w' := by
  have hck := fun W (h : Sl A W 2 Pfx.R uo ucap us) => spaceCheck_any root us uo ucap W h
  have hx3 : Ext w (((w.alloc (.cells #[.int .i64 root.at_, .int .i64 root.len, .slice uo us.length ucap] 26)).alloc (.cells #[.int .i64 p.at_, .int .i64 p.len] 23)).alloc (.cells #[.int .i64 0, .int .i64 0, .slice none 0 0] 26)) := ext_trans (ext_alloc _ _) (ext_trans (ext_alloc _ _) (ext_alloc _ _))
  unfold freeE at hc
  by_cases h0 : chkS root us = 0
  · rw [if_pos h0] at hc
    rw [h0] at hck
    by_cases hm : p ∈ us
    · rw [if_pos hm] at hc; exact absurd hc hc0
    · rw [if_neg hm] at hc
      subst hc
      have hix := fun W (h : Sl A W 2 Pfx.R uo ucap us) => index_P p us uo ucap W h
      rw [idx_no hm] at hix
      replace hck := Lib.hid hck
      replace hix := Lib.hid hix
      clear h0 hm hc0
      go_enter Try.func16, Try.ntmps16
      go_wp2_with fail
      refine (hck.out _ (h.ext hx3)).mono ?_
      rintro e w1 ⟨rfl, hw1⟩
      obtain ⟨hcw1, hfw1⟩ := bcell hw1
      have hzw1 := bsize hw1
      (try simp only [World.size_alloc, World.size_setCell, World.size_drew, World.heap_drewN] at hcw1 hfw1 hzw1)
      have l0w1 : w.heap.size < w1.heap.size := by omega
      have l1w1 : w.heap.size + 1 < w1.heap.size := by omega
      have l2w1 : w.heap.size + 1 + 1 < w1.heap.size := by omega
      have hx1 := ext_trans hx3 hw1
      go_wp2_with fail
      refine (hix.out _ (h.ext hx1)).mono ?_
      rintro e w2 ⟨rfl, hw2⟩
      obtain ⟨hcw2, hfw2⟩ := bcell hw2
      have hzw2 := bsize hw2
      (try simp only [World.size_alloc, World.size_setCell, World.size_drew, World.heap_drewN] at hcw2 hfw2 hzw2)
      have l0w2 : w.heap.size < w2.heap.size := by omega
      have l1w2 : w.heap.size + 1 < w2.heap.size := by omega
      have l2w2 : w.heap.size + 1 + 1 < w2.heap.size := by omega
      go_wp2_with fail
      refine bodyPost_ret ?_ rfl ⟨rfl, Bel.bel (B := _) ?_⟩
      · simp [results, Try.results16, go_sem, hcw1, hcw2, l2w1, l2w2]
      · (repeat (first | with_reducible assumption | with_reducible exact Bel.refl _ | with_reducible refine Bel.alloc ?_ _ | with_reducible refine Bel.drewN ?_ _ | with_reducible refine Bel.drew ?_ | (with_reducible refine Bel.setCell0 ?_ ?_ _; rotate_left; (first | omega | (simp; done) | (simp; omega))) | (with_reducible refine Bel.setCell ?_ (p := _) ?_ _; rotate_left; (first | (simp; done) | omega | (simp; omega))) | refine Bel.call ?_ (by assumption) | (refine EX.bel ?_ (by assumption) ?_; rotate_left; (first | omega | (simp; omega)))))
  · rw [if_neg h0] at hc
    rw [← hc] at hck
    have hne : (c != 0) = true := by simpa using hc0
    replace hck := Lib.hid hck
    clear hc h0 hc0
    go_enter Try.func16, Try.ntmps16
    go_wp2_with fail
    refine (hck.out _ (h.ext hx3)).mono ?_
    rintro e w1 ⟨rfl, hw1⟩
    obtain ⟨hcw1, hfw1⟩ := bcell hw1
    have hzw1 := bsize hw1
    (try simp only [World.size_alloc, World.size_setCell, World.size_drew, World.heap_drewN] at hcw1 hfw1 hzw1)
    have l0w1 : w.heap.size < w1.heap.size := by omega
    have l1w1 : w.heap.size + 1 < w1.heap.size := by omega
    have l2w1 : w.heap.size + 1 + 1 < w1.heap.size := by omega
    go_wp2_with fail
    refine bodyPost_ret ?_ rfl ⟨rfl, Bel.bel (B := _) ?_⟩
    · simp [results, Try.results16, go_sem, hcw1, l2w1]
    · (repeat (first | with_reducible assumption | with_reducible exact Bel.refl _ | with_reducible refine Bel.alloc ?_ _ | with_reducible refine Bel.drewN ?_ _ | with_reducible refine Bel.drew ?_ | (with_reducible refine Bel.setCell0 ?_ ?_ _; rotate_left; (first | omega | (simp; done) | (simp; omega))) | (with_reducible refine Bel.setCell ?_ (p := _) ?_ _; rotate_left; (first | (simp; done) | omega | (simp; omega))) | refine Bel.call ?_ (by assumption) | (refine EX.bel ?_ (by assumption) ?_; rotate_left; (first | omega | (simp; omega)))))
set_option maxHeartbeats 1500000 in
set_option maxRecDepth 100000 in
theorem free_ok {A : Area} (root : Pfx) (us : List Pfx) (uo : Option Addr) (ucap : Nat) (p : Pfx) (w : World) (h : Sl A w 2 Pfx.R uo ucap us) (hc : freeE root us p = 0) :
    Calls Try.prog 16 #[.agg #[.int .i64 root.at_, .int .i64 root.len, .slice uo us.length ucap], .agg #[.int .i64 p.at_, .int .i64 p.len]] w (SpOut w 0 root (delU p us)) := by
  have hck := fun W (h : Sl A W 2 Pfx.R uo ucap us) => spaceCheck_any root us uo ucap W h
  have hx3 : Ext w (((w.alloc (.cells #[.int .i64 root.at_, .int .i64 root.len, .slice uo us.length ucap] 26)).alloc (.cells #[.int .i64 p.at_, .int .i64 p.len] 23)).alloc (.cells #[.int .i64 0, .int .i64 0, .slice none 0 0] 26)) := ext_trans (ext_alloc _ _) (ext_trans (ext_alloc _ _) (ext_alloc _ _))
  unfold freeE at hc
  have h0 : chkS root us = 0 := by
    by_cases h0 : chkS root us = 0
    · exact h0
    · rw [if_neg h0] at hc; exact hc
  rw [if_pos h0] at hc
  have hm : p ∈ us := by
    by_cases hm : p ∈ us
    · exact hm
    · rw [if_neg hm] at hc; cases hc
  have hok := chkS_ok.1 h0
  have hmany := hok.many
  obtain ⟨i, hi, hix0, hip⟩ := idx_mem hm
  have hfin := del_idx us p (us_nodup hok) i hi hip
  have hix := fun W (h : Sl A W 2 Pfx.R uo ucap us) => index_P p us uo ucap W h
  rw [hix0] at hix
  rw [h0] at hck
  have hcl := fun W (h : Sl A W 2 Pfx.R uo ucap us) => clone_any us uo ucap W h (by omega)
  have hiw : IntKind.i64.wrap ((i : Int) + 1) = (i : Int) + 1 := IntWalk.i64_in _ (by omega)
  have hi0 : decide ((i : Int) < 0) = false := by simp
  replace hck := Lib.hid hck
  replace hix := Lib.hid hix
  replace hcl := Lib.hid hcl
  replace hfin := Lib.hid hfin
  clear hc h0 hm hok hix0 hip
  go_enter Try.func16, Try.ntmps16
  go_wp2_with fail
  refine (hck.out _ (h.ext hx3)).mono ?_
  rintro e w1 ⟨rfl, hw1⟩
  obtain ⟨hcw1, hfw1⟩ := bcell hw1
  have hzw1 := bsize hw1
  (try simp only [World.size_alloc, World.size_setCell, World.size_drew, World.heap_drewN] at hcw1 hfw1 hzw1)
  have l0w1 : w.heap.size < w1.heap.size := by omega
  have l1w1 : w.heap.size + 1 < w1.heap.size := by omega
  have l2w1 : w.heap.size + 1 + 1 < w1.heap.size := by omega
  have hx1 := ext_trans hx3 hw1
  go_wp2_with fail
  refine (hix.out _ (h.ext hx1)).mono ?_
  rintro e w4 ⟨rfl, hw4⟩
  obtain ⟨hcw4, hfw4⟩ := bcell hw4
  have hzw4 := bsize hw4
  (try simp only [World.size_alloc, World.size_setCell, World.size_drew, World.heap_drewN] at hcw4 hfw4 hzw4)
  have l0w4 : w.heap.size < w4.heap.size := by omega
  have l1w4 : w.heap.size + 1 < w4.heap.size := by omega
  have l2w4 : w.heap.size + 1 + 1 < w4.heap.size := by omega
  have hx4 := ext_trans hx1 hw4
  go_wp2_with fail
  refine region_miz (w.heap.size + 1 + 1) (12) (by kernel_rfl) (by rfl) ?_
  apply miz_take (i := 0)
  · (simp only [List.getElem?_toArray, List.getElem?_cons_succ, List.getElem?_cons_zero] <;> rfl)
  · kernel_rfl
  · exact fun _ _ d _ _ h => by cases d <;> exact h
  · kernel_rfl
  · first | exact want_0 rfl | exact want_b rfl rfl rfl (by with_reducible rfl)
  · intro wq hwq R hR; ((have hcc := SX.lo hwq (by first | omega | (simp; omega) | (simp; done)); (try simp only [World.size_alloc, World.size_setCell, World.size_drew, World.heap_drewN] at hcc)); go_simp; first | exact hR | (fail))
  simp only [Act.put, List.setIfInBounds_toArray, List.set_cons_zero, List.set_cons_succ]
  apply miz_take (i := 1)
  · (simp only [List.getElem?_toArray, List.getElem?_cons_succ, List.getElem?_cons_zero] <;> rfl)
  · kernel_rfl
  · exact fun _ _ d _ _ h => by cases d <;> exact h
  · kernel_rfl
  · first | exact want_0 rfl | exact want_b rfl rfl rfl (by with_reducible rfl)
  · intro wq hwq R hR; ((have hcc := SX.lo hwq (by first | omega | (simp; omega) | (simp; done)); (try simp only [World.size_alloc, World.size_setCell, World.size_drew, World.heap_drewN] at hcc)); go_simp; first | exact hR | (fail))
  simp only [Act.put, List.setIfInBounds_toArray, List.set_cons_zero, List.set_cons_succ]
  apply miz_take (i := 2)
  · (simp only [List.getElem?_toArray, List.getElem?_cons_succ, List.getElem?_cons_zero] <;> rfl)
  · kernel_rfl
  · exact fun _ _ d _ _ h => by cases d <;> exact h
  · kernel_rfl
  · first | exact want_0 rfl | exact want_b rfl rfl rfl (by with_reducible rfl)
  · intro wq hwq R hR; ((have hcc := SX.lo hwq (by first | omega | (simp; omega) | (simp; done)); (try simp only [World.size_alloc, World.size_setCell, World.size_drew, World.heap_drewN] at hcc)); go_simp; first | exact hR | (fail))
  simp only [Act.put, List.setIfInBounds_toArray, List.set_cons_zero, List.set_cons_succ]
  apply miz_take (i := 3)
  · (simp only [List.getElem?_toArray, List.getElem?_cons_succ, List.getElem?_cons_zero] <;> rfl)
  · kernel_rfl
  · exact fun _ _ d _ _ h => by cases d <;> exact h
  · kernel_rfl
  · first | exact want_0 rfl | exact want_b rfl rfl rfl (by with_reducible rfl)
  · intro wq hwq R hR; ((have hcc := SX.lo hwq (by first | omega | (simp; omega) | (simp; done)); (try simp only [World.size_alloc, World.size_setCell, World.size_drew, World.heap_drewN] at hcc)); go_simp; first | exact hR | (fail))
  simp only [Act.put, List.setIfInBounds_toArray, List.set_cons_zero, List.set_cons_succ]
  apply miz_take (i := 5)
  · (simp only [List.getElem?_toArray, List.getElem?_cons_succ, List.getElem?_cons_zero] <;> rfl)
  · kernel_rfl
  · exact fun _ _ d _ _ h => by cases d <;> exact h
  · kernel_rfl
  · first | exact want_0 rfl | exact want_b rfl rfl rfl (by with_reducible rfl)
  · intro wq hwq R hR; ((have hcc := SX.lo hwq (by first | omega | (simp; omega) | (simp; done)); (try simp only [World.size_alloc, World.size_setCell, World.size_drew, World.heap_drewN] at hcc)); go_simp; first | exact hR | (fail))
  simp only [Act.put, List.setIfInBounds_toArray, List.set_cons_zero, List.set_cons_succ]
  apply miz_take (i := 6)
  · (simp only [List.getElem?_toArray, List.getElem?_cons_succ, List.getElem?_cons_zero] <;> rfl)
  · kernel_rfl
  · exact fun _ _ d _ _ h => by cases d <;> exact h
  · kernel_rfl
  · first | exact want_0 rfl | exact want_b rfl rfl rfl (by with_reducible rfl)
  · intro wq hwq R hR; ((have hcc := SX.lo hwq (by first | omega | (simp; omega) | (simp; done)); (try simp only [World.size_alloc, World.size_setCell, World.size_drew, World.heap_drewN] at hcc)); go_simp; first | exact hR | (fail))
  simp only [Act.put, List.setIfInBounds_toArray, List.set_cons_zero, List.set_cons_succ]
  apply miz_take (i := 7)
  · (simp only [List.getElem?_toArray, List.getElem?_cons_succ, List.getElem?_cons_zero] <;> rfl)
  · kernel_rfl
  · exact fun _ _ d _ _ h => by cases d <;> exact h
  · kernel_rfl
  · first | exact want_0 rfl | exact want_b rfl rfl rfl (by with_reducible rfl)
  · intro wq hwq R hR; ((have hcc := SX.lo hwq (by first | omega | (simp; omega) | (simp; done)); (try simp only [World.size_alloc, World.size_setCell, World.size_drew, World.heap_drewN] at hcc)); go_simp; first | exact hR | (fail))
  simp only [Act.put, List.setIfInBounds_toArray, List.set_cons_zero, List.set_cons_succ]
  refine miz_one (i := 4) (by kernel_rfl) (by (simp only [List.getElem?_toArray, List.getElem?_cons_succ, List.getElem?_cons_zero] <;> rfl)) (by first | exact want_0 rfl | exact want_b rfl rfl rfl (by with_reducible rfl)) (fun w5 hw5 K hK => ?_)
  obtain ⟨hcw5, hfw5⟩ := bcell hw5
  have hzw5 := bsize hw5
  (try simp only [World.size_alloc, World.size_setCell, World.size_drew, World.heap_drewN] at hcw5 hfw5 hzw5)
  go_simp
  have hx5 := ext_trans hx4 hw5
  refine (hcl.out w5 (h.ext hx5)).mono ?_
  rintro e w6 ⟨v, rfl, hown6, hw6⟩
  have hz6 := bsize hw6
  refine hK _ _ (SX.of hw6) ?_
  clear hK K
  (try simp only [Act.put, List.setIfInBounds_toArray, List.set_cons_zero, List.set_cons_succ])
  obtain ⟨g, cap, rfl⟩ := ownsRow_succ (k := us.length - 1) (by rw [show us.length - 1 + 1 = us.length from by omega]; exact hown6)
  rw [show us.length - 1 + 1 = us.length from by omega] at hown6 ⊢
  have hg := hown6.lt g rfl
  have hfl6 := fl_own hown6 rfl
  clear hown6
  refine miz_one (i := 8) (by kernel_rfl) (by (simp only [List.getElem?_toArray, List.getElem?_cons_succ, List.getElem?_cons_zero] <;> rfl)) (by first | exact want_0 rfl | exact want_b rfl rfl rfl (by with_reducible rfl)) (fun w7 hw7 K hK => ?_)
  obtain ⟨hcw7, hfw7⟩ := bcell hw7
  have hzw7 := bsize hw7
  (try simp only [World.size_alloc, World.size_setCell, World.size_drew, World.heap_drewN] at hcw7 hfw7 hzw7)
  go_simp
  have hg7 : g < w7.heap.size := by omega
  refine (delete_any us g cap i w7 (hfl6.of_block (hw7.block g hg.2)) hi).mono ?_
  rintro e w8 ⟨rfl, hfl8, hg8⟩
  have hz8 := hg8.size
  refine hK _ _ (SX.grown hg8 (fun r e => by cases e; omega)) ?_
  clear hK K
  (try simp only [Act.put, List.setIfInBounds_toArray, List.set_cons_zero, List.set_cons_succ])
  have hS8 : SX w4.heap.size w4 w8 := ((SX.of hw5).trans (SX.of hw6)).trans ((SX.of hw7).trans (SX.grown hg8 (fun r e => by cases e; omega)))
  have hcc8 := hS8.lo (Nat.le_refl _)
  have hff8 := hS8.fr (Nat.le_refl _)
  have hsz8 := hS8.size
  have hln : Hid (us.length - 1 = (delU p us).length) := Lib.hid (by rw [← hfin.out, List.length_eraseIdx_of_lt hi])
  have hlo8 : w.heap.size + 1 + 1 ≤ w8.heap.size := by omega
  have l0w8 : w.heap.size < w8.heap.size := by omega
  have l1w8 : w.heap.size + 1 < w8.heap.size := by omega
  have l2w8 : w.heap.size + 1 + 1 < w8.heap.size := by omega
  clear hcw5 hfw5 hcw7 hfw7 hiw hi0
  apply miz_take (i := 9)
  · (simp only [List.getElem?_toArray, List.getElem?_cons_succ, List.getElem?_cons_zero] <;> rfl)
  · kernel_rfl
  · exact fun _ _ d _ _ h => by cases d <;> exact h
  · kernel_rfl
  · first | exact want_0 rfl | exact want_b rfl rfl rfl (by with_reducible rfl)
  · intro wq hwq R hR; ((have hcc := SX.lo hwq (by first | omega | (simp; omega) | (simp; done)); (try simp only [World.size_alloc, World.size_setCell, World.size_drew, World.heap_drewN] at hcc)); go_simp; first | exact hR | (fail))
  simp only [Act.put, List.setIfInBounds_toArray, List.set_cons_zero, List.set_cons_succ]
  refine miz_one (i := 10) (by kernel_rfl) (by (simp only [List.getElem?_toArray, List.getElem?_cons_succ, List.getElem?_cons_zero] <;> rfl)) (by first | exact want_0 rfl | exact want_b rfl rfl rfl (by with_reducible rfl)) (fun w9 hw9 K hK => ?_)
  obtain ⟨hcw9, hfw9⟩ := bcell hw9
  have hzw9 := bsize hw9
  (try simp only [World.size_alloc, World.size_setCell, World.size_drew, World.heap_drewN] at hcw9 hfw9 hzw9)
  go_simp
  refine hK _ _ (((SX.setCell (by omega) _).trans (SX.setCell (by omega) _)).trans (SX.setCell (by omega) _)) ?_
  clear hK K
  (try simp only [Act.put, List.setIfInBounds_toArray, List.set_cons_zero, List.set_cons_succ])
  apply miz_take (i := 11)
  · (simp only [List.getElem?_toArray, List.getElem?_cons_succ, List.getElem?_cons_zero] <;> rfl)
  · kernel_rfl
  · exact fun _ _ d _ _ h => by cases d <;> exact h
  · kernel_rfl
  · first | exact want_0 rfl | exact want_b rfl rfl rfl (by with_reducible rfl)
  · intro wq hwq R hR; ((have hcc := SX.lo hwq (by first | omega | (simp; omega) | (simp; done)); (try simp only [World.size_alloc, World.size_setCell, World.size_drew, World.heap_drewN] at hcc)); go_simp; first | exact hR | (fail))
  simp only [Act.put, List.setIfInBounds_toArray, List.set_cons_zero, List.set_cons_succ]
  refine miz_nil (by kernel_rfl) ?_
  intro w10 hw10
  have hcw10 := (bcell hw10).1
  simp only [World.size_setCell] at hcw10
  have l2w9 : w.heap.size + 1 + 1 < w9.heap.size := by omega
  have hz10 := bsize hw10
  simp only [World.size_setCell] at hz10
  have hb9 : w9.heap[g]? = w8.heap[g]? := hw9.block g (by omega)
  have hb10 : w10.heap[g]? = w9.heap[g]? := by
    rw [hw10.block g (by simp only [World.size_setCell]; omega), block_setCell_ne _ (by show w.heap.size + 1 + 1 ≠ g; omega), block_setCell_ne _ (by show w.heap.size + 1 + 1 ≠ g; omega), block_setCell_ne _ (by show w.heap.size + 1 + 1 ≠ g; omega)]
  have hB4 : Bel w.heap.size w w4 := ⟨hx4, by omega⟩
  have hB8 : Bel w.heap.size w w8 := SX.bel hB4 hS8 (by omega)
  have hB10 : Bel w.heap.size w w10 := ((((hB8.call hw9).setCell0 (by omega) _).setCell0 (by omega) _).setCell0 (by omega) _).call hw10
  go_wp2_with fail
  refine bodyPost_ret (v := .tuple #[.agg #[.int .i64 root.at_, .int .i64 root.len, .slice (some ⟨g, 0, none⟩) (us.length - 1) cap], .int .i64 0]) ?_ rfl (.inl ⟨rfl, some ⟨g, 0, none⟩, cap, by rw [hln.out], ?_, hB10.bel⟩)
  · simp [results, Try.results16, go_sem, hcw1, hcw4, hcc8, hcw9, hcw10, l2w1, l2w4, l2w8, l2w9]
  · rw [← hfin.out]
    exact Fl.sl ((hfl8.of_block hb9).of_block hb10) (by show w.heap.size ≤ g; omega)
theorem free_any {A : Area} (root : Pfx) (us : List Pfx) (uo : Option Addr) (ucap : Nat) (p : Pfx) (w : World) (h : Sl A w 2 Pfx.R uo ucap us) :
    Calls Try.prog 16 #[.agg #[.int .i64 root.at_, .int .i64 root.len, .slice uo us.length ucap], .agg #[.int .i64 p.at_, .int .i64 p.len]] w (SpOut w (freeE root us p) root (delU p us)) := by
  by_cases hc : freeE root us p = 0
  · rw [hc]; exact free_ok root us uo ucap p w h hc
  · exact (free_err root us uo ucap p w h _ rfl hc).mono fun e w' ⟨h1, h2⟩ => .inr ⟨hc, h1, h2⟩
end Go.Proofs.Ytflbpkgnadjokaa
namespace Go.Proofs.Ytflbpkgnadjokaa
open Go Go.RowKit Go.Proofs
set_option maxRecDepth 100000
set_option maxHeartbeats 1000000 in
set_option maxRecDepth 100000 in
theorem samePrefixes_any {A B : Area} (l m : List Pfx) (ao bo : Option Addr) (cap cap2 : Nat) (w : World) (h : Sl A w 2 Pfx.R ao cap l) (h' : Sl B w 2 Pfx.R bo cap2 m) :
    Calls Try.prog 14 #[.slice ao l.length cap, .slice bo m.length cap2] w fun e w' => e = .returned (.bool (decide (l = m))) ∧ Ext w w' := by
  have hcl := h.cap_le
  have hcm := h.cap_max
  have hcl' := h'.cap_le
  have hcm' := h'.cap_max
  obtain ⟨r, hr⟩ : ∃ r, r = decide (l = m) := ⟨_, rfl⟩
  rw [← hr]
  replace hr := Lib.hid hr
  by_cases hlen : l.length = m.length
  · have hlenI : ((l.length : Int) != (m.length : Int)) = false := by rw [hlen]; simp
    rw [hlen] at hlenI
    rw [hlen]
    rw [hlen] at hcl
    replace hlen := Lib.hid hlen
    go_enter Try.func14, Try.ntmps14
    go_wp2_with fail
    go_loopw [5] (fun s5 wr => ∃ k : Nat, k ≤ m.length ∧ s5 = .int .i64 k ∧ Hid (∀ j (h : j < l.length) (h' : j < m.length), j < k → l[j] = m[j]) ∧ Ext w wr) (fun s5 _ => m.length - (intOf s5).toNat)
    case atStart => exact ⟨0, Nat.zero_le _, rfl, Lib.hid (fun j _ _ hj => absurd hj (Nat.not_lt_zero _)), Below.refl _ _⟩
    case round =>
      obtain ⟨k, hk, rfl, hall, hx⟩ := hrel
      by_cases hlt : k < m.length
      · have hltI : (k : Int) < (m.length : Int) := by omega
        have hltl : k < l.length := by rw [hlen.out]; exact hlt
        obtain ⟨b, off, cs, rfl, -, -, hR, hcs⟩ := h.elem k hltl
        obtain ⟨b', off', cs', rfl, -, -, hR', hcs'⟩ := h'.elem k hlt
        replace hcs := cellsAt_ext hx hcs
        replace hcs' := cellsAt_ext hx hcs'
        unfold Pfx.R at hR hR'
        subst hR hR'
        obtain ⟨k0, k1⟩ := cellsAt_2 hcs
        obtain ⟨m0, m1⟩ := cellsAt_2 hcs'
        have lb := lt_of_cell k0
        have lb' := lt_of_cell m0
        obtain ⟨x, hxx⟩ : ∃ x, x = l[k] := ⟨_, rfl⟩
        obtain ⟨y, hyy⟩ : ∃ y, y = m[k] := ⟨_, rfl⟩
        rw [← hxx] at k0 k1
        rw [← hyy] at m0 m1
        replace hxx := Lib.hid hxx
        replace hyy := Lib.hid hyy
        clear hcs hcs' h h'
        by_cases e0 : x.at_ = y.at_
        · by_cases e1 : x.len = y.len
          · have he : x = y := by cases x; cases y; simp_all
            replace he := Lib.hid he
            go_wp2_with fail
            refine region_mix (by kernel_rfl) (by kernel_rfl) (fun _ _ d _ _ h => by cases d <;> exact h) ?_
            repeat (first | ((first | refine mix_skip_t rfl rfl rfl (by with_reducible rfl) ?_ | refine mix_skip_f rfl rfl rfl (by with_reducible rfl) ?_ | refine mix_skip_u rfl rfl rfl (by with_reducible rfl) ?_); simp only [Act.put, List.setIfInBounds_toArray, List.set_cons_zero, List.set_cons_succ]) | (apply mix_take; (first | exact want_0 rfl | exact want_b rfl rfl rfl (by with_reducible rfl)); intro wq hwq R hR; ((have hcc := (bcell hwq).1; (try simp only [World.size_alloc, World.size_setCell, World.size_drew, World.heap_drewN] at hcc)); go_simp; first | exact hR | (fail)); simp only [Act.put, List.setIfInBounds_toArray, List.set_cons_zero, List.set_cons_succ]))
            refine mix_nil ?_
            intro w2 hw2
            obtain ⟨hcw2, hfw2⟩ := bcell hw2
            have hzw2 := bsize hw2
            (try simp only [World.size_alloc, World.size_setCell, World.size_drew, World.heap_drewN] at hcw2 hfw2 hzw2)
            go_wp2_with fail
            go_roundw
            case rel => exact ⟨k + 1, by omega, by go_num, Lib.hid (fun j hj hj' hjk => by
              rcases Nat.lt_or_eq_of_le (Nat.le_of_lt_succ hjk) with h1 | h1
              · exact hall.out j hj hj' h1
              · subst h1; rw [← hxx.out, ← hyy.out]; exact he.out), ext_trans hx hw2⟩
            case measure => simp [intOf]; omega
          · have hf : r = false := by rw [hr.out]; simp; intro h; subst h; exact e1 (by rw [hxx.out, hyy.out])
            replace hf := Lib.hid hf
            go_wp2_with fail
            refine region_mix (by kernel_rfl) (by kernel_rfl) (fun _ _ d _ _ h => by cases d <;> exact h) ?_
            repeat (first | ((first | refine mix_skip_t rfl rfl rfl (by with_reducible rfl) ?_ | refine mix_skip_f rfl rfl rfl (by with_reducible rfl) ?_ | refine mix_skip_u rfl rfl rfl (by with_reducible rfl) ?_); simp only [Act.put, List.setIfInBounds_toArray, List.set_cons_zero, List.set_cons_succ]) | (apply mix_take; (first | exact want_0 rfl | exact want_b rfl rfl rfl (by with_reducible rfl)); intro wq hwq R hR; ((have hcc := (bcell hwq).1; (try simp only [World.size_alloc, World.size_setCell, World.size_drew, World.heap_drewN] at hcc)); go_simp; first | exact hR | (fail)); simp only [Act.put, List.setIfInBounds_toArray, List.set_cons_zero, List.set_cons_succ]))
            refine mix_nil ?_
            intro w2 hw2
            obtain ⟨hcw2, hfw2⟩ := bcell hw2
            have hzw2 := bsize hw2
            (try simp only [World.size_alloc, World.size_setCell, World.size_drew, World.heap_drewN] at hcw2 hfw2 hzw2)
            go_wp2_with fail
            go_ret
            exact ⟨ret_bool hf.out.symm, ext_trans hx hw2⟩
        · have hf : r = false := by rw [hr.out]; simp; intro h; subst h; exact e0 (by rw [hxx.out, hyy.out])
          replace hf := Lib.hid hf
          go_wp2_with fail
          refine region_mix (by kernel_rfl) (by kernel_rfl) (fun _ _ d _ _ h => by cases d <;> exact h) ?_
          repeat (first | ((first | refine mix_skip_t rfl rfl rfl (by with_reducible rfl) ?_ | refine mix_skip_f rfl rfl rfl (by with_reducible rfl) ?_ | refine mix_skip_u rfl rfl rfl (by with_reducible rfl) ?_); simp only [Act.put, List.setIfInBounds_toArray, List.set_cons_zero, List.set_cons_succ]) | (apply mix_take; (first | exact want_0 rfl | exact want_b rfl rfl rfl (by with_reducible rfl)); intro wq hwq R hR; ((have hcc := (bcell hwq).1; (try simp only [World.size_alloc, World.size_setCell, World.size_drew, World.heap_drewN] at hcc)); go_simp; first | exact hR | (fail)); simp only [Act.put, List.setIfInBounds_toArray, List.set_cons_zero, List.set_cons_succ]))
          refine mix_nil ?_
          intro w2 hw2
          obtain ⟨hcw2, hfw2⟩ := bcell hw2
          have hzw2 := bsize hw2
          (try simp only [World.size_alloc, World.size_setCell, World.size_drew, World.heap_drewN] at hcw2 hfw2 hzw2)
          go_wp2_with fail
          go_ret
          exact ⟨ret_bool hf.out.symm, ext_trans hx hw2⟩
      · have hltI : ¬ (k : Int) < (m.length : Int) := by omega
        obtain rfl : k = m.length := by omega
        have hf : r = true := by
          rw [hr.out]; simp
          exact List.ext_getElem hlen.out fun j hj hj' => hall.out j hj hj' hj'
        replace hf := Lib.hid hf
        go_wp2_with fail
        go_ret
        exact ⟨ret_bool hf.out.symm, hx⟩
  · have hlenI : ((l.length : Int) != (m.length : Int)) = true := by simp; omega
    have hf : r = false := by rw [hr.out]; simp; intro h; exact hlen (by rw [h])
    replace hf := Lib.hid hf
    clear hlen h h'
    go_enter Try.func14, Try.ntmps14
    go_wp2_with fail
    go_ret
    exact ⟨ret_bool hf.out.symm, Below.refl _ _⟩
set_option maxHeartbeats 1000000 in
theorem sameSpaces_any {A B : Area} (p q : Pfx) (l m : List Pfx) (ao bo : Option Addr) (cap cap2 : Nat) (w : World) (h : Sl A w 2 Pfx.R ao cap l) (h' : Sl B w 2 Pfx.R bo cap2 m) :
    Calls Try.prog 19 #[.agg #[.int .i64 p.at_, .int .i64 p.len, .slice ao l.length cap], .agg #[.int .i64 q.at_, .int .i64 q.len, .slice bo m.length cap2]] w fun e w' => e = .returned (.bool (decide (p = q) && decide (l = m))) ∧ Ext w w' := by
  have hc := fun W (h : Sl A W 2 Pfx.R ao cap l) (h' : Sl B W 2 Pfx.R bo cap2 m) => samePrefixes_any l m ao bo cap cap2 W h h'
  obtain ⟨r, hr⟩ : ∃ r, r = decide (l = m) := ⟨_, rfl⟩
  simp only [← hr] at hc ⊢
  clear hr
  replace hc := Lib.hid hc
  by_cases e0 : p.at_ = q.at_
  · by_cases e1 : p.len = q.len
    · have he : decide (p = q) = true := by simp; cases p; cases q; simp_all
      rw [he]
      clear he
      go_enter Try.func19, Try.ntmps19
      go_wp2_with fail
      refine (hc.out _ (h.ext (ext_trans (ext_alloc _ _) (ext_alloc _ _))) (h'.ext (ext_trans (ext_alloc _ _) (ext_alloc _ _)))).mono ?_
      rintro e w1 ⟨rfl, hx1⟩
      go_wp2_with fail
      go_ret
      exact ⟨by simp, ext_trans (ext_trans (ext_alloc _ _) (ext_alloc _ _)) hx1⟩
    · have he : decide (p = q) = false := by simp; intro h; exact e1 (by rw [h])
      rw [he]
      clear he
      go_enter Try.func19, Try.ntmps19
      go_wp2_with fail
      go_ret
      exact ⟨by simp, ext_trans (ext_alloc _ _) (ext_alloc _ _)⟩
  · have he : decide (p = q) = false := by simp; intro h; exact e0 (by rw [h])
    rw [he]
    clear he
    go_enter Try.func19, Try.ntmps19
    go_wp2_with fail
    go_ret
    exact ⟨by simp, ext_trans (ext_alloc _ _) (ext_alloc _ _)⟩
end Go.Proofs.Ytflbpkgnadjokaa
namespace Go.Proofs.Ytflbpkgnadjokaa
open Go Go.RowKit Go.Proofs
set_option maxRecDepth 100000
def hRoot : Pfx := ⟨256, 8⟩
def hUs : List Pfx := [⟨320, 10⟩]
theorem hF_free {us : List Pfx} {n : Nat} {p : Pfx} (h : us.any p.meets = false) : holesF us n p = [p] := by
  cases n <;> simp [holesF, h]
theorem hF_used {us : List Pfx} {n : Nat} {p : Pfx} (h : us.any p.meets = true) (hc : us.contains p = true) : holesF us (n + 1) p = [] := by
  rw [holesF, if_pos h, if_pos hc]
theorem hF_split {us : List Pfx} {n : Nat} {p a b : Pfx} (h : us.any p.meets = true) (hc : us.contains p = false) (ha : p.low = a) (hb : p.high = b) : holesF us (n + 1) p = holesF us n a ++ holesF us n b := by
  rw [holesF, if_pos h, if_neg (by rw [hc]; exact Bool.false_ne_true), ha, hb]
theorem h_holes : holesS ⟨256, 8⟩ [⟨320, 10⟩] = [⟨256, 10⟩, ⟨384, 9⟩] := by
  unfold holesS
  rw [show ((16 : Int) - 8).toNat = 8 from rfl]
  rw [hF_split (n := 7) (a := ⟨256, 9⟩) (b := ⟨384, 9⟩) (by kernel_rfl) (by simp) (by kernel_rfl) (by kernel_rfl), hF_free (n := 7) (p := ⟨384, 9⟩) (by kernel_rfl)]
  rw [hF_split (n := 6) (a := ⟨256, 10⟩) (b := ⟨320, 10⟩) (by kernel_rfl) (by simp) (by kernel_rfl) (by kernel_rfl), hF_free (n := 6) (p := ⟨256, 10⟩) (by kernel_rfl), hF_used (n := 5) (p := ⟨320, 10⟩) (by kernel_rfl) (by simp)]
  rfl
theorem h_chk : chkS ⟨256, 8⟩ [⟨320, 10⟩] = 0 := by kernel_rfl
theorem h_fit : fitS ⟨256, 8⟩ [⟨320, 10⟩] 9 = (⟨384, 9⟩, true, 0) := by
  unfold fitS
  rw [if_pos h_chk, if_neg (by decide), h_holes]
  rfl
theorem h_claim : claimE ⟨256, 8⟩ [⟨320, 10⟩] ⟨256, 16⟩ = 0 := by kernel_rfl
theorem h_ins : insU ⟨256, 16⟩ [⟨320, 10⟩] = [⟨256, 16⟩, ⟨320, 10⟩] := by kernel_rfl
theorem h_free : freeE ⟨256, 8⟩ [⟨256, 16⟩, ⟨320, 10⟩] ⟨320, 10⟩ = 0 := by unfold freeE; rw [if_pos (by kernel_rfl), if_pos (by simp)]
theorem h_del : delU ⟨320, 10⟩ [⟨256, 16⟩, ⟨320, 10⟩] = [⟨256, 16⟩] := by simp [delU]
def HalfOut (w : World) (e : Ending) (w' : World) : Prop :=
  ∃ ao, e = .returned (.agg #[.int .i64 256, .int .i64 8, .slice ao 1 1]) ∧ Sl (fun b => w.heap.size ≤ b) w' 2 Pfx.R ao 1 [⟨320, 10⟩] ∧ Ext w w'
set_option maxHeartbeats 1000000 in
set_option maxRecDepth 100000 in
theorem half_any (w : World) : Calls Try.prog 33 #[] w (HalfOut w) := by
  go_enter Try.func33, Try.ntmps33
  go_wp2_with fail
  refine bodyPost_ret (v := .agg #[.int .i64 256, .int .i64 8, .slice (some ⟨w.heap.size + 1, 0, none⟩) 1 1]) ?_ rfl ⟨_, rfl, ⟨by decide, by decide, fun i hi => ?_⟩, ext_trans (ext_alloc _ _) (ext_alloc _ _)⟩
  · simp [results, Try.results33, go_sem]
  · obtain rfl : i = 0 := by simp at hi; omega
    refine ⟨w.heap.size + 1, 0, [.int .i64 320, .int .i64 10], rfl, Nat.le_succ _, rfl, rfl, fun j hj => ?_⟩
    have hb := block_new (w.alloc (.cells #[.int .i64 256, .int .i64 8, .slice (some ⟨w.heap.size + 1, 0, none⟩) 1 1] 26)) (.cells #[.int .i64 320, .int .i64 10] 23)
    rw [World.size_alloc] at hb
    match j, hj with
    | 0, _ => exact cell_of_block hb rfl
    | 1, _ => exact cell_of_block hb rfl
set_option maxHeartbeats 2000000 in
set_option maxRecDepth 100000 in
theorem spaceBegun_any (w : World) :
    Calls Try.prog 12 #[] w fun e w' => e = .returned (.bool true) ∧ Ext w w' := by
  have hft := fun (A : Area) uo W (h : Sl A W 2 Pfx.R uo 1 [⟨320, 10⟩]) => fit_any ⟨256, 8⟩ [⟨320, 10⟩] uo 1 9 W h
  have hho := fun (A : Area) uo W (h : Sl A W 2 Pfx.R uo 1 [⟨320, 10⟩]) => holes_any ⟨256, 8⟩ [⟨320, 10⟩] uo 1 W h
  have hcm := fun (A : Area) uo W (h : Sl A W 2 Pfx.R uo 1 [⟨320, 10⟩]) => claim_any ⟨256, 8⟩ [⟨320, 10⟩] uo 1 ⟨256, 16⟩ W h
  have hfr := fun (A : Area) uo ucap W (h : Sl A W 2 Pfx.R uo ucap [⟨256, 16⟩, ⟨320, 10⟩]) => free_any ⟨256, 8⟩ [⟨256, 16⟩, ⟨320, 10⟩] uo ucap ⟨320, 10⟩ W h
  rw [h_fit] at hft
  rw [h_claim, h_ins] at hcm
  rw [h_free, h_del] at hfr
  unfold Pfx.v at hft
  simp only [List.length_cons, List.length_nil, Nat.zero_add, Nat.reduceAdd] at hft hho hcm hfr
  replace hft := Lib.hid hft
  replace hho := Lib.hid hho
  replace hcm := Lib.hid hcm
  replace hfr := Lib.hid hfr
  go_enter Try.func12, Try.ntmps12
  go_wp2_with fail
  refine (half_any _).mono ?_
  rintro e w1 ⟨a1, rfl, hs1, hx1⟩
  go_wp2_with fail
  refine (hft.out _ a1 w1 hs1).mono ?_
  rintro e w2 ⟨rfl, hw2⟩
  obtain ⟨hcw2, hfw2⟩ := bcell hw2
  have hzw2 := bsize hw2
  (try simp only [World.size_alloc, World.size_setCell, World.size_drew, World.heap_drewN] at hcw2 hfw2 hzw2)
  have hx2 := ext_trans hx1 hw2
  have l2 := lt_of_block (block_new w2 (.cells #[.int .i64 384, .int .i64 9] 23))
  clear hs1 hcw2 hfw2
  go_wp2_with fail
  refine (half_any _).mono ?_
  rintro e w3 ⟨a3, rfl, hs3, hx3⟩
  have p0 : w3.cell? ⟨w2.heap.size, 0, none⟩ = some (.int .i64 384) := keepCell hx3 (cell_of_block (block_new w2 (.cells #[.int .i64 384, .int .i64 9] 23)) rfl)
  have p1 : w3.cell? ⟨w2.heap.size, 1, none⟩ = some (.int .i64 9) := keepCell hx3 (cell_of_block (block_new w2 (.cells #[.int .i64 384, .int .i64 9] 23)) rfl)
  have hx23 : Ext w w3 := ext_trans (ext_trans hx2 (ext_alloc _ _)) hx3
  go_wp2_with fail
  refine (hho.out _ a3 w3 hs3).mono ?_
  rintro e w4 (⟨-, a4, cap4, rfl, hs4, hx4⟩ | ⟨hn, -⟩)
  · rw [h_holes] at hs4 ⊢
    have hx34 := ext_trans hx23 hx4
    replace p0 := keepCell hx4 p0
    replace p1 := keepCell hx4 p1
    obtain ⟨PB, hPB⟩ : ∃ PB, PB = w2.heap.size := ⟨_, rfl⟩
    rw [← hPB] at p0 p1 ⊢
    clear hPB
    simp only [List.length_cons, List.length_nil, Nat.zero_add, Nat.reduceAdd]
    go_wp2_with fail
    refine (half_any _).mono ?_
    rintro e w5 ⟨a5, rfl, hs5, hx5⟩
    replace p0 := keepCell hx5 p0
    replace p1 := keepCell hx5 p1
    replace hs4 := hs4.ext hx5
    go_wp2_with fail
    refine (hcm.out _ a5 w5 hs5).mono ?_
    rintro e w6 (⟨-, a6, cap6, rfl, hs6, hx6⟩ | ⟨hn, -⟩)
    · replace p0 := keepCell hx6 p0
      replace p1 := keepCell hx6 p1
      replace hs4 := hs4.ext hx6
      have hx6' := ext_trans (ext_trans hx34 hx5) hx6
      simp only [List.length_cons, List.length_nil, Nat.zero_add, Nat.reduceAdd]
      go_wp2_with fail
      have hr := hfr.out _ a6 cap6 _ (hs6.ext (ext_alloc _ (.cells #[.int .i64 256, .int .i64 8, .slice a6 2 cap6] 26)))
      have q0 := cell_of_block (o := 2) (block_new w6 (.cells #[.int .i64 256, .int .i64 8, .slice a6 2 cap6] 26)) rfl
      obtain ⟨SB, hSB⟩ : ∃ SB, SB = w6.heap.size := ⟨_, rfl⟩
      rw [← hSB] at q0 ⊢
      clear hSB
      refine hr.mono ?_
      rintro e w7 (⟨-, a7, cap7, rfl, hs7, hx7⟩ | ⟨hn, -⟩)
      · replace p0 := keepCell hx7 (keepCell (ext_alloc _ _) p0)
        replace p1 := keepCell hx7 (keepCell (ext_alloc _ _) p1)
        replace q0 := keepCell hx7 q0
        replace hs4 := hs4.ext (ext_trans (ext_alloc _ _) hx7)
        have hx7' := ext_trans hx6' (ext_trans (ext_alloc _ _) hx7)
        have lPB := lt_of_cell p0
        have lSB := lt_of_cell q0
        clear hx7 hr hs7 hs6 hs5
        simp only [List.length_cons, List.length_nil, Nat.zero_add, Nat.reduceAdd]
        go_wp2_with fail
        have hlen8 : (w7.alloc (.cells #[.int .i64 256, .int .i64 8, .slice a7 1 cap7] 26)).heap.size = w7.heap.size + 1 := World.size_alloc _ _
        have hs8 : Sl (fun _ => True) ((w7.alloc (.cells #[.int .i64 256, .int .i64 8, .slice a7 1 cap7] 26)).alloc (.cells #[.int .i64 256, .int .i64 10, .int .i64 384, .int .i64 9] 23)) 2 Pfx.R (some ⟨w7.heap.size + 1, 0, none⟩) 2 [⟨256, 10⟩, ⟨384, 9⟩] := by
          have hb := block_new (w7.alloc (.cells #[.int .i64 256, .int .i64 8, .slice a7 1 cap7] 26)) (.cells #[.int .i64 256, .int .i64 10, .int .i64 384, .int .i64 9] 23)
          rw [hlen8] at hb
          refine ⟨by decide, by decide, fun i hi => ?_⟩
          match i, hi with
          | 0, _ =>
            refine ⟨w7.heap.size + 1, 0, [.int .i64 256, .int .i64 10], rfl, trivial, rfl, rfl, fun j hj => ?_⟩
            match j, hj with
            | 0, _ => exact cell_of_block hb rfl
            | 1, _ => exact cell_of_block hb rfl
          | 1, _ =>
            refine ⟨w7.heap.size + 1, 0, [.int .i64 384, .int .i64 9], rfl, trivial, rfl, rfl, fun j hj => ?_⟩
            match j, hj with
            | 0, _ => exact cell_of_block (o := 2) hb rfl
            | 1, _ => exact cell_of_block (o := 3) hb rfl
        have hsp := samePrefixes_any [⟨256, 10⟩, ⟨384, 9⟩] [⟨256, 10⟩, ⟨384, 9⟩] a4 _ cap4 2 _ (hs4.ext (ext_trans (ext_alloc _ _) (ext_alloc _ _))) hs8
        rw [decide_eq_true rfl] at hsp
        refine hsp.mono ?_
        rintro e w9 ⟨rfl, hx9⟩
        have q9 := keepCell hx9 (keepCell (ext_alloc _ _) (keepCell (ext_alloc _ _) q0))
        have r9 := keepCell hx9 (keepCell (ext_alloc _ _) (cell_of_block (o := 2) (block_new w7 (.cells #[.int .i64 256, .int .i64 8, .slice a7 1 cap7] 26)) rfl))
        have hx9' := ext_trans hx7' (ext_trans (ext_trans (ext_alloc _ _) (ext_alloc _ _)) hx9)
        clear hsp hs8 hs4
        go_wp2_with fail
        go_ret
        exact ⟨rfl, hx9'⟩
      · exact absurd rfl hn
    · exact absurd rfl hn
  · exact absurd h_chk hn
end Go.Proofs.Ytflbpkgnadjokaa
