/- space: Holes. -/
import Derived.Test.YtflbpkgnadjokaaSpace6
import Derived.Test.YtflbpkgnadjokaaOwn
namespace Go.Proofs.Ytflbpkgnadjokaa
open Go Go.RowKit Go.Proofs
def ColOut (w : World) (L : List Pfx) (e : Ending) (w' : World) : Prop :=
  ∃ ao cap, e = .returned (.slice ao L.length cap) ∧ Sl (fun b => w.heap.size ≤ b) w' 2 Pfx.R ao cap L ∧ Ext w w'
theorem col_out {w w' : World} {L : List Pfx} {v : Value} (h : w'.ownsRow (w.heap.size + 1) 23 2 v L.length (L.flatMap pcells)) (hx : Ext w w') : ColOut w L (.returned v) w' := by
  obtain ⟨ao, cap, rfl, hs⟩ := sl_own (A := fun b => w.heap.size ≤ b) h rfl (fun _ _ => rfl) (fun b hb => by omega)
  exact ⟨ao, cap, rfl, hs.mono fun cs x _ e => e, hx⟩
theorem collect_any (us : List Pfx) (uo : Option Addr) (ucap : Nat) (p : Pfx) (n : Nat) (hn : 16 - p.len = (n : Int)) (hn16 : n ≤ 16) (hr : p.right = true) (b1 b2 : Nat) (w : World)
    (c0 : w.cell? ⟨b1, 0, none⟩ = some (.int .i64 p.at_)) (c1 : w.cell? ⟨b1, 1, none⟩ = some (.int .i64 p.len)) (c2 : w.cell? ⟨b2, 0, none⟩ = some (.slice uo us.length ucap)) {A : Area} (h : Sl A w 2 Pfx.R uo ucap us) :
    Calls Try.prog 25 #[.func (.func 43) #[] #[.pointer (some ⟨b1, 0, none⟩), .pointer (some ⟨b2, 0, none⟩)]] w (ColOut w (holesF us n p)) := by
  have hc := Lib.hid (appendSeq_any us uo ucap p n hn hn16 hr b1 b2 w c0 c1 c2 h)
  clear c0 c1 c2 h hr
  go_enter Try.func25, Try.ntmps25
  go_wp2_with fail
  refine hc.out.mono ?_
  rintro e w1 ⟨v, rfl, hrow, hx⟩
  have ho := col_out hrow hx
  clear hrow
  go_wp2_with fail
  go_ret
  exact ho
def HolesOut (w : World) (root : Pfx) (us : List Pfx) (e : Ending) (w' : World) : Prop :=
  (chkS root us = 0 ∧ ∃ ao cap, e = .returned (.tuple #[.slice ao (holesS root us).length cap, .int .i64 0]) ∧ Sl (fun b => w.heap.size ≤ b) w' 2 Pfx.R ao cap (holesS root us) ∧ Ext w w') ∨
  (chkS root us ≠ 0 ∧ e = .returned (.tuple #[.slice none 0 0, .int .i64 (chkS root us)]) ∧ Ext w w')
set_option maxHeartbeats 1000000 in
theorem holes_any {A : Area} (root : Pfx) (us : List Pfx) (uo : Option Addr) (ucap : Nat) (w : World) (h : Sl A w 2 Pfx.R uo ucap us) :
    Calls Try.prog 8 #[.agg #[.int .i64 root.at_, .int .i64 root.len, .slice uo us.length ucap]] w (HolesOut w root us) := by
  have hck := fun W (h : Sl A W 2 Pfx.R uo ucap us) => spaceCheck_any root us uo ucap W h
  by_cases h0 : chkS root us = 0
  · have hroot : root.right = true := by
      unfold chkS at h0
      split at h0 <;> (try split at h0) <;> simp_all [Pfx.right, rightB]
    obtain ⟨g1, g2, -⟩ := right_bd hroot
    have hcol := fun (b1 b2 : Nat) W (hs : Sl A W 2 Pfx.R uo ucap us) c0 c1 c2 => collect_any us uo ucap root (16 - root.len).toNat (by omega) (by omega) hroot b1 b2 W c0 c1 c2 hs
    rw [h0] at hck
    have hwk := fun W => walk_any root uo us.length ucap W
    unfold Pfx.v at hwk
    replace hwk := Lib.hid hwk
    replace hck := Lib.hid hck
    replace hcol := Lib.hid hcol
    replace h0 := Lib.hid h0
    clear hroot
    go_enter Try.func8, Try.ntmps8
    go_wp2_with fail
    refine (hck.out _ (h.ext (ext_alloc _ _))).mono ?_
    rintro e w1 ⟨rfl, hw1⟩
    obtain ⟨hcw1, hfw1⟩ := bcell hw1
    have hzw1 := bsize hw1
    (try simp only [World.size_alloc, World.size_setCell, World.size_drew, World.heap_drewN] at hcw1 hfw1 hzw1)
    have hx1 := ext_trans (ext_alloc _ _) hw1
    have l1 : w.heap.size < w1.heap.size := by omega
    go_wp2_with fail
    refine (hwk.out _).mono ?_
    rintro e w2 ⟨rfl, rfl⟩
    go_wp2_with fail
    refine (hcol.out _ _ _ (((h.ext hx1).ext (ext_alloc _ _)).ext (ext_alloc _ _)) (by simp) (by simp) (by simp)).mono ?_
    rintro e w3 ⟨ao, cap, rfl, hs3, hx3⟩
    have ho : HolesOut w root us (.returned (.tuple #[.slice ao (holesS root us).length cap, .int .i64 0])) w3 := .inl ⟨h0.out, ao, cap, rfl, by
      refine ⟨hs3.cap_le, hs3.cap_max, fun i hi => ?_⟩
      obtain ⟨b, off, cs, q1, q2, q3, q4, q5⟩ := hs3.elem i hi
      exact ⟨b, off, cs, q1, by simp at q2; omega, q3, q4, q5⟩, ext_trans hx1 (ext_trans (ext_trans (ext_alloc _ _) (ext_alloc _ _)) hx3)⟩
    unfold holesS at ho
    clear hs3
    replace ho := Lib.hid ho
    go_wp2_with fail
    go_ret2
    exact ho.out
  · obtain ⟨c, hc⟩ : ∃ c, c = chkS root us := ⟨_, rfl⟩
    have ho : ∀ W', Ext w W' → HolesOut w root us (.returned (.tuple #[.slice none 0 0, .int .i64 c])) W' := fun W' hx => .inr ⟨h0, by rw [hc], hx⟩
    rw [← hc] at hck h0
    have hne : (c != 0) = true := by simpa using h0
    clear h0 hc
    replace hck := Lib.hid hck
    replace ho := Lib.hid ho
    go_enter Try.func8, Try.ntmps8
    go_wp2_with fail
    refine (hck.out _ (h.ext (ext_alloc _ _))).mono ?_
    rintro e w1 ⟨rfl, hw1⟩
    obtain ⟨hcw1, hfw1⟩ := bcell hw1
    have hzw1 := bsize hw1
    (try simp only [World.size_alloc, World.size_setCell, World.size_drew, World.heap_drewN] at hcw1 hfw1 hzw1)
    go_wp2_with fail
    go_ret2
    exact ho.out _ (ext_trans (ext_alloc _ _) hw1)
end Go.Proofs.Ytflbpkgnadjokaa
