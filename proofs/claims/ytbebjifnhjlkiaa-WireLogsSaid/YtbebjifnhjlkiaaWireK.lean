/- wire's laws: WireLogs. -/
import Derived.Test.YtbebjifnhjlkiaaWireI
namespace Go.Proofs.Ytbebjifnhjlkiaa
open Go Go.RowKit Go.Proofs
theorem Sl.ext {α : Type} {A : Area} {w w' : World} {k : Nat} {R : List Value → α → Prop} {ao : Option Addr} {cap : Nat} {l : List α} (h : Sl A w k R ao cap l) (hx : Ext w w') : Sl A w' k R ao cap l := by
  refine ⟨h.cap_le, h.cap_max, fun i hi => ?_⟩
  obtain ⟨b, off, cs, h1, h2, h3, h4, h5⟩ := h.elem i hi
  exact ⟨b, off, cs, h1, h2, h3, h4, fun j hj => keepCell hx (h5 j hj)⟩
theorem Sl.nil {α : Type} {A : Area} {w : World} {k : Nat} {R : List Value → α → Prop} : Sl A w k R none 0 ([] : List α) :=
  ⟨Nat.le_refl _, by decide, fun i hi => by simp at hi⟩
theorem same_n {A B : Area} (l m : List Cmd) (n : Nat) (hl : l.length = n) (hlm : l = m) (ao bo : Option Addr) (cap cap2 : Nat) (w : World) (h : Sl A w 10 Cmd.R ao cap l) (h' : Sl B w 10 Cmd.R bo cap2 m) :
    Calls Try.prog 18 #[.slice ao n cap, .slice bo n cap2] w fun e w' => e = .returned (.bool true) ∧ Ext w w' := by
  subst hlm
  subst hl
  have := sameCmds_any l l ao bo cap cap2 w h h'
  simpa using this
theorem logV_form (l : List Cmd) : ∃ x y, logV l = .tuple #[.string x, .int .i64 y] := by
  unfold logV
  split
  · split
    · exact ⟨_, _, rfl⟩
    · exact ⟨_, _, rfl⟩
  · exact ⟨_, _, rfl⟩
set_option maxHeartbeats 2000000 in
set_option maxRecDepth 100000 in
theorem wireLogs_any {A : Area} (l : List Cmd) (ao : Option Addr) (cap : Nat) (s : ByteArray) (w : World) (h : Sl A w 10 Cmd.R ao cap l) :
    Calls Try.prog 4 #[.slice ao l.length cap, .string s] w fun e w' => e = .returned (.bool true) ∧ Ext w w' := by
  obtain ⟨x, y, hv⟩ := logV_form l
  have hl := fun W (hs : Sl A W 10 Cmd.R ao cap l) => log_any l ao cap W hs
  have hl' := fun W (hs : Sl A W 10 Cmd.R ao cap l) => logOf_any l ao cap W hs
  rw [hv] at hl hl'
  clear hv
  replace hl := Lib.hid hl
  replace hl' := Lib.hid hl'
  go_enter Try.func4, Try.ntmps4
  go_wp2_with fail
  refine (hl.out _ h).mono ?_
  rintro e w1 ⟨rfl, hx1⟩
  go_wp2_with fail
  refine (hl'.out _ (h.ext hx1)).mono ?_
  rintro e w2 ⟨rfl, hx2⟩
  go_wp2_with fail
  refine (replay_all s _).mono ?_
  intro e w3 hr3
  rcases hr3 with ⟨hle, n, ao3, cap3, hR, rfl, hs3, hx3⟩ | ⟨hg, rfl, hw⟩
  · go_wp2_with fail
    refine (replayOf_all s _).mono ?_
    intro e w4 hr4
    rcases hr4 with ⟨-, n', ao4, cap4, hR', rfl, hs4, hx4⟩ | ⟨hg, rfl, hw⟩
    · obtain rfl := hR.unique hR'
      go_wp2_with fail
      refine (wireBegun_any _).mono ?_
      rintro e w5 ⟨rfl, hx5⟩
      go_wp2_with fail
      refine (same_n (cmdsOf s n) (cmdsOf s n) n (cmdsOf_length s n) rfl ao3 ao4 cap3 cap4 _ ((hs3.ext hx4).ext hx5) (hs4.ext hx5)).mono ?_
      rintro e w6 ⟨rfl, hx6⟩
      go_wp2_with fail
      go_ret
      exact ⟨rfl, ext_trans hx1 (ext_trans hx2 (ext_trans hx3 (ext_trans hx4 (ext_trans hx5 hx6))))⟩
    · exact absurd hg (by omega)
  · subst hw
    go_wp2_with fail
    refine (replayOf_all s _).mono ?_
    intro e w4 hr4
    rcases hr4 with ⟨hg', n', ao4, cap4, hR', rfl, hs4, hx4⟩ | ⟨hg', rfl, hw⟩
    · exact absurd hg (by omega)
    · subst hw
      go_wp2_with fail
      refine (wireBegun_any _).mono ?_
      rintro e w5 ⟨rfl, hx5⟩
      go_wp2_with fail
      refine (same_n (A := fun _ => True) (B := fun _ => True) [] [] 0 rfl rfl none none 0 0 _ Sl.nil Sl.nil).mono ?_
      rintro e w6 ⟨rfl, hx6⟩
      go_wp2_with fail
      go_ret
      exact ⟨rfl, ext_trans hx1 (ext_trans hx2 (ext_trans hx5 hx6))⟩
end Go.Proofs.Ytbebjifnhjlkiaa
