/- wire: Read, CmdFrom and Frame of any text. -/
import Derived.Test.YtbebjifnhjlkiaaWire8
namespace Go.Proofs.Ytbebjifnhjlkiaa
open Go Go.RowKit Go.Proofs
def zeroC : Cmd := ⟨0, 0, 0, 0, 0, 0, 0, 0, 0, 0⟩
def cmdAll (s : ByteArray) : Cmd := if s.size = 37 then cmdOf (numsOf s) else zeroC
def readV (s : ByteArray) : Value := .tuple #[.agg (cmdAll s).cs, .int .i64 (if s.size = 37 then 0 else 1)]
def cmdFromV (s : ByteArray) : Value := .tuple #[.agg (cmdAll s).cs, .bool (decide (s.size = 37))]
def frameV (s : ByteArray) : Value := if s.size ≤ 255 then .tuple #[.string (frameS s), .int .i64 0] else .tuple #[.string ⟨#[]⟩, .int .i64 2]
set_option maxHeartbeats 1000000 in
set_option maxRecDepth 100000 in
theorem read_all (s : ByteArray) (w : World) :
    Calls Try.prog 9 #[.string s] w fun e w' => e = .returned (readV s) ∧ Ext w w' := by
  by_cases h : s.size = 37
  · have := read_any s w h
    simpa [readV, cmdAll, h] using this
  · have hv : readV s = .tuple #[.agg zeroC.cs, .int .i64 1] := by simp [readV, cmdAll, h]
    rw [hv]
    have hsz : ((s.size : Int) != 37) = true := by simp; omega
    clear hv h
    unfold zeroC Cmd.cs
    go_enter Try.func9, Try.ntmps9
    go_wp2_with fail
    refine (places_any _ _ (.int .i64 0) (by go_simp)).mono ?_
    rintro e w1 ⟨rfl, rfl⟩
    go_wp2_with fail
    refine bodyPost_ret (v := .tuple #[.agg #[.int .i64 0, .int .i64 0, .int .i64 0, .int .i64 0, .int .i64 0, .int .i64 0, .int .i64 0, .int .i64 0, .int .i64 0, .int .i64 0], .int .i64 1]) ?_ rfl ⟨rfl, Bel.bel (B := _) ?_⟩
    · simp [results, Try.results9, go_sem, World.cell?_alloc_some, World.cell?_setCell_same]
    · (repeat (first | with_reducible assumption | with_reducible exact Bel.refl _ | with_reducible refine Bel.alloc ?_ _ | with_reducible refine Bel.drewN ?_ _ | with_reducible refine Bel.drew ?_ | (with_reducible refine Bel.setCell ?_ (p := _) ?_ _; rotate_left; (first | exact Nat.le_refl _ | (simp; done) | omega | (simp; omega))) | refine Bel.call ?_ (by assumption)))
set_option maxHeartbeats 1000000 in
set_option maxRecDepth 100000 in
theorem cmdFrom_all (s : ByteArray) (w : World) :
    Calls Try.prog 10 #[.string s] w fun e w' => e = .returned (cmdFromV s) ∧ Ext w w' := by
  by_cases h : s.size = 37
  · have := cmdFrom_any s w h
    simpa [cmdFromV, cmdAll, h] using this
  · have hv : cmdFromV s = .tuple #[.agg zeroC.cs, .bool false] := by simp [cmdFromV, cmdAll, h]
    rw [hv]
    have hsz : ((s.size : Int) != 37) = true := by simp; omega
    clear hv h
    unfold zeroC Cmd.cs
    go_enter Try.func10, Try.ntmps10
    go_wp2_with fail
    refine bodyPost_ret (v := .tuple #[.agg #[.int .i64 0, .int .i64 0, .int .i64 0, .int .i64 0, .int .i64 0, .int .i64 0, .int .i64 0, .int .i64 0, .int .i64 0, .int .i64 0], .bool false]) ?_ rfl ⟨rfl, Bel.bel (B := _) ?_⟩
    · simp [results, Try.results10, go_sem, World.cell?_alloc_some, World.cell?_setCell_same]
    · (repeat (first | with_reducible assumption | with_reducible exact Bel.refl _ | with_reducible refine Bel.alloc ?_ _ | with_reducible refine Bel.drewN ?_ _ | with_reducible refine Bel.drew ?_ | (with_reducible refine Bel.setCell ?_ (p := _) ?_ _; rotate_left; (first | exact Nat.le_refl _ | (simp; done) | omega | (simp; omega))) | refine Bel.call ?_ (by assumption)))
set_option maxHeartbeats 1000000 in
theorem frame_all (s : ByteArray) (w : World) :
    Calls Try.prog 11 #[.string s] w fun e w' => e = .returned (frameV s) ∧ Ext w w' := by
  by_cases h : s.size ≤ 255
  · have := frame_any s w h
    simpa [frameV, h] using this
  · have hv : frameV s = .tuple #[.string ⟨#[]⟩, .int .i64 2] := by simp [frameV, h]
    rw [hv]
    clear hv
    go_enter Try.func11, Try.ntmps11
    go_wp2_with fail
    go_ret2
    exact ⟨rfl, (Bel.refl w).bel⟩
end Go.Proofs.Ytbebjifnhjlkiaa
