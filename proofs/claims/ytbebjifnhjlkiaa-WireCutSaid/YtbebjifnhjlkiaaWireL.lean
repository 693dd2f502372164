/- wire's laws: WireCut. -/
import Derived.Test.YtbebjifnhjlkiaaWireK
import Derived.Test.YtbebjifnhjlkiaaRead
namespace Go.Proofs.Ytbebjifnhjlkiaa
open Go Go.RowKit Go.Proofs
theorem logV_cases (l : List Cmd) : (l.all Cmd.ok = true ∧ l.length ≤ 200 ∧ logV l = .tuple #[.string (logS l), .int .i64 0]) ∨ ∃ y : Int, (y != 0) = true ∧ logV l = .tuple #[.string ⟨#[]⟩, .int .i64 y] := by
  unfold logV
  by_cases h : l.all Cmd.ok = true
  · by_cases h2 : l.length ≤ 200
    · exact .inl ⟨h, h2, by rw [if_pos h, if_pos h2]⟩
    · exact .inr ⟨2, rfl, by rw [if_pos h, if_neg h2]⟩
  · exact .inr ⟨3, rfl, by rw [if_neg h]⟩
theorem Sl.take {α : Type} {A : Area} {w : World} {k : Nat} {R : List Value → α → Prop} {ao : Option Addr} {cap : Nat} {l : List α} (h : Sl A w k R ao cap l) (n : Nat) : Sl A w k R ao cap (l.take n) := by
  refine ⟨Nat.le_trans (List.length_take_le' n l) h.cap_le, h.cap_max, fun i hi => ?_⟩
  have hi' : i < l.length := by rw [List.length_take] at hi; omega
  obtain ⟨b, off, cs, h1, h2, h3, h4, h5⟩ := h.elem i hi'
  exact ⟨b, off, cs, h1, h2, h3, by rw [List.getElem_take]; exact h4, h5⟩
theorem cut_replayed (l : List Cmd) (hl : l.length ≤ 200) (k : Nat) (hk : k ≤ 42 * l.length) (n : Nat) (h : Replayed ((logS l).extract 0 k) n) : n = k / 42 := by
  obtain ⟨t, ht, hts⟩ := log_cut l k hk
  rw [ht] at h
  have := log_replayed (l.take (k / 42)) (by rw [List.length_take]; omega) t hts
  have h2 := h.unique this
  rw [List.length_take] at h2
  omega
theorem cut_cmds (l : List Cmd) (hok : l.all Cmd.ok = true) (k : Nat) (hk : k ≤ 42 * l.length) : cmdsOf ((logS l).extract 0 k) (k / 42) = l.take (k / 42) := by
  obtain ⟨t, ht, hts⟩ := log_cut l k hk
  rw [ht, cmdsOf_log _ (List.all_eq_true.2 fun x hx => List.all_eq_true.1 hok x (List.mem_of_mem_take hx)) _ _ (by rw [List.length_take]; omega)]
  rw [List.take_take, Nat.min_self]
theorem take_cmds (l : List Cmd) (hok : l.all Cmd.ok = true) (tail : ByteArray) (n : Nat) (hn : l.length ≤ n) : (cmdsOf (logS l ++ tail) n).take l.length = l := by
  have h1 : (cmdsOf (logS l ++ tail) n).take l.length = cmdsOf (logS l ++ tail) l.length := by
    unfold cmdsOf
    rw [← List.map_take, List.take_range, Nat.min_eq_left hn]
  rw [h1, cmdsOf_log l hok tail _ (Nat.le_refl _), List.take_length]
set_option maxHeartbeats 2000000 in
set_option maxRecDepth 100000 in
theorem wireCut_any {A : Area} (l : List Cmd) (ao : Option Addr) (cap : Nat) (cut : Int) (tail : ByteArray) (w : World) (h : Sl A w 10 Cmd.R ao cap l) (hc : in64 cut) (ht : tail.size ≤ 9223372036854775807) :
    Calls Try.prog 5 #[.slice ao l.length cap, .int .i64 cut, .string tail] w fun e w' => e = .returned (.bool true) ∧ Ext w w' := by
  have hl := fun W (hs : Sl A W 10 Cmd.R ao cap l) => log_any l ao cap W hs
  rcases logV_cases l with ⟨hok, hlen, hv⟩ | ⟨y, hy, hv⟩
  · rw [hv] at hl
    clear hv
    have hz := logS_size l
    obtain ⟨S, hS⟩ : ∃ S, S = logS l := ⟨_, rfl⟩
    rw [← hS] at hl hz
    replace hl := Lib.hid hl
    have hz1 : S.size ≤ 8400 := by omega
    replace hz := Lib.hid hz
    replace hok := Lib.hid hok
    replace hS := Lib.hid hS
    have hcl := h.cap_le
    have hcm := h.cap_max
    go_enter Try.func5, Try.ntmps5
    go_wp2_with fail
    refine (hl.out _ h).mono ?_
    rintro e w1 ⟨rfl, hx1⟩
    go_wp2_with fail
    refine (choose_any _ _ _ hc.1 hc.2 (by omega)).mono ?_
    rintro e w2 ⟨rfl, rfl⟩
    obtain ⟨k, hk, hk1⟩ : ∃ k : Nat, absI cut % ((S.size : Int) + 1) = (k : Int) ∧ k ≤ S.size :=
      ⟨(absI cut % ((S.size : Int) + 1)).toNat, by have := Int.emod_nonneg (absI cut) (b := (S.size : Int) + 1) (by omega); omega, by have := Int.emod_lt_of_pos (absI cut) (b := (S.size : Int) + 1) (by omega); omega⟩
    rw [hk]
    clear hk
    go_wp2_with fail
    refine (replay_all _ _).mono ?_
    intro e w3 hr3
    rcases hr3 with ⟨-, n, ao3, cap3, hR, rfl, hs3, hx3⟩ | ⟨hg, -⟩
    · have hkl : k ≤ 42 * l.length := by rw [← hz.out]; exact hk1
      rw [hS.out] at hR
      obtain rfl := cut_replayed l hlen k hkl n hR
      have hcm3 := cut_cmds l hok.out k hkl
      rw [← hS.out] at hcm3
      rw [hcm3] at hs3
      clear hR hcm3
      have hq : (l.take (k / 42)).length = k / 42 := by rw [List.length_take]; omega
      replace hq := Lib.hid hq
      have hzI : (S.size : Int) = 42 * (l.length : Int) := by have := hz.out; omega
      have k1 : 42 * ((k : Int) / 42) ≤ k := by omega
      have k2 : (k : Int) / 42 ≤ cap := by omega
      have k3 : 0 ≤ (k : Int) / 42 := by omega
      go_wp2_with fail
      refine (same_n (l.take (k / 42)) (l.take (k / 42)) (k / 42) hq.out rfl ao3 ao cap3 cap _ hs3 (((h.ext hx1).ext hx3).take _)).mono ?_
      rintro e w4 ⟨rfl, hx4⟩
      by_cases htl : tail.size ≤ 4096
      · have htI : decide ((tail.size : Int) > 4096) = false := by simp; omega
        have hadd : ∀ W : World, (Op.stringOp .add S tail).run Try.prog W = .ok (.string (S ++ tail)) W := fun W => run_string_add_sum W S _ (by omega)
        go_wp2_with fail
        refine (replay_all _ _).mono ?_
        intro e w5 hr5
        rcases hr5 with ⟨-, n, ao5, cap5, hR, rfl, hs5, hx5⟩ | ⟨hg, -⟩
        · have hz5 := hs5.cap_le
          have hz6 := hs5.cap_max
          rw [cmdsOf_length] at hz5
          rw [hS.out] at hR
          have hnl := tail_replayed hlen hR
          have ht5 := hs5.take l.length
          rw [hS.out, take_cmds l hok.out tail n hnl] at ht5
          clear hs5 hR
          have hnI : decide ((n : Int) ≥ (l.length : Int)) = true := by simp; omega
          have h5 : (l.length : Int) ≤ cap5 := by omega
          go_wp2_with fail
          refine (wireBegun_any _).mono ?_
          rintro e w6 ⟨rfl, hx6⟩
          go_wp2_with fail
          refine (same_n l l l.length rfl rfl ao5 ao cap5 cap _ (ht5.ext hx6) (((((h.ext hx1).ext hx3).ext hx4).ext hx5).ext hx6)).mono ?_
          rintro e w7 ⟨rfl, hx7⟩
          go_wp2_with fail
          go_ret
          exact ⟨rfl, ext_trans hx1 (ext_trans hx3 (ext_trans hx4 (ext_trans hx5 (ext_trans hx6 hx7))))⟩
        · exact absurd hg (by rw [ByteArray.size_append]; omega)
      · have htI : decide ((tail.size : Int) > 4096) = true := by simp; omega
        clear htl
        go_wp2_with fail
        refine (wireBegun_any _).mono ?_
        rintro e w5 ⟨rfl, hx5⟩
        go_wp2_with fail
        go_ret
        exact ⟨rfl, ext_trans hx1 (ext_trans hx3 (ext_trans hx4 hx5))⟩
    · exact absurd hg (by simp [ByteArray.size_extract]; omega)
  · rw [hv] at hl
    clear hv
    replace hl := Lib.hid hl
    go_enter Try.func5, Try.ntmps5
    go_wp2_with fail
    refine (hl.out _ h).mono ?_
    rintro e w1 ⟨rfl, hx1⟩
    go_wp2_with fail
    refine (wireBegun_any _).mono ?_
    rintro e w5 ⟨rfl, hx5⟩
    go_wp2_with fail
    go_ret
    exact ⟨rfl, ext_trans hx1 hx5⟩
end Go.Proofs.Ytbebjifnhjlkiaa
