/- package slices at prefixes: IndexFunc, ContainsFunc. -/
import Derived.Test.YtflbpkgnadjokaaCells
import Derived.Test.YtflbpkgnadjokaaBase
namespace Go.Proofs.Ytflbpkgnadjokaa
open Go Go.RowKit Go.Proofs
set_option maxHeartbeats 1000000 in
theorem indexFunc_P {α : Type} {A : Area} {R : List Value → α → Prop} (g : Nat) (lb : Array Value) (eg : ∀ args w, (callFunc g args).run Try.prog w = .ok (.enter g args) w) (p : α → Bool) (l : List α) (ao : Option Addr) (cap : Nat) (w : World) (h : Sl A w 2 R ao cap l) (hp : PredP Try.prog g lb R p l w) :
    Calls Try.prog 55 #[.slice ao l.length cap, .func (.func g) #[] lb] w fun e w' => e = .returned (.int .i64 (idxOf p l)) ∧ Ext w w' := by
  have hcl := h.cap_le
  have hcm := h.cap_max
  obtain ⟨r, hr⟩ : ∃ r, r = idxOf p l := ⟨_, rfl⟩
  rw [← hr]
  replace hr := Lib.hid hr
  replace hp := Lib.hid hp
  go_enter Try.func55, Try.ntmps55
  go_wp2_with fail
  go_loopw [5, 8] (fun _ s8 wr => ∃ k : Nat, k ≤ l.length ∧ s8 = .int .i64 k ∧ Hid (∀ j (h : j < k) (h' : j < l.length), p l[j] = false) ∧ Ext w wr) (fun _ s8 _ => l.length - (intOf s8).toNat)
  case atStart => exact ⟨0, Nat.zero_le _, rfl, Lib.hid (fun j hj => absurd hj (Nat.not_lt_zero _)), Below.refl _ w⟩
  case round =>
    obtain ⟨k, hk, rfl, hall, hx⟩ := hrel
    by_cases hlt : k < l.length
    · have hltI : (k : Int) < (l.length : Int) := by omega
      obtain ⟨b, off, cs, rfl, -, hlen, hR, hcs⟩ := h.elem k hlt
      have hcall := hp.out wr hx l[k] (List.getElem_mem hlt) cs hR
      replace hcs := cellsAt_ext hx hcs
      obtain ⟨q, hq⟩ : ∃ q, q = p l[k] := ⟨_, rfl⟩
      rw [← hq] at hcall
      replace hq := Lib.hid hq
      clear h hR
      match cs, hlen with
      | [v0, v1], _ =>
        obtain ⟨k0, k1⟩ := cellsAt_2 hcs
        clear hcs
        replace hcall := Lib.hid hcall
        cases q
        case true =>
          go_wp2_with fail
          refine hcall.out.mono ?_
          rintro e w1 ⟨rfl, hx1⟩
          go_wp2_with fail
          go_ret
          exact ⟨ret_int (by rw [hr.out]; exact (idx_hit hlt hq.out.symm fun j hj => hall.out j hj (by omega)).symm), ext_trans hx hx1⟩
        case false =>
          go_wp2_with fail
          refine hcall.out.mono ?_
          rintro e w1 ⟨rfl, hx1⟩
          go_wp2_with fail
          go_roundw
          case rel => exact ⟨k + 1, by omega, by go_num, Lib.hid (fun j hj hj' => by
            rcases Nat.lt_or_eq_of_le (Nat.le_of_lt_succ hj) with h1 | h1
            · exact hall.out j h1 hj'
            · subst h1; exact hq.out.symm), ext_trans hx hx1⟩
          case measure => simp [intOf]; omega
    · have hltI : ¬ (k : Int) < (l.length : Int) := by omega
      obtain rfl : k = l.length := by omega
      go_wp2_with fail
      go_ret
      exact ⟨ret_int (by rw [hr.out]; exact (idx_none fun j hj => hall.out j hj hj).symm), hx⟩
theorem containsFunc_P {α : Type} {A : Area} {R : List Value → α → Prop} (g : Nat) (lb : Array Value) (eg : ∀ args w, (callFunc g args).run Try.prog w = .ok (.enter g args) w) (p : α → Bool) (l : List α) (ao : Option Addr) (cap : Nat) (w : World) (h : Sl A w 2 R ao cap l) (hp : PredP Try.prog g lb R p l w) :
    Calls Try.prog 48 #[.slice ao l.length cap, .func (.func g) #[] lb] w fun e w' => e = .returned (.bool (l.any p)) ∧ Ext w w' := by
  have hc := indexFunc_P g lb eg p l ao cap w h hp
  have ha := idx_any p l
  obtain ⟨r, hr⟩ : ∃ r, r = idxOf p l := ⟨_, rfl⟩
  rw [← hr] at hc ha
  rw [← ha]
  clear hr ha h hp
  replace hc := Lib.hid hc
  go_enter Try.func48, Try.ntmps48
  go_wp2_with fail
  refine hc.out.mono ?_
  rintro e w1 ⟨rfl, hx1⟩
  go_wp2_with fail
  go_ret
  exact ⟨rfl, hx1⟩
end Go.Proofs.Ytflbpkgnadjokaa
