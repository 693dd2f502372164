/- wire: the reference's LogOf. -/
import Derived.Test.YtbebjifnhjlkiaaWire7
namespace Go.Proofs.Ytbebjifnhjlkiaa
open Go Go.RowKit Go.Proofs
theorem logS_snoc (l : List Cmd) (c : Cmd) : logS (l ++ [c]) = logS l ++ frameC c := by
  apply ByteArray.ext
  rw [ByteArray.data_append]
  simp [logS, logBytes_snoc]
theorem logS_size (l : List Cmd) : (logS l).size = 42 * l.length := by
  have := logBytes_length l
  show (logBytes l).toArray.size = _
  simpa using this
theorem cmd_ok {c : Cmd} (h : c.ok = true) : 0 ≤ c.op ∧ c.op ≤ 255 ∧ ∀ n ∈ c.nums, in32 n = true := by
  unfold Cmd.ok at h
  rw [Bool.and_eq_true] at h
  obtain ⟨h1, h2⟩ := h
  unfold within at h1
  rw [Bool.and_eq_true] at h1
  exact ⟨by simpa using h1.1, by simpa using h1.2, List.all_eq_true.1 h2⟩
set_option maxHeartbeats 1000000 in
set_option maxRecDepth 100000 in
theorem logOf_any {A : Area} (l : List Cmd) (ao : Option Addr) (cap : Nat) (w : World) (h : Sl A w 10 Cmd.R ao cap l) :
    Calls Try.prog 15 #[.slice ao l.length cap] w fun e w' => e = .returned (logV l) ∧ Ext w w' := by
  have hcl := h.cap_le
  have hcm := h.cap_max
  obtain ⟨r, hr⟩ : ∃ r, r = logV l := ⟨_, rfl⟩
  rw [← hr]
  replace hr := Lib.hid hr
  go_enter Try.func15, Try.ntmps15
  go_wp2_with fail
  go_loopw [5] (fun i wr => ∃ k : Nat, k ≤ l.length ∧ i = .int .i64 k ∧ (∀ c ∈ l.take k, c.ok = true) ∧ Bel w.heap.size w wr) (fun i _ => l.length - (intOf i).toNat)
  case atStart => exact ⟨0, by omega, rfl, by simp, Bel.refl w⟩
  case round =>
    obtain ⟨k, hk, rfl, hall, hbel⟩ := hrel
    have hle := hbel.le
    by_cases hlt : k < l.length
    · have hltI : (k : Int) < l.length := by omega
      obtain ⟨b, off, hao, -, hbw, hcells⟩ := h.cmd k hlt
      subst hao
      obtain ⟨c, hc⟩ : ∃ c, c = l[k] := ⟨_, rfl⟩
      rw [← hc] at hcells
      have k0 : wr.cell? ⟨b, off + k * 10, none⟩ = some (.int .i64 c.op) := hbel.cell hbw (hcells 0 _ rfl)
      have k1 : wr.cell? ⟨b, off + k * 10 + 1, none⟩ = some (.int .i64 c.a) := hbel.cell hbw (hcells 1 _ rfl)
      have k2 : wr.cell? ⟨b, off + k * 10 + 2, none⟩ = some (.int .i64 c.b) := hbel.cell hbw (hcells 2 _ rfl)
      have k3 : wr.cell? ⟨b, off + k * 10 + 3, none⟩ = some (.int .i64 c.c) := hbel.cell hbw (hcells 3 _ rfl)
      have k4 : wr.cell? ⟨b, off + k * 10 + 4, none⟩ = some (.int .i64 c.at_) := hbel.cell hbw (hcells 4 _ rfl)
      have k5 : wr.cell? ⟨b, off + k * 10 + 5, none⟩ = some (.int .i64 c.len) := hbel.cell hbw (hcells 5 _ rfl)
      have k6 : wr.cell? ⟨b, off + k * 10 + 6, none⟩ = some (.int .i64 c.min) := hbel.cell hbw (hcells 6 _ rfl)
      have k7 : wr.cell? ⟨b, off + k * 10 + 7, none⟩ = some (.int .i64 c.max) := hbel.cell hbw (hcells 7 _ rfl)
      have k8 : wr.cell? ⟨b, off + k * 10 + 8, none⟩ = some (.int .i64 c.usual) := hbel.cell hbw (hcells 8 _ rfl)
      have k9 : wr.cell? ⟨b, off + k * 10 + 9, none⟩ = some (.int .i64 c.cool) := hbel.cell hbw (hcells 9 _ rfl)
      have hcmem : c ∈ l := by rw [hc]; exact List.getElem_mem hlt
      have htk : l.take (k + 1) = l.take k ++ [c] := by rw [List.take_succ_eq_append_getElem hlt, ← hc]
      replace hc := Lib.hid hc
      replace hcells := Lib.hid hcells
      replace hall := Lib.hid hall
      replace htk := Lib.hid htk
      replace hcmem := Lib.hid hcmem
      go_wp2_with fail
      have hw := writeError_any c wr
      cases hok : c.ok
      case false =>
        have h3 : r = .tuple #[.string ⟨#[]⟩, .int .i64 3] := by
          have : l.all Cmd.ok = false := by
            rw [List.all_eq_false]; exact ⟨c, hcmem.out, by simp [hok]⟩
          rw [hr.out]; simp [logV, this]
        simp only [hok, Bool.false_eq_true, if_false] at hw
        subst h3
        refine hw.mono ?_
        rintro e w1 ⟨rfl, hw1⟩
        clear hw
        go_wp2_with fail
        go_ret2
        exact ⟨rfl, (hbel.call hw1).bel⟩
      case true =>
        simp only [hok, if_true] at hw
        refine hw.mono ?_
        rintro e w1 ⟨rfl, hw1⟩
        have hb1 := hbel.call hw1
        clear hw hw1 hbel
        go_wp2_with fail
        go_roundw
        case rel => exact ⟨k + 1, by omega, by go_num, (by
            intro d hd
            rw [htk.out] at hd
            rcases List.mem_append.1 hd with hd | hd
            · exact hall.out d hd
            · rw [List.mem_singleton.1 hd]; exact hok), hb1⟩
        case measure => simp [intOf]; omega
    · obtain rfl : k = l.length := by omega
      rw [List.take_length] at hall
      have hallb : l.all Cmd.ok = true := by rw [List.all_eq_true]; exact hall
      clear hlt
      by_cases h200 : l.length ≤ 200
      · have h3 : r = .tuple #[.string (logS l), .int .i64 0] := by rw [hr.out]; simp [logV, hallb, h200]
        subst h3
        clear hallb hr
        replace hall := Lib.hid hall
        go_wp2_with fail
        obtain ⟨wo, rfl⟩ : ∃ wo : World, wo = wr := ⟨_, rfl⟩
        go_loopw [4, 7] (fun s i wr => ∃ k : Nat, k ≤ l.length ∧ i = .int .i64 k ∧ s = .string (logS (l.take k)) ∧ Bel w.heap.size w wr) (fun _ i _ => l.length - (intOf i).toNat)
        case atStart => exact ⟨0, by omega, rfl, rfl, hbel⟩
        case round =>
          obtain ⟨k, hk2, rfl, rfl, hbel2⟩ := hrel
          clear hbel hle
          have hle := hbel2.le
          by_cases hlt : k < l.length
          · have hltI : (k : Int) < l.length := by omega
            obtain ⟨b, off, hao, -, hbw, hcells⟩ := h.cmd k hlt
            subst hao
            obtain ⟨c, hc⟩ : ∃ c, c = l[k] := ⟨_, rfl⟩
            rw [← hc] at hcells
            have hbel := hbel2
            have k0 : wr.cell? ⟨b, off + k * 10, none⟩ = some (.int .i64 c.op) := hbel.cell hbw (hcells 0 _ rfl)
            have k1 : wr.cell? ⟨b, off + k * 10 + 1, none⟩ = some (.int .i64 c.a) := hbel.cell hbw (hcells 1 _ rfl)
            have k2 : wr.cell? ⟨b, off + k * 10 + 2, none⟩ = some (.int .i64 c.b) := hbel.cell hbw (hcells 2 _ rfl)
            have k3 : wr.cell? ⟨b, off + k * 10 + 3, none⟩ = some (.int .i64 c.c) := hbel.cell hbw (hcells 3 _ rfl)
            have k4 : wr.cell? ⟨b, off + k * 10 + 4, none⟩ = some (.int .i64 c.at_) := hbel.cell hbw (hcells 4 _ rfl)
            have k5 : wr.cell? ⟨b, off + k * 10 + 5, none⟩ = some (.int .i64 c.len) := hbel.cell hbw (hcells 5 _ rfl)
            have k6 : wr.cell? ⟨b, off + k * 10 + 6, none⟩ = some (.int .i64 c.min) := hbel.cell hbw (hcells 6 _ rfl)
            have k7 : wr.cell? ⟨b, off + k * 10 + 7, none⟩ = some (.int .i64 c.max) := hbel.cell hbw (hcells 7 _ rfl)
            have k8 : wr.cell? ⟨b, off + k * 10 + 8, none⟩ = some (.int .i64 c.usual) := hbel.cell hbw (hcells 8 _ rfl)
            have k9 : wr.cell? ⟨b, off + k * 10 + 9, none⟩ = some (.int .i64 c.cool) := hbel.cell hbw (hcells 9 _ rfl)
            have hok : c.ok = true := by rw [hc]; exact hall.out _ (List.getElem_mem hlt)
            obtain ⟨o1, o2, o3⟩ := cmd_ok hok
            have htk : l.take (k + 1) = l.take k ++ [c] := by rw [List.take_succ_eq_append_getElem hlt, ← hc]
            have hss : (logS (l.take k)).size ≤ 8400 := by rw [logS_size]; simp; omega
            obtain ⟨s, hs⟩ : ∃ s, s = logS (l.take k) := ⟨_, rfl⟩
            rw [← hs] at hss
            rw [← hs]
            obtain ⟨z, hz⟩ : ∃ z, z = frameC c := ⟨_, rfl⟩
            have hzz : z.size ≤ 42 := by rw [hz, frameC_size]; omega
            have hadd : ∀ W : World, (Op.stringOp .add s z).run Try.prog W = .ok (.string (s ++ z)) W := fun W => run_string_add_sum W s z (by omega)
            replace hc := Lib.hid hc
            replace hcells := Lib.hid hcells
            replace htk := Lib.hid htk
            replace hs := Lib.hid hs
            replace hz := Lib.hid hz
            replace o3 := Lib.hid o3
            clear hok hbel
            go_wp2_with fail
            refine (cmdBytes_any c wr o1 o2 o3.out).mono ?_
            rintro e w1 ⟨rfl, hw1⟩
            go_wp2_with fail
            have hf := frameOf_any (cmdS c) w1 (by rw [cmdS_size]; omega)
            have hfz : frameS (cmdS c) = z := by rw [hz.out]; rfl
            rw [hfz] at hf
            refine hf.mono ?_
            rintro e w2 ⟨rfl, hw2⟩
            have hb2 := (hbel2.call hw1).call hw2
            clear hf hfz hw1 hw2 hbel2
            go_wp2_with fail
            go_roundw
            case rel => exact ⟨k + 1, by omega, by go_num, (by rw [htk.out, logS_snoc, ← hs.out, ← hz.out]), hb2⟩
            case measure => simp [intOf]; omega
          · obtain rfl : k = l.length := by omega
            have htl : logS (l.take l.length) = logS l := by rw [List.take_length]
            rw [htl]
            clear htl
            go_wp2_with fail
            go_ret2
            exact ⟨rfl, hbel2.bel⟩
      · have h3 : r = .tuple #[.string ⟨#[]⟩, .int .i64 2] := by rw [hr.out]; simp [logV, hallb, h200]
        subst h3
        clear hallb hall
        go_wp2_with fail
        go_ret2
        exact ⟨rfl, hbel.bel⟩
end Go.Proofs.Ytbebjifnhjlkiaa
