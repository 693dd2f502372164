/- wire's laws: sameCmds, choose, plan. -/
import Derived.Test.YtbebjifnhjlkiaaWireC
namespace Go.Proofs.Ytbebjifnhjlkiaa
open Go Go.RowKit Go.Proofs
theorem Cmd.ext10 {c d : Cmd} (h : c.op = d.op ∧ c.a = d.a ∧ c.b = d.b ∧ c.c = d.c ∧ c.at_ = d.at_ ∧ c.len = d.len ∧ c.min = d.min ∧ c.max = d.max ∧ c.usual = d.usual ∧ c.cool = d.cool) : c = d := by
  cases c; cases d; simp_all
instance : DecidableEq Cmd := fun c d =>
  if h : c.op = d.op ∧ c.a = d.a ∧ c.b = d.b ∧ c.c = d.c ∧ c.at_ = d.at_ ∧ c.len = d.len ∧ c.min = d.min ∧ c.max = d.max ∧ c.usual = d.usual ∧ c.cool = d.cool then .isTrue (Cmd.ext10 h)
  else .isFalse (fun e => h (by subst e; simp))
theorem ites {α : Type} {p1 p2 p3 p4 p5 p6 p7 p8 p9 p10 : Prop} [Decidable p1] [Decidable p2] [Decidable p3] [Decidable p4] [Decidable p5] [Decidable p6] [Decidable p7] [Decidable p8] [Decidable p9] [Decidable p10]
    (h : ¬ (p1 ∧ p2 ∧ p3 ∧ p4 ∧ p5 ∧ p6 ∧ p7 ∧ p8 ∧ p9 ∧ p10)) (x y : α) :
    (if p1 then if p2 then if p3 then if p4 then if p5 then if p6 then if p7 then if p8 then if p9 then if p10 then x else y else y else y else y else y else y else y else y else y else y) = y := by
  split; rotate_left; rfl
  split; rotate_left; rfl
  split; rotate_left; rfl
  split; rotate_left; rfl
  split; rotate_left; rfl
  split; rotate_left; rfl
  split; rotate_left; rfl
  split; rotate_left; rfl
  split; rotate_left; rfl
  split; rotate_left; rfl
  exact absurd ⟨by assumption, by assumption, by assumption, by assumption, by assumption, by assumption, by assumption, by assumption, by assumption, by assumption⟩ h
set_option maxHeartbeats 1000000 in
set_option maxRecDepth 100000 in
theorem sameCmds_any {A B : Area} (l m : List Cmd) (ao bo : Option Addr) (cap cap2 : Nat) (w : World) (h : Sl A w 10 Cmd.R ao cap l) (h' : Sl B w 10 Cmd.R bo cap2 m) :
    Calls Try.prog 18 #[.slice ao l.length cap, .slice bo m.length cap2] w fun e w' => e = .returned (.bool (decide (l = m))) ∧ Ext w w' := by
  have hcl := h.cap_le
  have hcm := h.cap_max
  have hcl' := h'.cap_le
  have hcm' := h'.cap_max
  obtain ⟨r, hr⟩ : ∃ r, r = decide (l = m) := ⟨_, rfl⟩
  rw [← hr]
  replace hr := Lib.hid hr
  by_cases hlen : l.length = m.length
  · have hlenI : ((l.length : Int) != (m.length : Int)) = false := by rw [hlen]; simp
    rw [hlen] at hlenI
    rw [hlen]
    rw [hlen] at hcl
    replace hlen := Lib.hid hlen
    go_enter Try.func18, Try.ntmps18
    go_wp2_with fail
    go_loopw [5] (fun i wr => ∃ k : Nat, k ≤ m.length ∧ i = .int .i64 k ∧ l.take k = m.take k ∧ Bel w.heap.size w wr) (fun i _ => m.length - (intOf i).toNat)
    case atStart => exact ⟨0, by omega, rfl, rfl, Bel.refl w⟩
    case round =>
      obtain ⟨k, hk, rfl, htk, hbel⟩ := hrel
      by_cases hlt : k < m.length
      · have hltI : (k : Int) < m.length := by omega
        obtain ⟨b, off, hao, -, hbw, hcells⟩ := h.cmd k (by rw [hlen.out]; exact hlt)
        subst hao
        obtain ⟨c, hc⟩ : ∃ c, c = l[k]'(by rw [hlen.out]; exact hlt) := ⟨_, rfl⟩
        rw [← hc] at hcells
        have k0 : wr.cell? ⟨b, off + k * 10, none⟩ = some (.int .i64 c.op) := hbel.cell hbw (hcells 0 _ rfl)
        have k1 : wr.cell? ⟨b, off + k * 10 + 1, none⟩ = some (.int .i64 c.a) := hbel.cell hbw (hcells 1 _ rfl)
        have k2 : wr.cell? ⟨b, off + k * 10 + 2, none⟩ = some (.int .i64 c.b) := hbel.cell hbw (hcells 2 _ rfl)
        have k3 : wr.cell? ⟨b, off + k * 10 + 3, none⟩ = some (.int .i64 c.c) := hbel.cell hbw (hcells 3 _ rfl)
        have k4 : wr.cell? ⟨b, off + k * 10 + 4, none⟩ = some (.int .i64 c.at_) := hbel.cell hbw (hcells 4 _ rfl)
        have k5 : wr.cell? ⟨b, off + k * 10 + 5, none⟩ = some (.int .i64 c.len) := hbel.cell hbw (hcells 5 _ rfl)
        have k6 : wr.cell? ⟨b, off + k * 10 + 6, none⟩ = some (.int .i64 c.min) := hbel.cell hbw (hcells 6 _ rfl)
        have k7 : wr.cell? ⟨b, off + k * 10 + 7, none⟩ = some (.int .i64 c.max) := hbel.cell hbw (hcells 7 _ rfl)
        have k8 : wr.cell? ⟨b, off + k * 10 + 8, none⟩ = some (.int .i64 c.usual) := hbel.cell hbw (hcells 8 _ rfl)
        have k9 : wr.cell? ⟨b, off + k * 10 + 9, none⟩ = some (.int .i64 c.cool) := hbel.cell hbw (hcells 9 _ rfl)
        obtain ⟨b', off', hao, -, hbw', hcells'⟩ := h'.cmd k hlt
        subst hao
        obtain ⟨d, hd⟩ : ∃ d, d = m[k] := ⟨_, rfl⟩
        rw [← hd] at hcells'
        have j0 : wr.cell? ⟨b', off' + k * 10, none⟩ = some (.int .i64 d.op) := hbel.cell hbw' (hcells' 0 _ rfl)
        have j1 : wr.cell? ⟨b', off' + k * 10 + 1, none⟩ = some (.int .i64 d.a) := hbel.cell hbw' (hcells' 1 _ rfl)
        have j2 : wr.cell? ⟨b', off' + k * 10 + 2, none⟩ = some (.int .i64 d.b) := hbel.cell hbw' (hcells' 2 _ rfl)
        have j3 : wr.cell? ⟨b', off' + k * 10 + 3, none⟩ = some (.int .i64 d.c) := hbel.cell hbw' (hcells' 3 _ rfl)
        have j4 : wr.cell? ⟨b', off' + k * 10 + 4, none⟩ = some (.int .i64 d.at_) := hbel.cell hbw' (hcells' 4 _ rfl)
        have j5 : wr.cell? ⟨b', off' + k * 10 + 5, none⟩ = some (.int .i64 d.len) := hbel.cell hbw' (hcells' 5 _ rfl)
        have j6 : wr.cell? ⟨b', off' + k * 10 + 6, none⟩ = some (.int .i64 d.min) := hbel.cell hbw' (hcells' 6 _ rfl)
        have j7 : wr.cell? ⟨b', off' + k * 10 + 7, none⟩ = some (.int .i64 d.max) := hbel.cell hbw' (hcells' 7 _ rfl)
        have j8 : wr.cell? ⟨b', off' + k * 10 + 8, none⟩ = some (.int .i64 d.usual) := hbel.cell hbw' (hcells' 8 _ rfl)
        have j9 : wr.cell? ⟨b', off' + k * 10 + 9, none⟩ = some (.int .i64 d.cool) := hbel.cell hbw' (hcells' 9 _ rfl)
        have hs1 : l.take (k + 1) = l.take k ++ [c] := by rw [List.take_succ_eq_append_getElem (by rw [hlen.out]; exact hlt), ← hc]
        have hs2 : m.take (k + 1) = m.take k ++ [d] := by rw [List.take_succ_eq_append_getElem hlt, ← hd]
        replace hcells := Lib.hid hcells
        replace hcells' := Lib.hid hcells'
        replace htk := Lib.hid htk
        replace hs1 := Lib.hid hs1
        replace hs2 := Lib.hid hs2
        replace hc := Lib.hid hc
        replace hd := Lib.hid hd
        have hle := hbel.le
        have hbr : b < wr.heap.size := by omega
        have hbr' : b' < wr.heap.size := by omega
        by_cases hcd : c = d
        · subst hcd
          go_wp2_with fail
          refine region_ext (by kernel_rfl) (by kernel_rfl) ?_
          repeat (first | ((first | refine skip_t rfl rfl rfl (by with_reducible rfl) ?_ | refine skip_f rfl rfl rfl (by with_reducible rfl) ?_ | refine skip_u rfl rfl rfl (by with_reducible rfl) ?_); simp only [Act.put, List.setIfInBounds_toArray, List.set_cons_zero, List.set_cons_succ]) | (apply quiet_take; (first | exact want_0 rfl | exact want_b rfl rfl rfl (by with_reducible rfl)); intro wq hwq R hR; (have hcc := (bcell hwq).1; (try simp only [World.size_alloc, World.size_setCell, World.size_drew, World.heap_drewN] at hcc); go_simp; first | exact hR | (fail)); simp only [Act.put, List.setIfInBounds_toArray, List.set_cons_zero, List.set_cons_succ]))
          refine wpQuiet_nil ?_
          intro w1 hw1
          obtain ⟨hcw1, hfw1⟩ := bcell hw1
          have hzw1 := bsize hw1
          (try simp only [World.size_alloc, World.size_setCell, World.size_drew, World.heap_drewN] at hcw1 hfw1 hzw1)
          go_wp2_with fail
          go_roundw
          case rel => exact ⟨k + 1, by omega, by go_num, (by rw [hs1.out, hs2.out, htk.out]), hbel.call hw1⟩
          case measure => simp [intOf]; omega
        · have hne : ¬ (c.op = d.op ∧ c.a = d.a ∧ c.b = d.b ∧ c.c = d.c ∧ c.at_ = d.at_ ∧ c.len = d.len ∧ c.min = d.min ∧ c.max = d.max ∧ c.usual = d.usual ∧ c.cool = d.cool) := fun h => hcd (Cmd.ext10 h)
          replace hne := Lib.hid hne
          go_wp2_with fail
          refine region_ext (by kernel_rfl) (by kernel_rfl) ?_
          repeat (first | ((first | refine skip_t rfl rfl rfl (by with_reducible rfl) ?_ | refine skip_f rfl rfl rfl (by with_reducible rfl) ?_ | refine skip_u rfl rfl rfl (by with_reducible rfl) ?_); simp only [Act.put, List.setIfInBounds_toArray, List.set_cons_zero, List.set_cons_succ]) | (apply quiet_take; (first | exact want_0 rfl | exact want_b rfl rfl rfl (by with_reducible rfl)); intro wq hwq R hR; (have hcc := (bcell hwq).1; (try simp only [World.size_alloc, World.size_setCell, World.size_drew, World.heap_drewN] at hcc); go_simp; first | exact hR | ((have hR' : R (.bool true) := hR; rw [ites hne.out]; exact ⟨rfl, hR'⟩))); simp only [Act.put, List.setIfInBounds_toArray, List.set_cons_zero, List.set_cons_succ]))
          refine wpQuiet_nil ?_
          intro w1 hw1
          obtain ⟨hcw1, hfw1⟩ := bcell hw1
          have hzw1 := bsize hw1
          (try simp only [World.size_alloc, World.size_setCell, World.size_drew, World.heap_drewN] at hcw1 hfw1 hzw1)
          have h3 : r = false := by
            rw [hr.out]; simp; intro he; exact hcd (by rw [hc.out, hd.out]; simp [he])
          subst h3
          go_wp2_with fail
          go_ret
          exact ⟨rfl, (hbel.call hw1).bel⟩
      · obtain rfl : k = m.length := by omega
        have htk2 : l = m := by
          rw [List.take_length] at htk
          rw [← hlen.out, List.take_length] at htk
          exact htk
        have h3 : r = true := by rw [hr.out]; simp [htk2]
        clear htk htk2 hlt
        subst h3
        go_wp2_with fail
        go_ret
        exact ⟨rfl, hbel.bel⟩
  · have hlenI : ((l.length : Int) != (m.length : Int)) = true := by simp; omega
    have h3 : r = false := by rw [hr.out]; simp; intro h; exact hlen (by rw [h])
    subst h3
    clear hlen
    go_enter Try.func18, Try.ntmps18
    go_wp2_with fail
    go_ret
    exact ⟨rfl, Below.refl _ _⟩
end Go.Proofs.Ytbebjifnhjlkiaa
