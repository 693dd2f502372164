/- The reference's spaces: meetsUsed, CheckSpace. -/
import Derived.Test.YtflbpkgnadjokaaSlP2
import Derived.Test.YtflbpkgnadjokaaCidrR
namespace Go.Proofs.Ytflbpkgnadjokaa
open Go Go.RowKit Go.Proofs
def meetQ (q p : Pfx) : Bool := meetB q.at_ q.len p.at_ p.len
def insRQ (p q : Pfx) : Bool := insR p.at_ p.len q.at_ q.len
set_option maxHeartbeats 1000000 in
set_option maxRecDepth 100000 in
theorem meetsUsed_any {A : Area} (root : Pfx) (us : List Pfx) (uo : Option Addr) (ucap : Nat) (p : Pfx) (w : World) (h : Sl A w 2 Pfx.R uo ucap us) :
    Calls Try.prog 31 #[.agg #[.int .i64 root.at_, .int .i64 root.len, .slice uo us.length ucap], .agg #[.int .i64 p.at_, .int .i64 p.len]] w fun e w' => e = .returned (.bool (us.any fun q => meetQ q p)) ∧ Ext w w' := by
  have hcl := h.cap_le
  have hcm := h.cap_max
  obtain ⟨r, hr⟩ : ∃ r, r = us.any fun q => meetQ q p := ⟨_, rfl⟩
  rw [← hr]
  replace hr := Lib.hid hr
  go_enter Try.func31, Try.ntmps31
  go_wp2_with fail
  go_loopw [5] (fun s5 wr => ∃ k : Nat, k ≤ us.length ∧ s5 = .int .i64 k ∧ Hid (∀ j (h : j < k) (h' : j < us.length), meetQ us[j] p = false) ∧ Ext ((w.alloc (.cells #[.int .i64 root.at_, .int .i64 root.len, .slice uo us.length ucap] 26)).alloc (.cells #[.int .i64 p.at_, .int .i64 p.len] 23)) wr) (fun s5 _ => us.length - (intOf s5).toNat)
  case atStart => exact ⟨0, Nat.zero_le _, rfl, Lib.hid (fun j hj => absurd hj (Nat.not_lt_zero _)), Below.refl _ _⟩
  case round =>
    obtain ⟨k, hk, rfl, hall, hx⟩ := hrel
    have hxx := ext_trans (ext_trans (ext_alloc _ _) (ext_alloc _ _)) hx
    obtain ⟨hcr, hfr⟩ := bcell hx
    have hzr := bsize hx
    (try simp only [World.size_alloc, World.size_setCell, World.size_drew, World.heap_drewN] at hcr hfr hzr)
    have lr : w.heap.size < wr.heap.size := by omega
    have lr1 : w.heap.size + 1 < wr.heap.size := by omega
    by_cases hlt : k < us.length
    · have hltI : (k : Int) < (us.length : Int) := by omega
      obtain ⟨b, off, cs, rfl, -, hlen, hR, hcs⟩ := h.elem k hlt
      replace hcs := cellsAt_ext hxx hcs
      unfold Pfx.R at hR
      subst hR
      obtain ⟨k0, k1⟩ := cellsAt_2 hcs
      have lb := lt_of_cell k0
      obtain ⟨y, hy⟩ : ∃ y, y = us[k] := ⟨_, rfl⟩
      rw [← hy] at k0 k1
      replace hy := Lib.hid hy
      have hm := meet_any y.at_ y.len p.at_ p.len
      obtain ⟨q, hq⟩ : ∃ q, q = meetQ y p := ⟨_, rfl⟩
      unfold meetQ at hq
      rw [← hq] at hm
      replace hq := Lib.hid hq
      replace hm := Lib.hid hm
      clear hcs h
      cases q
      case true =>
        go_wp2_with fail
        refine region_mix (by kernel_rfl) (by kernel_rfl) (fun _ _ d _ _ h => by cases d <;> exact h) ?_
        repeat (first | ((first | refine mix_skip_t rfl rfl rfl (by with_reducible rfl) ?_ | refine mix_skip_f rfl rfl rfl (by with_reducible rfl) ?_ | refine mix_skip_u rfl rfl rfl (by with_reducible rfl) ?_); simp only [Act.put, List.setIfInBounds_toArray, List.set_cons_zero, List.set_cons_succ]) | (apply mix_take; (first | exact want_0 rfl | exact want_b rfl rfl rfl (by with_reducible rfl)); intro wq hwq R hR; ((have hcc := (bcell hwq).1; (try simp only [World.size_alloc, World.size_setCell, World.size_drew, World.heap_drewN] at hcc)); go_simp; first | exact hR | ((go_at_call 28; exact mcall (hm.out _) hR))); simp only [Act.put, List.setIfInBounds_toArray, List.set_cons_zero, List.set_cons_succ]))
        refine mix_nil ?_
        intro w2 hw2
        obtain ⟨hcw2, hfw2⟩ := bcell hw2
        have hzw2 := bsize hw2
        (try simp only [World.size_alloc, World.size_setCell, World.size_drew, World.heap_drewN] at hcw2 hfw2 hzw2)
        go_wp2_with fail
        go_ret
        exact ⟨ret_bool (by rw [hr.out, List.any_eq_true.2 ⟨us[k], List.getElem_mem hlt, by rw [← hy.out]; exact hq.out.symm⟩]), ext_trans hxx hw2⟩
      case false =>
        go_wp2_with fail
        refine region_mix (by kernel_rfl) (by kernel_rfl) (fun _ _ d _ _ h => by cases d <;> exact h) ?_
        repeat (first | ((first | refine mix_skip_t rfl rfl rfl (by with_reducible rfl) ?_ | refine mix_skip_f rfl rfl rfl (by with_reducible rfl) ?_ | refine mix_skip_u rfl rfl rfl (by with_reducible rfl) ?_); simp only [Act.put, List.setIfInBounds_toArray, List.set_cons_zero, List.set_cons_succ]) | (apply mix_take; (first | exact want_0 rfl | exact want_b rfl rfl rfl (by with_reducible rfl)); intro wq hwq R hR; ((have hcc := (bcell hwq).1; (try simp only [World.size_alloc, World.size_setCell, World.size_drew, World.heap_drewN] at hcc)); go_simp; first | exact hR | ((go_at_call 28; exact mcall (hm.out _) hR))); simp only [Act.put, List.setIfInBounds_toArray, List.set_cons_zero, List.set_cons_succ]))
        refine mix_nil ?_
        intro w2 hw2
        obtain ⟨hcw2, hfw2⟩ := bcell hw2
        have hzw2 := bsize hw2
        (try simp only [World.size_alloc, World.size_setCell, World.size_drew, World.heap_drewN] at hcw2 hfw2 hzw2)
        go_wp2_with fail
        go_roundw
        case rel => exact ⟨k + 1, by omega, by go_num, Lib.hid (fun j hj hj' => by
          rcases Nat.lt_or_eq_of_le (Nat.le_of_lt_succ hj) with h1 | h1
          · exact hall.out j h1 hj'
          · subst h1; rw [← hy.out]; exact hq.out.symm), ext_trans hx hw2⟩
        case measure => simp [intOf]; omega
    · have hltI : ¬ (k : Int) < (us.length : Int) := by omega
      obtain rfl : k = us.length := by omega
      go_wp2_with fail
      go_ret
      exact ⟨ret_bool (by
        rw [hr.out, List.any_eq_false.2 (fun x hx => ?_)]
        obtain ⟨j, hj, rfl⟩ := List.mem_iff_getElem.1 hx
        rw [hall.out j hj hj]; simp), hxx⟩
def usedR (root : Pfx) : Option Pfx → List Pfx → Bool
  | _, [] => true
  | none, p :: ps => insRQ p root && usedR root (some p) ps
  | some q, p :: ps => insRQ p root && (!(decide (p.at_ ≤ q.at_) || meetQ q p) && usedR root (some p) ps)
theorem usedR_none (root p : Pfx) (ps : List Pfx) : usedR root none (p :: ps) = (insRQ p root && usedR root (some p) ps) := rfl
theorem usedR_some (root q p : Pfx) (ps : List Pfx) : usedR root (some q) (p :: ps) = (insRQ p root && (!(decide (p.at_ ≤ q.at_) || meetQ q p) && usedR root (some p) ps)) := rfl
theorem usedR_nil (root : Pfx) (q : Option Pfx) : usedR root q [] = true := by cases q <;> rfl
def chkSR (root : Pfx) (us : List Pfx) : Int := if us.length > 32 then 2 else if rightB root.at_ root.len then (if usedR root none us then 0 else 1) else 1
def prevOf (us : List Pfx) (k : Nat) : Option Pfx := if k = 0 then none else us[k - 1]?
set_option maxHeartbeats 2000000 in
set_option maxRecDepth 100000 in
theorem checkSpace_any {A : Area} (root : Pfx) (us : List Pfx) (uo : Option Addr) (ucap : Nat) (w : World) (h : Sl A w 2 Pfx.R uo ucap us) :
    Calls Try.prog 9 #[.agg #[.int .i64 root.at_, .int .i64 root.len, .slice uo us.length ucap]] w fun e w' => e = .returned (.int .i64 (chkSR root us)) ∧ Ext w w' := by
  have hcl := h.cap_le
  have hcm := h.cap_max
  have hri := rightR_any root.at_ root.len
  by_cases h32 : us.length > 32
  · have hr : chkSR root us = 2 := by unfold chkSR; rw [if_pos h32]
    rw [hr]
    have hI : (32 : Int) < (us.length : Int) := by omega
    clear hr h32 hri
    go_enter Try.func9, Try.ntmps9
    go_wp2_with fail
    go_ret
    refine ⟨rfl, Bel.bel (B := _) ?_⟩
    (repeat (first | with_reducible assumption | with_reducible exact Bel.refl _ | with_reducible refine Bel.alloc ?_ _ | with_reducible refine Bel.drewN ?_ _ | with_reducible refine Bel.drew ?_ | (with_reducible refine Bel.setCell0 ?_ ?_ _; rotate_left; (first | omega | (simp; done) | (simp; omega))) | (with_reducible refine Bel.setCell ?_ (p := _) ?_ _; rotate_left; (first | (simp; done) | omega | (simp; omega))) | refine Bel.call ?_ (by assumption) | (refine EX.bel ?_ (by assumption) ?_; rotate_left; (first | omega | (simp; omega)))))
  · have hI : (us.length : Int) ≤ 32 := by omega
    cases hR : rightB root.at_ root.len
    case false =>
      have hr : chkSR root us = 1 := by unfold chkSR; rw [if_neg h32, hR]; rfl
      rw [hr]
      rw [hR] at hri
      replace hri := Lib.hid hri
      clear hr h32 hR
      go_enter Try.func9, Try.ntmps9
      go_wp2_with fail
      refine (hri.out _).mono ?_
      rintro e w1 ⟨rfl, hw1⟩
      obtain ⟨hcw1, hfw1⟩ := bcell hw1
      have hzw1 := bsize hw1
      (try simp only [World.size_alloc, World.size_setCell, World.size_drew, World.heap_drewN] at hcw1 hfw1 hzw1)
      go_wp2_with fail
      go_ret
      refine ⟨rfl, Bel.bel (B := _) ?_⟩
      (repeat (first | with_reducible assumption | with_reducible exact Bel.refl _ | with_reducible refine Bel.alloc ?_ _ | with_reducible refine Bel.drewN ?_ _ | with_reducible refine Bel.drew ?_ | (with_reducible refine Bel.setCell0 ?_ ?_ _; rotate_left; (first | omega | (simp; done) | (simp; omega))) | (with_reducible refine Bel.setCell ?_ (p := _) ?_ _; rotate_left; (first | (simp; done) | omega | (simp; omega))) | refine Bel.call ?_ (by assumption) | (refine EX.bel ?_ (by assumption) ?_; rotate_left; (first | omega | (simp; omega)))))
    case true =>
      obtain ⟨r, hr⟩ : ∃ r, r = chkSR root us := ⟨_, rfl⟩
      rw [← hr]
      have hr2 : r = if usedR root none us then 0 else 1 := by rw [hr]; unfold chkSR; rw [if_neg h32, hR]; rfl
      rw [hR] at hri
      replace hri := Lib.hid hri
      clear hr h32 hR
      replace hr := Lib.hid hr2
      clear hr2
      go_enter Try.func9, Try.ntmps9
      go_wp2_with fail
      refine (hri.out _).mono ?_
      rintro e w1 ⟨rfl, hw1⟩
      obtain ⟨hcw1, hfw1⟩ := bcell hw1
      have hzw1 := bsize hw1
      (try simp only [World.size_alloc, World.size_setCell, World.size_drew, World.heap_drewN] at hcw1 hfw1 hzw1)
      have hx1 := ext_trans (ext_alloc _ _) hw1
      have l1 : w.heap.size < w1.heap.size := by omega
      go_wp2_with fail
      go_loopw [3] (fun s3 wr => ∃ (k : Nat), k ≤ us.length ∧ s3 = .int .i64 k ∧ Hid (usedR root none us = usedR root (prevOf us k) (us.drop k)) ∧ Ext w1 wr) (fun s3 _ => us.length - (intOf s3).toNat)
      case atStart => exact ⟨0, Nat.zero_le _, rfl, Lib.hid rfl, Below.refl _ _⟩
      case round =>
        obtain ⟨k, hk, rfl, hu, hx⟩ := hrel
        have hxx := ext_trans hx1 hx
        obtain ⟨hcr, hfr⟩ := bcell hx
        have hzr := bsize hx
        have lr : w.heap.size < wr.heap.size := by omega
        by_cases hlt : k < us.length
        · have hltI : (k : Int) < (us.length : Int) := by omega
          have hdrop : us.drop k = us[k] :: us.drop (k + 1) := List.drop_eq_getElem_cons hlt
          have hprev : prevOf us (k + 1) = some us[k] := by unfold prevOf; rw [if_neg (by omega)]; simp [List.getElem?_eq_getElem hlt]
          rw [hdrop] at hu
          clear hdrop
          obtain ⟨b, off, cs, huo, -, hlen, hRR, hcs⟩ := h.elem k hlt
          replace hcs := cellsAt_ext hxx hcs
          unfold Pfx.R at hRR
          subst hRR
          obtain ⟨k0, k1⟩ := cellsAt_2 hcs
          have lb := lt_of_cell k0
          obtain ⟨p, hp⟩ : ∃ p, p = us[k] := ⟨_, rfl⟩
          rw [← hp] at k0 k1 hu hprev
          replace hprev := Lib.hid hprev
          clear hcs hp
          have hin := insideOf_any p.at_ p.len root.at_ root.len
          obtain ⟨q, hq⟩ : ∃ q, q = insR p.at_ p.len root.at_ root.len := ⟨_, rfl⟩
          rw [← hq] at hin
          match k, hk, hlt with
          | 0, hk, hlt =>
            have hu2 : usedR root none us = (q && usedR root (some p) (us.drop 1)) := by rw [hu.out]; show usedR root none (p :: us.drop 1) = _; rw [usedR_none, hq]; rfl
            clear hu hq h
            subst huo
            rw [Nat.zero_mul, Nat.add_zero] at k0 k1
            replace hin := Lib.hid hin
            cases q
            case false =>
              have hret : r = 1 := by rw [hr.out, hu2]; rfl
              replace hret := Lib.hid hret
              clear hu2 hr
              go_wp2_with fail
              refine region_mix (by kernel_rfl) (by kernel_rfl) (fun _ _ d _ _ h => by cases d <;> exact h) ?_
              repeat (first | ((first | refine mix_skip_t rfl rfl rfl (by with_reducible rfl) ?_ | refine mix_skip_f rfl rfl rfl (by with_reducible rfl) ?_ | refine mix_skip_u rfl rfl rfl (by with_reducible rfl) ?_); simp only [Act.put, List.setIfInBounds_toArray, List.set_cons_zero, List.set_cons_succ]) | (apply mix_take; (first | exact want_0 rfl | exact want_b rfl rfl rfl (by with_reducible rfl)); intro wq hwq R hR; ((have hcc := (bcell hwq).1; (try simp only [World.size_alloc, World.size_setCell, World.size_drew, World.heap_drewN] at hcc)); go_simp; first | exact hR | ((go_at_call 27; exact mcall (hin.out _) hR))); simp only [Act.put, List.setIfInBounds_toArray, List.set_cons_zero, List.set_cons_succ]))
              refine mix_nil ?_
              intro w2 hw2
              obtain ⟨hcw2, hfw2⟩ := bcell hw2
              have hzw2 := bsize hw2
              (try simp only [World.size_alloc, World.size_setCell, World.size_drew, World.heap_drewN] at hcw2 hfw2 hzw2)
              go_wp2_with fail
              go_ret
              exact ⟨ret_int hret.out.symm, ext_trans hxx hw2⟩
            case true =>
              have hu3 : usedR root none us = usedR root (prevOf us (0 + 1)) (us.drop (0 + 1)) := by rw [hu2, hprev.out]; rfl
              replace hu3 := Lib.hid hu3
              clear hu2
              go_wp2_with fail
              refine region_mix (by kernel_rfl) (by kernel_rfl) (fun _ _ d _ _ h => by cases d <;> exact h) ?_
              repeat (first | ((first | refine mix_skip_t rfl rfl rfl (by with_reducible rfl) ?_ | refine mix_skip_f rfl rfl rfl (by with_reducible rfl) ?_ | refine mix_skip_u rfl rfl rfl (by with_reducible rfl) ?_); simp only [Act.put, List.setIfInBounds_toArray, List.set_cons_zero, List.set_cons_succ]) | (apply mix_take; (first | exact want_0 rfl | exact want_b rfl rfl rfl (by with_reducible rfl)); intro wq hwq R hR; ((have hcc := (bcell hwq).1; (try simp only [World.size_alloc, World.size_setCell, World.size_drew, World.heap_drewN] at hcc)); go_simp; first | exact hR | ((go_at_call 27; exact mcall (hin.out _) hR))); simp only [Act.put, List.setIfInBounds_toArray, List.set_cons_zero, List.set_cons_succ]))
              refine mix_nil ?_
              intro w2 hw2
              obtain ⟨hcw2, hfw2⟩ := bcell hw2
              have hzw2 := bsize hw2
              (try simp only [World.size_alloc, World.size_setCell, World.size_drew, World.heap_drewN] at hcw2 hfw2 hzw2)
              go_wp2_with fail
              go_roundw
              case rel => exact ⟨0 + 1, by omega, by go_num, hu3, ext_trans hx hw2⟩
              case measure => simp [intOf]; try omega
          | j + 1, hk, hlt =>
            have hjl : j < us.length := by omega
            obtain ⟨b', off', cs', huo', -, hlen', hRR', hcs'⟩ := h.elem j hjl
            rw [huo] at huo'
            cases huo'
            replace hcs' := cellsAt_ext hxx hcs'
            unfold Pfx.R at hRR'
            subst hRR'
            obtain ⟨m0, m1⟩ := cellsAt_2 hcs'
            have hpj : prevOf us (j + 1) = some us[j] := by unfold prevOf; rw [if_neg (by omega)]; simp [List.getElem?_eq_getElem hjl]
            rw [hpj] at hu
            obtain ⟨y, hy⟩ : ∃ y, y = us[j] := ⟨_, rfl⟩
            rw [← hy] at m0 m1 hu
            clear hpj hy hcs' h
            subst huo
            have hmt := meet_any y.at_ y.len p.at_ p.len
            obtain ⟨t, ht⟩ : ∃ t, t = meetQ y p := ⟨_, rfl⟩
            have hu2 : usedR root none us = (q && (!(decide (p.at_ ≤ y.at_) || t) && usedR root (some p) (us.drop (j + 1 + 1)))) := by rw [hu.out, usedR_some, hq, ht]; rfl
            unfold meetQ at ht
            rw [← ht] at hmt
            clear hu ht hq
            replace hin := Lib.hid hin
            replace hmt := Lib.hid hmt
            have hwj : IntKind.i64.wrap (j : Int) = (j : Int) := IntWalk.i64_in _ (by omega)
            have hwj' : IntKind.i64.wrap ((j : Int) + 1 - 1) = (j : Int) := by rw [show ((j : Int) + 1 - 1) = j from by omega]; exact hwj
            have hj0 : (0 : Int) ≤ (j : Int) := by omega
            have hpos2 : (0 : Int) < (j : Int) + 1 := by omega
            have hltI2 : (j : Int) < (us.length : Int) := by omega
            have hltI3 : (j : Int) + 1 < (us.length : Int) := by omega
            have htn : ((j : Int) + 1).toNat = j + 1 := by omega
            have hp1 : (0 : Int) ≤ (j : Int) + 1 := by omega
            clear hltI
            cases q
            case false =>
              have hret : r = 1 := by rw [hr.out, hu2]; rfl
              replace hret := Lib.hid hret
              clear hu2 hr
              go_wp2_with fail
              refine region_mix (by kernel_rfl) (by kernel_rfl) (fun _ _ d _ _ h => by cases d <;> exact h) ?_
              repeat (first | ((first | refine mix_skip_t rfl rfl rfl (by with_reducible rfl) ?_ | refine mix_skip_f rfl rfl rfl (by with_reducible rfl) ?_ | refine mix_skip_u rfl rfl rfl (by with_reducible rfl) ?_); simp only [Act.put, List.setIfInBounds_toArray, List.set_cons_zero, List.set_cons_succ]) | (apply mix_take; (first | exact want_0 rfl | exact want_b rfl rfl rfl (by with_reducible rfl)); intro wq hwq R hR; ((have hcc := (bcell hwq).1; (try simp only [World.size_alloc, World.size_setCell, World.size_drew, World.heap_drewN] at hcc)); go_simp; first | exact hR | ((go_at_call 27; exact mcall (hin.out _) hR))); simp only [Act.put, List.setIfInBounds_toArray, List.set_cons_zero, List.set_cons_succ]))
              refine mix_nil ?_
              intro w2 hw2
              obtain ⟨hcw2, hfw2⟩ := bcell hw2
              have hzw2 := bsize hw2
              (try simp only [World.size_alloc, World.size_setCell, World.size_drew, World.heap_drewN] at hcw2 hfw2 hzw2)
              go_wp2_with fail
              go_ret
              exact ⟨ret_int hret.out.symm, ext_trans hxx hw2⟩
            case true =>
              by_cases hge : p.at_ ≤ y.at_
              · have hret : r = 1 := by rw [hr.out, hu2]; simp [hge]
                replace hret := Lib.hid hret
                clear hu2 hr
                go_wp2_with fail
                refine region_mix (by kernel_rfl) (by kernel_rfl) (fun _ _ d _ _ h => by cases d <;> exact h) ?_
                repeat (first | ((first | refine mix_skip_t rfl rfl rfl (by with_reducible rfl) ?_ | refine mix_skip_f rfl rfl rfl (by with_reducible rfl) ?_ | refine mix_skip_u rfl rfl rfl (by with_reducible rfl) ?_); simp only [Act.put, List.setIfInBounds_toArray, List.set_cons_zero, List.set_cons_succ]) | (apply mix_take; (first | exact want_0 rfl | exact want_b rfl rfl rfl (by with_reducible rfl)); intro wq hwq R hR; ((have hcc := (bcell hwq).1; (try simp only [World.size_alloc, World.size_setCell, World.size_drew, World.heap_drewN] at hcc)); go_simp; first | exact hR | ((go_at_call 27; exact mcall (hin.out _) hR))); simp only [Act.put, List.setIfInBounds_toArray, List.set_cons_zero, List.set_cons_succ]))
                refine mix_nil ?_
                intro w2 hw2
                obtain ⟨hcw2, hfw2⟩ := bcell hw2
                have hzw2 := bsize hw2
                (try simp only [World.size_alloc, World.size_setCell, World.size_drew, World.heap_drewN] at hcw2 hfw2 hzw2)
                go_wp2_with fail
                go_ret
                exact ⟨ret_int hret.out.symm, ext_trans hxx hw2⟩
              · have hge' : decide (p.at_ ≤ y.at_) = false := by simp [hge]
                cases t
                case true =>
                  have hret : r = 1 := by rw [hr.out, hu2]; simp
                  replace hret := Lib.hid hret
                  clear hu2 hr
                  go_wp2_with fail
                  refine region_mix (by kernel_rfl) (by kernel_rfl) (fun _ _ d _ _ h => by cases d <;> exact h) ?_
                  repeat (first | ((first | refine mix_skip_t rfl rfl rfl (by with_reducible rfl) ?_ | refine mix_skip_f rfl rfl rfl (by with_reducible rfl) ?_ | refine mix_skip_u rfl rfl rfl (by with_reducible rfl) ?_); simp only [Act.put, List.setIfInBounds_toArray, List.set_cons_zero, List.set_cons_succ]) | (apply mix_take; (first | exact want_0 rfl | exact want_b rfl rfl rfl (by with_reducible rfl)); intro wq hwq R hR; ((have hcc := (bcell hwq).1; (try simp only [World.size_alloc, World.size_setCell, World.size_drew, World.heap_drewN] at hcc)); go_simp; first | exact hR | (first | (go_at_call 27; exact mcall (hin.out _) hR) | (go_at_call 28; exact mcall (hmt.out _) hR))); simp only [Act.put, List.setIfInBounds_toArray, List.set_cons_zero, List.set_cons_succ]))
                  refine mix_nil ?_
                  intro w2 hw2
                  obtain ⟨hcw2, hfw2⟩ := bcell hw2
                  have hzw2 := bsize hw2
                  (try simp only [World.size_alloc, World.size_setCell, World.size_drew, World.heap_drewN] at hcw2 hfw2 hzw2)
                  go_wp2_with fail
                  go_ret
                  exact ⟨ret_int hret.out.symm, ext_trans hxx hw2⟩
                case false =>
                  have hu3 : usedR root none us = usedR root (prevOf us (j + 1 + 1)) (us.drop (j + 1 + 1)) := by rw [hu2, hprev.out, hge']; rfl
                  replace hu3 := Lib.hid hu3
                  clear hu2
                  go_wp2_with fail
                  refine region_mix (by kernel_rfl) (by kernel_rfl) (fun _ _ d _ _ h => by cases d <;> exact h) ?_
                  repeat (first | ((first | refine mix_skip_t rfl rfl rfl (by with_reducible rfl) ?_ | refine mix_skip_f rfl rfl rfl (by with_reducible rfl) ?_ | refine mix_skip_u rfl rfl rfl (by with_reducible rfl) ?_); simp only [Act.put, List.setIfInBounds_toArray, List.set_cons_zero, List.set_cons_succ]) | (apply mix_take; (first | exact want_0 rfl | exact want_b rfl rfl rfl (by with_reducible rfl)); intro wq hwq R hR; ((have hcc := (bcell hwq).1; (try simp only [World.size_alloc, World.size_setCell, World.size_drew, World.heap_drewN] at hcc)); go_simp; first | exact hR | (first | (go_at_call 27; exact mcall (hin.out _) hR) | (go_at_call 28; exact mcall (hmt.out _) hR))); simp only [Act.put, List.setIfInBounds_toArray, List.set_cons_zero, List.set_cons_succ]))
                  refine mix_nil ?_
                  intro w2 hw2
                  obtain ⟨hcw2, hfw2⟩ := bcell hw2
                  have hzw2 := bsize hw2
                  (try simp only [World.size_alloc, World.size_setCell, World.size_drew, World.heap_drewN] at hcw2 hfw2 hzw2)
                  go_wp2_with fail
                  go_roundw
                  case rel => exact ⟨j + 1 + 1, by omega, by go_num, hu3, ext_trans hx hw2⟩
                  case measure => simp [intOf]; omega
        · have hltI : ¬ (k : Int) < (us.length : Int) := by omega
          obtain rfl : k = us.length := by omega
          have hret : r = 0 := by rw [hr.out, hu.out, List.drop_length, usedR_nil]; rfl
          replace hret := Lib.hid hret
          clear hr hu
          go_wp2_with fail
          go_ret
          exact ⟨ret_int hret.out.symm, hxx⟩
end Go.Proofs.Ytflbpkgnadjokaa
