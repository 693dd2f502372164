/- space: Check. -/
import Derived.Test.YtflbpkgnadjokaaSlP2
import Derived.Test.YtflbpkgnadjokaaCidr4
namespace Go.Proofs.Ytflbpkgnadjokaa
open Go Go.RowKit Go.Proofs
def insQ (p q : Pfx) : Bool := insP p.at_ p.len q.at_ q.len
def usedOK (root : Pfx) : Int → List Pfx → Bool
  | _, [] => true
  | free, p :: ps => insQ p root && (decide (free ≤ p.at_) && usedOK root (p.at_ + szI p.len) ps)
theorem usedOK_cons (root : Pfx) (f : Int) (p : Pfx) (ps : List Pfx) : usedOK root f (p :: ps) = (insQ p root && (decide (f ≤ p.at_) && usedOK root (p.at_ + szI p.len) ps)) := rfl
def chkS (root : Pfx) (us : List Pfx) : Int := if us.length > 32 then 2 else if chk root.at_ root.len = 0 then (if usedOK root root.at_ us then 0 else 1) else 1
theorem insP_right {a l b m : Int} (h : insP a l b m = true) : rightB a l = true := by
  unfold insP at h; simp at h; exact h.1.1.1
theorem sizeI_right {a l : Int} (h : rightB a l = true) : sizeI a l = szI l := by unfold sizeI; rw [if_pos h]
set_option maxHeartbeats 1000000 in
set_option maxRecDepth 100000 in
theorem spaceCheck_any {A : Area} (root : Pfx) (us : List Pfx) (uo : Option Addr) (ucap : Nat) (w : World) (h : Sl A w 2 Pfx.R uo ucap us) :
    Calls Try.prog 13 #[.agg #[.int .i64 root.at_, .int .i64 root.len, .slice uo us.length ucap]] w fun e w' => e = .returned (.int .i64 (chkS root us)) ∧ Ext w w' := by
  have hcl := h.cap_le
  have hcm := h.cap_max
  by_cases h32 : us.length > 32
  · have hr : chkS root us = 2 := by unfold chkS; rw [if_pos h32]
    rw [hr]
    have hI : (32 : Int) < (us.length : Int) := by omega
    clear hr h32
    go_enter Try.func13, Try.ntmps13
    go_wp2_with fail
    go_ret
    refine ⟨rfl, Bel.bel (B := _) ?_⟩
    (repeat (first | with_reducible assumption | with_reducible exact Bel.refl _ | with_reducible refine Bel.alloc ?_ _ | with_reducible refine Bel.drewN ?_ _ | with_reducible refine Bel.drew ?_ | (with_reducible refine Bel.setCell0 ?_ ?_ _; rotate_left; (first | omega | (simp; done) | (simp; omega))) | (with_reducible refine Bel.setCell ?_ (p := _) ?_ _; rotate_left; (first | (simp; done) | omega | (simp; omega))) | refine Bel.call ?_ (by assumption) | (refine EX.bel ?_ (by assumption) ?_; rotate_left; (first | omega | (simp; omega)))))
  · have hI : (us.length : Int) ≤ 32 := by omega
    have hck := check_any root.at_ root.len
    by_cases hc : chk root.at_ root.len = 0
    · obtain ⟨r, hr⟩ : ∃ r, r = chkS root us := ⟨_, rfl⟩
      rw [← hr]
      have hr2 : r = if usedOK root root.at_ us then 0 else 1 := by rw [hr]; unfold chkS; rw [if_neg h32, if_pos hc]
      rw [hc] at hck
      clear hr hc h32
      replace hr := Lib.hid hr2
      clear hr2
      replace hck := Lib.hid hck
      go_enter Try.func13, Try.ntmps13
      go_wp2_with fail
      refine (hck.out _).mono ?_
      rintro e w1 ⟨rfl, hw1⟩
      obtain ⟨hcw1, hfw1⟩ := bcell hw1
      have hzw1 := bsize hw1
      (try simp only [World.size_alloc, World.size_setCell, World.size_drew, World.heap_drewN] at hcw1 hfw1 hzw1)
      have l1 : w.heap.size < w1.heap.size := by omega
      go_wp2_with fail
      go_loopw [3, 20] (fun s3 s20 wr => ∃ (k : Nat) (f : Int), k ≤ us.length ∧ s20 = .int .i64 k ∧ s3 = .int .i64 f ∧ Hid (usedOK root root.at_ us = usedOK root f (us.drop k)) ∧ Ext w1 wr) (fun _ s20 _ => us.length - (intOf s20).toNat)
      case atStart => exact ⟨0, root.at_, Nat.zero_le _, rfl, rfl, Lib.hid rfl, Below.refl _ _⟩
      case round =>
        obtain ⟨k, f, hk, rfl, rfl, hu, hx⟩ := hrel
        have hbel : Bel w.heap.size w wr := (((Bel.refl w).alloc _).call hw1).call hx
        obtain ⟨hcr, hfr⟩ := bcell hx
        have hzr := bsize hx
        have lr : w.heap.size < wr.heap.size := by omega
        by_cases hlt : k < us.length
        · have hltI : (k : Int) < (us.length : Int) := by omega
          have hdrop : us.drop k = us[k] :: us.drop (k + 1) := List.drop_eq_getElem_cons hlt
          rw [hdrop] at hu
          clear hdrop
          obtain ⟨b, off, cs, rfl, -, hlen, hR, hcs⟩ := h.elem k hlt
          replace hcs := cellsAt_ext (ext_trans (ext_trans (ext_alloc _ _) hw1) hx) hcs
          unfold Pfx.R at hR
          subst hR
          obtain ⟨k0, k1⟩ := cellsAt_2 hcs
          have lb := lt_of_cell k0
          obtain ⟨p, hp⟩ : ∃ p, p = us[k] := ⟨_, rfl⟩
          rw [← hp] at k0 k1 hu
          clear hcs hp h
          have hin := inside_any p.at_ p.len root.at_ root.len
          obtain ⟨q, hq⟩ : ∃ q, q = insP p.at_ p.len root.at_ root.len := ⟨_, rfl⟩
          rw [← hq] at hin
          have hu2 : usedOK root root.at_ us = (q && (decide (f ≤ p.at_) && usedOK root (p.at_ + szI p.len) (us.drop (k + 1)))) := by rw [hu.out, usedOK_cons, hq]; rfl
          clear hu
          cases q
          case false =>
            have hret : r = 1 := by rw [hr.out, hu2]; rfl
            replace hret := Lib.hid hret
            clear hu2 hr hq
            replace hin := Lib.hid hin
            go_wp2_with fail
            refine (hin.out _).mono ?_
            rintro e w2 ⟨rfl, hw2⟩
            obtain ⟨hcw2, hfw2⟩ := bcell hw2
            have hzw2 := bsize hw2
            (try simp only [World.size_alloc, World.size_setCell, World.size_drew, World.heap_drewN] at hcw2 hfw2 hzw2)
            go_wp2_with fail
            go_ret
            refine ⟨ret_int hret.out.symm, Bel.bel (B := _) ?_⟩
            (repeat (first | with_reducible assumption | with_reducible exact Bel.refl _ | with_reducible refine Bel.alloc ?_ _ | with_reducible refine Bel.drewN ?_ _ | with_reducible refine Bel.drew ?_ | (with_reducible refine Bel.setCell0 ?_ ?_ _; rotate_left; (first | omega | (simp; done) | (simp; omega))) | (with_reducible refine Bel.setCell ?_ (p := _) ?_ _; rotate_left; (first | (simp; done) | omega | (simp; omega))) | refine Bel.call ?_ (by assumption) | (refine EX.bel ?_ (by assumption) ?_; rotate_left; (first | omega | (simp; omega)))))
          case true =>
            have hrp := insP_right hq.symm
            obtain ⟨g1, g2, g3, g4, -⟩ := right_bd hrp
            obtain ⟨z1, z2⟩ := szI_bd g1
            have hsz := size_any p.at_ p.len
            rw [sizeI_right hrp] at hsz
            have hwr : IntKind.i64.wrap (p.at_ + szI p.len) = p.at_ + szI p.len := IntWalk.i64_in _ (by omega)
            replace hin := Lib.hid hin
            replace hsz := Lib.hid hsz
            clear hq hrp
            by_cases hf : f ≤ p.at_
            · have hu3 : usedOK root root.at_ us = usedOK root (p.at_ + szI p.len) (us.drop (k + 1)) := by rw [hu2]; simp [hf]
              clear hu2
              replace hu3 := Lib.hid hu3
              go_wp2_with fail
              refine (hin.out _).mono ?_
              rintro e w2 ⟨rfl, hw2⟩
              obtain ⟨hcw2, hfw2⟩ := bcell hw2
              have hzw2 := bsize hw2
              (try simp only [World.size_alloc, World.size_setCell, World.size_drew, World.heap_drewN] at hcw2 hfw2 hzw2)
              have l2 : w.heap.size < w2.heap.size := by omega
              have l3 : wr.heap.size < w2.heap.size := by omega
              go_wp2_with fail
              refine region_mix (by kernel_rfl) (by kernel_rfl) (fun _ _ d _ _ h => by cases d <;> exact h) ?_
              repeat (first | ((first | refine mix_skip_t rfl rfl rfl (by with_reducible rfl) ?_ | refine mix_skip_f rfl rfl rfl (by with_reducible rfl) ?_ | refine mix_skip_u rfl rfl rfl (by with_reducible rfl) ?_); simp only [Act.put, List.setIfInBounds_toArray, List.set_cons_zero, List.set_cons_succ]) | (apply mix_take; (first | exact want_0 rfl | exact want_b rfl rfl rfl (by with_reducible rfl)); intro wq hwq R hR; ((have hcc := (bcell hwq).1; (try simp only [World.size_alloc, World.size_setCell, World.size_drew, World.heap_drewN] at hcc)); go_simp; first | exact hR | ((go_at_call 22; exact mcall (hsz.out _) hR))); simp only [Act.put, List.setIfInBounds_toArray, List.set_cons_zero, List.set_cons_succ]))
              refine mix_nil ?_
              intro w3 hw3
              obtain ⟨hcw3, hfw3⟩ := bcell hw3
              have hzw3 := bsize hw3
              (try simp only [World.size_alloc, World.size_setCell, World.size_drew, World.heap_drewN] at hcw3 hfw3 hzw3)
              go_wp2_with fail
              go_roundw
              case rel => exact ⟨k + 1, _, by omega, by go_num, rfl, hu3, ext_trans hx (ext_trans (ext_trans (ext_alloc _ _) hw2) hw3)⟩
              case measure => simp [intOf]; omega
            · have hret : r = 1 := by rw [hr.out, hu2]; simp [hf]
              replace hret := Lib.hid hret
              have hf' : p.at_ < f := by omega
              clear hu2 hr hf
              go_wp2_with fail
              refine (hin.out _).mono ?_
              rintro e w2 ⟨rfl, hw2⟩
              obtain ⟨hcw2, hfw2⟩ := bcell hw2
              have hzw2 := bsize hw2
              (try simp only [World.size_alloc, World.size_setCell, World.size_drew, World.heap_drewN] at hcw2 hfw2 hzw2)
              have l2 : w.heap.size < w2.heap.size := by omega
              have l3 : wr.heap.size < w2.heap.size := by omega
              go_wp2_with fail
              go_ret
              refine ⟨ret_int hret.out.symm, Bel.bel (B := _) ?_⟩
              (repeat (first | with_reducible assumption | with_reducible exact Bel.refl _ | with_reducible refine Bel.alloc ?_ _ | with_reducible refine Bel.drewN ?_ _ | with_reducible refine Bel.drew ?_ | (with_reducible refine Bel.setCell0 ?_ ?_ _; rotate_left; (first | omega | (simp; done) | (simp; omega))) | (with_reducible refine Bel.setCell ?_ (p := _) ?_ _; rotate_left; (first | (simp; done) | omega | (simp; omega))) | refine Bel.call ?_ (by assumption) | (refine EX.bel ?_ (by assumption) ?_; rotate_left; (first | omega | (simp; omega)))))
        · have hltI : ¬ (k : Int) < (us.length : Int) := by omega
          obtain rfl : k = us.length := by omega
          have hret : r = 0 := by rw [hr.out, hu.out, List.drop_length]; rfl
          replace hret := Lib.hid hret
          clear hr hu
          go_wp2_with fail
          go_ret
          exact ⟨ret_int hret.out.symm, hbel.bel⟩
    · have hr : chkS root us = 1 := by unfold chkS; rw [if_neg h32, if_neg hc]
      rw [hr]
      obtain ⟨c, hcc⟩ : ∃ c, c = chk root.at_ root.len := ⟨_, rfl⟩
      rw [← hcc] at hck
      have hne : (c != 0) = true := by rw [hcc]; simpa using hc
      clear hr h32 hc hcc
      replace hck := Lib.hid hck
      go_enter Try.func13, Try.ntmps13
      go_wp2_with fail
      refine (hck.out _).mono ?_
      rintro e w1 ⟨rfl, hw1⟩
      obtain ⟨hcw1, hfw1⟩ := bcell hw1
      have hzw1 := bsize hw1
      (try simp only [World.size_alloc, World.size_setCell, World.size_drew, World.heap_drewN] at hcw1 hfw1 hzw1)
      go_wp2_with fail
      go_ret
      refine ⟨rfl, Bel.bel (B := _) ?_⟩
      (repeat (first | with_reducible assumption | with_reducible exact Bel.refl _ | with_reducible refine Bel.alloc ?_ _ | with_reducible refine Bel.drewN ?_ _ | with_reducible refine Bel.drew ?_ | (with_reducible refine Bel.setCell0 ?_ ?_ _; rotate_left; (first | omega | (simp; done) | (simp; omega))) | (with_reducible refine Bel.setCell ?_ (p := _) ?_ _; rotate_left; (first | (simp; done) | omega | (simp; omega))) | refine Bel.call ?_ (by assumption) | (refine EX.bel ?_ (by assumption) ?_; rotate_left; (first | omega | (simp; omega)))))
end Go.Proofs.Ytflbpkgnadjokaa
