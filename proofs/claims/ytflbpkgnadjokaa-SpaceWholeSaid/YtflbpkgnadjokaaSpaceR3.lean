/- The reference: FitOf. -/
import Derived.Test.YtflbpkgnadjokaaHoles3
namespace Go.Proofs.Ytflbpkgnadjokaa
open Go Go.RowKit Go.Proofs
def fitR (root : Pfx) (us : List Pfx) (size : Int) : Pfx × Bool :=
  match (holesS root us).find? (fun q => decide (q.len ≤ size)) with | some q => (⟨q.at_, size⟩, true) | none => (Pfx.zero, false)
theorem any_meetQ (us : List Pfx) (p : Pfx) : (us.any fun q => meetQ q p) = us.any p.meets := by
  congr 1; funext q; unfold meetQ; rw [meetB_eq, meets_comm]
/-- What the inner loop has found: the farthest last address of used ones that meet the block. -/
def FarAt (us : List Pfx) (p : Pfx) (k : Nat) (f : Int) : Prop := p.at_ ≤ f ∧ f ≤ 65535 ∧ (f = p.at_ ∨ ∃ u ∈ us, u.right = true ∧ u.meets p = true ∧ f = u.hi - 1)
theorem far_step {us : List Pfx} {p u : Pfx} {k : Nat} {f : Int} (h : FarAt us p k f) (hu : u ∈ us) (hr : u.right = true) (hm : u.meets p = true) : FarAt us p (k + 1) (max f (u.hi - 1)) := by
  obtain ⟨h1, h2, h3⟩ := h
  have hb := u.hi_bd hr
  refine ⟨by omega, by omega, ?_⟩
  rcases Int.le_total f (u.hi - 1) with hl | hl
  · right; exact ⟨u, hu, hr, hm, Int.max_eq_right hl⟩
  · rw [Int.max_eq_left hl]; exact h3
/-- The loop's state. -/
def NoFit (root : Pfx) (us : List Pfx) (size at_ : Int) : Prop := ∀ b, b < at_ → insQ ⟨b, size⟩ root = true → freeP us ⟨b, size⟩ = false
theorem nofit_start (root : Pfx) (us : List Pfx) (size : Int) : NoFit root us size root.at_ := fun b hb hi => by
  have := (insQ_hi.1 hi).2.2.1
  simp only at this; omega
theorem nofit_step {root : Pfx} {us : List Pfx} {size at_ f : Int} (h : NoFit root us size at_) (hr : Pfx.right ⟨at_, size⟩ = true) (hf : FarAt us ⟨at_, size⟩ us.length f) (hm : us.any (Pfx.meets ⟨at_, size⟩) = true) :
    NoFit root us size (max at_ (f / szI size * szI size) + szI size) := by
  intro b hb hi
  obtain ⟨g1, g2, g3, g4, g5⟩ := Pfx.bd hr
  simp only at g1 g2 g3 g4 g5
  have s1 := szI_bd g1
  have hbr := (insQ_hi.1 hi).1
  obtain ⟨b1, b2, b3, b4, b5⟩ := Pfx.bd hbr
  simp only at b3 b4 b5
  rcases Int.lt_or_le b at_ with hlt | hle
  · exact h b hlt hi
  · -- aligned ones: b = at_ or at_ + s ≤ b ≤ f
    have hd : szI size ∣ b - at_ := Int.dvd_sub (Int.dvd_of_emod_eq_zero b5) (Int.dvd_of_emod_eq_zero g5)
    rcases Int.lt_or_eq_of_le hle with hlt | heq
    · have h1 := dvd_step (by omega) (show 0 < b - at_ by omega) hd
      have hbf : b ≤ f := by
        have e1 := Int.emod_add_mul_ediv f (szI size)
        have e2 := Int.emod_nonneg f (b := szI size) (by omega)
        have e3 : f / szI size * szI size = szI size * (f / szI size) := Int.mul_comm _ _
        rcases Int.le_total at_ (f / szI size * szI size) with hl | hl
        · rw [Int.max_eq_right hl] at hb
          have hd2 : szI size ∣ f / szI size * szI size - b := Int.dvd_sub ⟨f / szI size, e3⟩ (Int.dvd_of_emod_eq_zero b5)
          rcases Int.lt_or_le (f / szI size * szI size) b with hlt2 | hle2
          · have := dvd_step (s := szI size) (x := b - f / szI size * szI size) (by omega) (by omega) (by have := Int.dvd_neg.2 hd2; rwa [Int.neg_sub] at this)
            omega
          · omega
        · rw [Int.max_eq_left hl] at hb; omega
      obtain ⟨k1, k2, k3⟩ := hf
      simp only at k1 k3
      rcases k3 with k3 | ⟨u, hu, hur, hum, hfu⟩
      · omega
      · obtain ⟨_, _, m3, m4⟩ := meets_iff.1 hum
        simp only [Pfx.hi] at m3 m4
        unfold freeP
        rw [List.any_eq_true.2 ⟨u, hu, meets_iff.2 ⟨hbr, hur, by simp only; omega, by simp only [Pfx.hi]; omega⟩⟩]; rfl
    · subst heq
      unfold freeP; rw [hm]; rfl
theorem fitR_hit {root : Pfx} {us : List Pfx} (h : SpaceOK root us) {size at_ : Int} (hs1 : root.len ≤ size) (hs2 : size ≤ 16) (hi : insQ ⟨at_, size⟩ root = true) (hm : us.any (Pfx.meets ⟨at_, size⟩) = false) (hn : NoFit root us size at_) : fitR root us size = (⟨at_, size⟩, true) := by
  obtain ⟨q, hq, he⟩ := fit_some h hs1 hs2 hi (by unfold freeP; rw [hm]; rfl) hn
  unfold fitR; rw [hq]; simp only [he]
theorem fitR_miss {root : Pfx} {us : List Pfx} (h : SpaceOK root us) {size at_ : Int} (hs1 : root.len ≤ size) (hs2 : size ≤ 16) (ha : root.hi ≤ at_) (hn : NoFit root us size at_) : fitR root us size = (Pfx.zero, false) := by
  have := fit_none h hs1 hs2 fun b hb => hn b (by obtain ⟨k1, k2, k3, k4⟩ := insQ_hi.1 hb; have := Pfx.hi_bd k1; simp only at this; omega) hb
  unfold fitR; rw [this]
set_option maxHeartbeats 2000000 in
set_option maxRecDepth 100000 in
theorem fitOf_any {A : Area} (root : Pfx) (us : List Pfx) (uo : Option Addr) (ucap : Nat) (size : Int) (w : World) (h : Sl A w 2 Pfx.R uo ucap us) (hok : SpaceOK root us) (hs1 : root.len ≤ size) (hs2 : size ≤ 16) :
    Calls Try.prog 10 #[.agg #[.int .i64 root.at_, .int .i64 root.len, .slice uo us.length ucap], .int .i64 size] w fun e w' => e = .returned (.tuple #[(fitR root us size).1.v, .bool (fitR root us size).2]) ∧ Ext w w' := by
  have hcl := h.cap_le
  have hcm := h.cap_max
  obtain ⟨g1, g2, g3, g4, g5⟩ := root.bd hok.rr
  have hrb := root.hi_bd hok.rr
  have hs0 : 0 ≤ size := by omega
  obtain ⟨z1, z2⟩ := szI_bd hs0
  have hsz := fun W => sizeOf_any size W hs0 hs2
  have hla := last_any root.at_ root.len
  have hlr : lastI root.at_ root.len = root.hi - 1 := rfl
  have hroot : rightB root.at_ root.len = true := hok.rr
  replace hla := fun W => hla W hroot
  rw [hlr] at hla
  obtain ⟨R, hR⟩ : ∃ R, R = fitR root us size := ⟨_, rfl⟩
  rw [← hR]
  have hRh := fun at_ => fitR_hit (at_ := at_) hok hs1 hs2
  have hRm := fun at_ => fitR_miss (at_ := at_) hok hs1 hs2
  rw [← hR] at hRh hRm
  replace hRh := Lib.hid hRh
  replace hRm := Lib.hid hRm
  replace hsz := Lib.hid hsz
  replace hla := Lib.hid hla
  obtain ⟨st, hst⟩ : ∃ st, st = szI size := ⟨_, rfl⟩
  rw [← hst] at hsz z1 z2
  obtain ⟨rh, hrh⟩ : ∃ rh, rh = root.hi := ⟨_, rfl⟩
  rw [← hrh] at hla hrb
  have hstart := nofit_start root us size
  have hrdvd : root.at_ % st = 0 := by
    obtain ⟨k, hk, -⟩ := szI_dvd g1 hs1 hs2
    rw [hst]; exact Int.emod_eq_zero_of_dvd (Int.dvd_trans ⟨k, hk⟩ (Int.dvd_of_emod_eq_zero g5))
  replace hst := Lib.hid hst
  replace hrh := Lib.hid hrh
  replace hstart := Lib.hid hstart
  replace hrdvd := Lib.hid hrdvd
  clear hR g5 hlr hroot
  go_enter Try.func10, Try.ntmps10
  go_wp2_with fail
  refine (hsz.out _).mono ?_
  rintro e w1 ⟨rfl, rfl⟩
  go_wp2_with fail
  go_loopw [7] (fun s7 wr => ∃ at_ : Int, s7 = .int .i64 at_ ∧ root.at_ ≤ at_ ∧ at_ ≤ 140000 ∧ Hid (at_ % st = 0) ∧ Hid (NoFit root us size at_) ∧ Ext ((w.alloc (.cells #[.int .i64 root.at_, .int .i64 root.len, .slice uo us.length ucap] 26)).alloc (.cells #[.int .i64 0, .int .i64 0] 23)) wr) (fun s7 _ => (200000 - intOf s7).toNat)
  case atStart => exact ⟨root.at_, rfl, Int.le_refl _, by omega, hrdvd, hstart, Below.refl _ _⟩
  case round =>
    obtain ⟨at_, rfl, ha1, ha2, hal, hno, hx⟩ := hrel
    have hxx := ext_trans (ext_trans (ext_alloc _ _) (ext_alloc _ _)) hx
    obtain ⟨hcr, hfr⟩ := bcell hx
    have hzr := bsize hx
    (try simp only [World.size_alloc, World.size_setCell, World.size_drew, World.heap_drewN] at hcr hfr hzr)
    have lr : w.heap.size < wr.heap.size := by omega
    have lr1 : w.heap.size + 1 < wr.heap.size := by omega
    go_wp2_with fail
    refine (hla.out _).mono ?_
    rintro e w2 ⟨rfl, hw2⟩
    obtain ⟨hcw2, hfw2⟩ := bcell hw2
    have hzw2 := bsize hw2
    (try simp only [World.size_alloc, World.size_setCell, World.size_drew, World.heap_drewN] at hcw2 hfw2 hzw2)
    have l2 : w.heap.size < w2.heap.size := by omega
    have l21 : w.heap.size + 1 < w2.heap.size := by omega
    have t0 : w2.cell? ⟨w.heap.size + 1, 0, none⟩ = some (.int .i64 0) := keepCell hw2 (keepCell hx (by simp))
    have t1 : w2.cell? ⟨w.heap.size + 1, 1, none⟩ = some (.int .i64 0) := keepCell hw2 (keepCell hx (by simp))
    have tf : ∀ o, w2.frozen? ⟨w.heap.size + 1, o, none⟩ = false := fun o => by rw [hfw2 _ _ lr1, hfr _ _ (by omega)]; simp
    by_cases hlt : at_ ≤ rh - 1
    · have hxw := ext_trans hxx hw2
      have hblk : insQ ⟨at_, size⟩ root = true := by
        rw [insQ_iff]
        exact ⟨right_of (a := at_) (l := size) hs0 hs2 (by omega) (by omega) (by rw [← hst.out]; exact hal.out), hok.rr, hs1, ha1, by rw [← hrh.out]; show at_ < rh; omega⟩
      have hbr := (insQ_hi.1 hblk).1
      replace hblk := Lib.hid hblk
      replace hbr := Lib.hid hbr
      go_wp2_with fail
      obtain ⟨wo, hwo⟩ : ∃ wo : World, wo = w2.alloc (.cells #[.int .i64 at_, .int .i64 size] 23) := ⟨_, rfl⟩
      have hxo : Ext w2 wo := by rw [hwo]; exact ext_alloc _ _
      have q0 : wo.cell? ⟨w2.heap.size, 0, none⟩ = some (.int .i64 at_) := by rw [hwo]; simp
      have q1 : wo.cell? ⟨w2.heap.size, 1, none⟩ = some (.int .i64 size) := by rw [hwo]; simp
      have s0 : wo.cell? ⟨w.heap.size, 0, none⟩ = some (.int .i64 root.at_) := keepCell hxo (keepCell hw2 (keepCell hx (by simp)))
      have s1 : wo.cell? ⟨w.heap.size, 1, none⟩ = some (.int .i64 root.len) := keepCell hxo (keepCell hw2 (keepCell hx (by simp)))
      have s2 : wo.cell? ⟨w.heap.size, 2, none⟩ = some (.slice uo us.length ucap) := keepCell hxo (keepCell hw2 (keepCell hx (by simp)))
      have t0o := keepCell hxo t0
      have t1o := keepCell hxo t1
      have tfo : ∀ o, wo.frozen? ⟨w.heap.size + 1, o, none⟩ = false := fun o => by rw [(bcell hxo).2 _ _ l21]; exact tf o
      have hxwo := ext_trans hxw hxo
      have l3 : w2.heap.size < wo.heap.size := by rw [hwo]; simp
      have l31 : w.heap.size < wo.heap.size := by omega
      have l32 : w.heap.size + 1 < wo.heap.size := by omega
      rw [← hwo]
      clear hwo hcw2 hfw2 hcr hfr t0 t1 tf hla
      obtain ⟨wz, rfl⟩ : ∃ wz : World, wz = wr := ⟨_, rfl⟩
      go_loopw [9, 10] (fun s9 s10 wr2 => ∃ (k : Nat) (f : Int), k ≤ us.length ∧ s10 = .int .i64 k ∧ s9 = .int .i64 f ∧ at_ ≤ f ∧ f ≤ 65535 ∧ Hid (FarAt us ⟨at_, size⟩ k f) ∧ Ext wo wr2) (fun _ s10 _ => us.length - (intOf s10).toNat)
      case atStart => exact ⟨0, at_, Nat.zero_le _, rfl, rfl, Int.le_refl _, by omega, Lib.hid ⟨Int.le_refl _, (by show at_ ≤ 65535; omega), .inl rfl⟩, Below.refl _ _⟩
      case round =>
        obtain ⟨k, f, hk, rfl, rfl, hf1, hf2, hfar, hx2⟩ := hrel
        obtain ⟨hcr, hfr⟩ := bcell hx2
        have hzr2 := bsize hx2
        have m1 : w.heap.size < wr.heap.size := by omega
        have m2 : w2.heap.size < wr.heap.size := by omega
        have m3 : w.heap.size + 1 < wr.heap.size := by omega
        by_cases hlk : k < us.length
        · have hltI : (k : Int) < (us.length : Int) := by omega
          obtain ⟨b, off, cs, rfl, -, hlen, hR', hcs⟩ := h.elem k hlk
          replace hcs := cellsAt_ext (ext_trans hxwo hx2) hcs
          unfold Pfx.R at hR'
          subst hR'
          obtain ⟨k0, k1⟩ := cellsAt_2 hcs
          have lb := lt_of_cell k0
          have hur := (insQ_hi.1 (hok.ins us[k] (List.getElem_mem hlk))).1
          have hum := List.getElem_mem hlk
          obtain ⟨y, hy⟩ : ∃ y, y = us[k] := ⟨_, rfl⟩
          rw [← hy] at k0 k1 hur hum
          have hyb := y.hi_bd hur
          have hm := meet_any y.at_ y.len at_ size
          have hme : meetB y.at_ y.len at_ size = y.meets ⟨at_, size⟩ := meetB_eq y ⟨at_, size⟩
          rw [hme] at hm
          have hl := fun W => last_any y.at_ y.len W hur
          rw [show lastI y.at_ y.len = y.hi - 1 from rfl] at hl
          obtain ⟨q, hq⟩ : ∃ q, q = y.meets ⟨at_, size⟩ := ⟨_, rfl⟩
          rw [← hq] at hm
          obtain ⟨yh, hyh⟩ : ∃ yh, yh = y.hi := ⟨_, rfl⟩
          rw [← hyh] at hl hyb
          replace hyh := Lib.hid hyh
          replace hq := Lib.hid hq
          replace hm := Lib.hid hm
          replace hl := Lib.hid hl
          replace hur := Lib.hid hur
          replace hum := Lib.hid hum
          have hya := (y.bd hur.out).2.2.1
          clear hcs hy h hme
          cases q
          case true =>
            have hstep := far_step hfar.out hum.out hur.out hq.out.symm
            rw [← hyh.out] at hstep
            replace hstep := Lib.hid hstep
            go_wp2_with fail
            refine region_mix (by kernel_rfl) (by kernel_rfl) (fun _ _ d _ _ h => by cases d <;> exact h) ?_
            repeat (first | ((first | refine mix_skip_t rfl rfl rfl (by with_reducible rfl) ?_ | refine mix_skip_f rfl rfl rfl (by with_reducible rfl) ?_ | refine mix_skip_u rfl rfl rfl (by with_reducible rfl) ?_); simp only [Act.put, List.setIfInBounds_toArray, List.set_cons_zero, List.set_cons_succ]) | (apply mix_take; (first | exact want_0 rfl | exact want_b rfl rfl rfl (by with_reducible rfl)); intro wq hwq R hR; ((have hcc := (bcell hwq).1; (try simp only [World.size_alloc, World.size_setCell, World.size_drew, World.heap_drewN] at hcc)); go_simp; first | exact hR | ((go_at_call 28; exact mcall (hm.out _) hR))); simp only [Act.put, List.setIfInBounds_toArray, List.set_cons_zero, List.set_cons_succ]))
            refine mix_nil ?_
            intro w4 hw4
            obtain ⟨hcw4, hfw4⟩ := bcell hw4
            have hzw4 := bsize hw4
            (try simp only [World.size_alloc, World.size_setCell, World.size_drew, World.heap_drewN] at hcw4 hfw4 hzw4)
            go_wp2_with fail
            refine (hl.out _).mono ?_
            rintro e w5 ⟨rfl, hw5⟩
            obtain ⟨hcw5, hfw5⟩ := bcell hw5
            have hzw5 := bsize hw5
            (try simp only [World.size_alloc, World.size_setCell, World.size_drew, World.heap_drewN] at hcw5 hfw5 hzw5)
            go_wp2_with fail
            go_roundw
            case rel => exact ⟨k + 1, max f (yh - 1), by omega, by go_num, rfl, by omega, by omega, hstep, ext_trans hx2 (ext_trans hw4 hw5)⟩
            case measure => simp [intOf]; omega
          case false =>
            go_wp2_with fail
            refine region_mix (by kernel_rfl) (by kernel_rfl) (fun _ _ d _ _ h => by cases d <;> exact h) ?_
            repeat (first | ((first | refine mix_skip_t rfl rfl rfl (by with_reducible rfl) ?_ | refine mix_skip_f rfl rfl rfl (by with_reducible rfl) ?_ | refine mix_skip_u rfl rfl rfl (by with_reducible rfl) ?_); simp only [Act.put, List.setIfInBounds_toArray, List.set_cons_zero, List.set_cons_succ]) | (apply mix_take; (first | exact want_0 rfl | exact want_b rfl rfl rfl (by with_reducible rfl)); intro wq hwq R hR; ((have hcc := (bcell hwq).1; (try simp only [World.size_alloc, World.size_setCell, World.size_drew, World.heap_drewN] at hcc)); go_simp; first | exact hR | ((go_at_call 28; exact mcall (hm.out _) hR))); simp only [Act.put, List.setIfInBounds_toArray, List.set_cons_zero, List.set_cons_succ]))
            refine mix_nil ?_
            intro w4 hw4
            obtain ⟨hcw4, hfw4⟩ := bcell hw4
            have hzw4 := bsize hw4
            (try simp only [World.size_alloc, World.size_setCell, World.size_drew, World.heap_drewN] at hcw4 hfw4 hzw4)
            go_wp2_with fail
            go_roundw
            case rel => exact ⟨k + 1, f, by omega, by go_num, rfl, hf1, hf2, Lib.hid ⟨hfar.out.1, hfar.out.2.1, hfar.out.2.2⟩, ext_trans hx2 hw4⟩
            case measure => simp [intOf]; omega
        · have hltI : ¬ (k : Int) < (us.length : Int) := by omega
          obtain rfl : k = us.length := by omega
          have hmu := fun W (h : Sl A W 2 Pfx.R uo ucap us) => meetsUsed_any root us uo ucap ⟨at_, size⟩ W h
          rw [any_meetQ] at hmu
          simp only at hmu
          obtain ⟨q, hq⟩ : ∃ q, q = us.any (Pfx.meets ⟨at_, size⟩) := ⟨_, rfl⟩
          rw [← hq] at hmu
          replace hq := Lib.hid hq
          replace hmu := Lib.hid hmu
          have hs4 := h.ext (ext_trans hxwo hx2)
          have l22 := l21
          cases q
          case false =>
            have hres := hRh.out at_ hblk.out hq.out.symm hno.out
            replace hres := Lib.hid hres
            have t0r := keepCell hx2 t0o
            have t1r := keepCell hx2 t1o
            have tfr : ∀ o, wr.frozen? ⟨w.heap.size + 1, o, none⟩ = false := fun o => by rw [hfr _ _ l32]; exact tfo o
            go_wp2_with fail
            refine (hmu.out _ hs4).mono ?_
            rintro e w5 ⟨rfl, hw5⟩
            obtain ⟨hcw5, hfw5⟩ := bcell hw5
            have hzw5 := bsize hw5
            (try simp only [World.size_alloc, World.size_setCell, World.size_drew, World.heap_drewN] at hcw5 hfw5 hzw5)
            have t05 := keepCell hw5 t0r
            have t15 := keepCell hw5 t1r
            have tf5 : ∀ o, w5.frozen? ⟨w.heap.size + 1, o, none⟩ = false := fun o => by rw [hfw5 _ _ m3]; exact tfr o
            go_wp2_with fail
            refine bodyPost_ret ?_ rfl ⟨by rw [hres.out], ?_⟩
            · unfold Pfx.v
              simp [results, Try.results10, go_sem, t05, t15]
            · exact Bel.bel (B := w.heap.size) (((Bel.refl w).call (ext_trans hxwo (ext_trans hx2 hw5))).setCell0 (by omega) _ |>.setCell0 (by omega) _)
          case true =>
            have hnx := nofit_step hno.out hbr.out hfar.out hq.out.symm
            rw [← hst.out] at hnx
            have h9 : 0 ≤ f / st ∧ f / st * st ≤ f := ⟨Int.ediv_nonneg (by omega) (by omega), Int.ediv_mul_le f (by omega)⟩
            have h10 := h9.1
            have h11 := h9.2
            have h12 : 0 ≤ f / st * st := Int.mul_nonneg h10 (by omega)
            have hal2 : (max at_ (f / st * st) + st) % st = 0 := by
              rw [Int.add_emod_right]
              rcases Int.le_total at_ (f / st * st) with hh | hh
              · rw [Int.max_eq_right hh]; exact Int.mul_emod_left _ _
              · rw [Int.max_eq_left hh]; exact hal.out
            replace hnx := Lib.hid hnx
            replace hal2 := Lib.hid hal2
            clear h9
            go_wp2_with fail
            refine (hmu.out _ hs4).mono ?_
            rintro e w5 ⟨rfl, hw5⟩
            obtain ⟨hcw5, hfw5⟩ := bcell hw5
            have hzw5 := bsize hw5
            (try simp only [World.size_alloc, World.size_setCell, World.size_drew, World.heap_drewN] at hcw5 hfw5 hzw5)
            go_wp2_with fail
            go_roundw
            case rel => exact ⟨_, rfl, by omega, by omega, hal2, hnx, ext_trans hx (ext_trans hw2 (ext_trans hxo (ext_trans hx2 hw5)))⟩
            case measure => simp [intOf]; omega
    · have hlt' : rh - 1 < at_ := by omega
      have hres := hRm.out at_ (by rw [← hrh.out]; omega) hno.out
      replace hres := Lib.hid hres
      go_wp2_with fail
      refine bodyPost_ret ?_ rfl ⟨by rw [hres.out], ?_⟩
      · unfold Pfx.zero Pfx.v
        simp [results, Try.results10, go_sem, t0, t1]
      · exact Bel.bel (B := w.heap.size) (((Bel.refl w).call (ext_trans hxx hw2)).setCell0 (by omega) _ |>.setCell0 (by omega) _)
end Go.Proofs.Ytflbpkgnadjokaa
