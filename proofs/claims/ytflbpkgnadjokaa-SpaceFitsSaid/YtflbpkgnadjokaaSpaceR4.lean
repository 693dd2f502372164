/- The reference: HolesOf. -/
import Derived.Test.YtflbpkgnadjokaaHoles4
import Derived.Test.YtflbpkgnadjokaaSpaceR3
import Derived.Test.YtflbpkgnadjokaaSpace7
import Derived.Laws.OwnMore
namespace Go.Proofs.Ytflbpkgnadjokaa
open Go Go.RowKit Go.Proofs
/-- The loop's memory: the box, the row of what has been found. -/
structure HMem (w : World) (root : Pfx) (uo : Option Addr) (n ucap : Nat) (done : List Pfx) (v : Value) (wr : World) : Prop where
  row : wr.ownsRow (w.heap.size + 1) 23 2 v done.length (done.flatMap pcells)
  box : blk wr w.heap.size #[.int .i64 root.at_, .int .i64 root.len, .slice uo n ucap] 26
  bel : Bel w.heap.size w wr
theorem HMem.ext {w wr wr' : World} {root : Pfx} {uo : Option Addr} {n ucap : Nat} {done : List Pfx} {v : Value} (h : HMem w root uo n ucap done v wr) (hx : Ext wr wr') : HMem w root uo n ucap done v wr' :=
  ⟨ownsRow_ext hx h.row, blk_ext h.box hx, h.bel.call hx⟩
theorem HMem.lt {w wr : World} {root : Pfx} {uo : Option Addr} {n ucap : Nat} {done : List Pfx} {v : Value} (h : HMem w root uo n ucap done v wr) : w.heap.size < wr.heap.size := lt_of_block h.box
theorem grown_set (w : World) (b o : Nat) (u : Value) : w.grownBy (w.setCell ⟨b, o, none⟩ u) (some b) :=
  ⟨rfl, rfl, rfl, by rw [World.size_setCell]; exact Nat.le_refl _, fun k _ hne => block_setCell_ne u (fun e => hne (by rw [← e]))⟩
/-- A store into a block that the row does not lie in. -/
theorem HMem.set {w wr : World} {root : Pfx} {uo : Option Addr} {n ucap : Nat} {done : List Pfx} {v : Value} (h : HMem w root uo n ucap done v wr) {b o : Nat} (u : Value) (hb : w.heap.size < b) (hv : v.ownBlock ≠ some b) : HMem w root uo n ucap done v (wr.setCell ⟨b, o, none⟩ u) := by
  refine ⟨h.row.kept (grown_set wr b o u) (.inr fun e => hv e), blk_other h.box (by omega) u, h.bel.setCell0 (by omega) u⟩
theorem HMem.push {w wr w1 : World} {root : Pfx} {uo : Option Addr} {n ucap : Nat} {done : List Pfx} {v v' : Value} {o : Obj} {x : Pfx} (h : HMem w root uo n ucap done v wr)
    (hown : w1.ownsRow (w.heap.size + 1) 23 2 v' (done.length + 1) (done.flatMap pcells ++ pcells x)) (hg : (wr.alloc o).grownBy w1 v.ownBlock) : HMem w root uo n ucap (done ++ [x]) v' w1 := by
  refine ⟨by simpa using hown, grown_keeps_below (h.row.alloc o) hg (block_alloc h.box) (by omega), (h.bel.alloc o).grownOwn (h.row.alloc o) hg (by omega)⟩
theorem HMem.sl {A : Area} {w wr : World} {root : Pfx} {uo : Option Addr} {n ucap : Nat} {done us : List Pfx} {v : Value} (hm : HMem w root uo n ucap done v wr) (h : Sl A w 2 Pfx.R uo ucap us) : Sl A wr 2 Pfx.R uo ucap us := by
  refine ⟨h.cap_le, h.cap_max, fun i hi => ?_⟩
  obtain ⟨b, off, cs, h1, h2, h3, h4, h5⟩ := h.elem i hi
  exact ⟨b, off, cs, h1, h2, h3, h4, fun j hj => hm.bel.cell (lt_of_cell (h5 j hj)) (h5 j hj)⟩
set_option maxHeartbeats 2000000 in
set_option maxRecDepth 100000 in
theorem holesOf_any {A : Area} (root : Pfx) (us : List Pfx) (uo : Option Addr) (ucap : Nat) (w : World) (h : Sl A w 2 Pfx.R uo ucap us) (hok : SpaceOK root us) :
    Calls Try.prog 11 #[.agg #[.int .i64 root.at_, .int .i64 root.len, .slice uo us.length ucap]] w (ColOut w (holesS root us)) := by
  have hcl := h.cap_le
  have hcm := h.cap_max
  obtain ⟨g1, g2, g3, g4, g5⟩ := root.bd hok.rr
  have hrb := root.hi_bd hok.rr
  have hla := last_any root.at_ root.len
  have hlr : lastI root.at_ root.len = root.hi - 1 := rfl
  have hroot : rightB root.at_ root.len = true := hok.rr
  replace hla := fun W => hla W hroot
  rw [hlr] at hla
  replace hla := Lib.hid hla
  obtain ⟨rh, hrh⟩ : ∃ rh, rh = root.hi := ⟨_, rfl⟩
  rw [← hrh] at hla hrb
  replace hrh := Lib.hid hrh
  have hlenH : (holesS root us).length ≤ 65536 := Nat.le_trans (holesF_len us _ root) (by have := Nat.pow_le_pow_right (n := 2) (by omega) (show (16 - root.len).toNat ≤ 16 by omega); simpa using this)
  have hst0 := hst_start hok
  replace hst0 := Lib.hid hst0
  replace hlenH := Lib.hid hlenH
  obtain ⟨i0, hi, hz0, hz1, hz2⟩ := info_parts Try.infoPrefix
  clear g5 hlr hroot
  go_enter Try.func11, Try.ntmps11
  go_wp2_with fail
  go_loopw [3, 4] (fun s3 s4 wr => ∃ (done rest : List Pfx) (a : Int) (v : Value), v = s3 ∧ s4 = .int .i64 a ∧ 0 ≤ a ∧ a ≤ 65536 ∧ Hid (HSt root us a done rest) ∧ HMem w root uo us.length ucap done v wr) (fun _ s4 _ => (70000 - intOf s4).toNat)
  case atStart => exact ⟨[], _, root.at_, _, rfl, rfl, g3, by omega, hst0, ⟨World.ownsRow_nil _ _ _ _, block_new _ _, (Bel.refl w).alloc _⟩⟩
  case round =>
    obtain ⟨done, rest, a, v, rfl, rfl, ha1, ha2, hst, hmem⟩ := hrel
    have s0 := blk_cell (o := 0) hmem.box rfl
    have s1 := blk_cell (o := 1) hmem.box rfl
    have s2 := blk_cell (o := 2) hmem.box rfl
    have lr := hmem.lt
    have hsl := hmem.sl h
    have hdl : done.length ≤ 65536 := by have := hlenH.out; rw [hst.out.all, List.length_append] at this; omega
    go_wp2_with fail
    refine (hla.out _).mono ?_
    rintro e w2 ⟨rfl, hw2⟩
    obtain ⟨hcw2, hfw2⟩ := bcell hw2
    have hzw2 := bsize hw2
    (try simp only [World.size_alloc, World.size_setCell, World.size_drew, World.heap_drewN] at hcw2 hfw2 hzw2)
    have hmem2 := hmem.ext hw2
    have l2 : w.heap.size < w2.heap.size := by omega
    by_cases hlt : a ≤ rh - 1
    · have l22 := hmem2.row.lt
      go_wp2_with fail
      obtain ⟨wo, hwo⟩ : ∃ wo : World, wo = w2.alloc (.cells #[.int .i64 a, .int .i64 17] 23) := ⟨_, rfl⟩
      have hxo : Ext w2 wo := by rw [hwo]; exact ext_alloc _ _
      have hmo := hmem2.ext hxo
      have hfo : blk wo w2.heap.size #[.int .i64 a, .int .i64 17] 23 := by rw [hwo]; exact block_new _ _
      have hvn : v.ownBlock ≠ some w2.heap.size := fun e => by have := (l22 _ e).2; omega
      rw [← hwo]
      clear hwo hcw2 hfw2 s0 s1 s2 l22
      obtain ⟨F, hF⟩ : ∃ F, F = w2.heap.size := ⟨_, rfl⟩
      rw [← hF] at hfo hvn ⊢
      have hFw : w.heap.size < F := by omega
      clear hF
      obtain ⟨wz, rfl⟩ : ∃ wz : World, wz = wr := ⟨_, rfl⟩
      go_loopw [6] (fun s6 wr => ∃ (s cur : Int), s6 = .int .i64 s ∧ root.len - 1 ≤ s ∧ s ≤ 16 ∧ cur ≤ 17 ∧ 0 ≤ cur ∧ Hid (Fnd root us a s cur) ∧ HMem w root uo us.length ucap done v wr ∧ blk wr F #[.int .i64 a, .int .i64 cur] 23) (fun s6 _ => (intOf s6 + 5).toNat)
      case atStart => exact ⟨16, 17, rfl, by omega, by omega, by omega, by omega, Lib.hid (fnd_start root us a), hmo, hfo⟩
      case round =>
        obtain ⟨s, cur, rfl, hs1, hs2, hc1, hc0, hfnd, hm3, hf3⟩ := hrel
        have s0 := blk_cell (o := 0) hm3.box rfl
        have s1 := blk_cell (o := 1) hm3.box rfl
        have s2 := blk_cell (o := 2) hm3.box rfl
        have c0 := blk_cell (o := 0) hf3 rfl
        have c1 := blk_cell (o := 1) hf3 rfl
        have cf : ∀ o, wr.frozen? ⟨F, o, none⟩ = false := fun o => blk_free hf3
        have lr3 := hm3.lt
        have lF := lt_of_block hf3
        have hsl3 := hm3.sl h
        by_cases hsz : root.len ≤ s
        · have hri := rightR_any a s
          have hin := insideOf_any a s root.at_ root.len
          have hieq : insR a s root.at_ root.len = insQ ⟨a, s⟩ root := insR_eq ⟨a, s⟩ root
          rw [hieq] at hin
          have hmu := fun W (h : Sl A W 2 Pfx.R uo ucap us) => meetsUsed_any root us uo ucap ⟨a, s⟩ W h
          rw [any_meetQ] at hmu
          simp only at hmu
          have hokd : okAt root us a s = (rightB a s && (insQ ⟨a, s⟩ root && !us.any (Pfx.meets ⟨a, s⟩))) := rfl
          obtain ⟨b1, hb1⟩ : ∃ b1, b1 = rightB a s := ⟨_, rfl⟩
          obtain ⟨b2, hb2⟩ : ∃ b2, b2 = insQ ⟨a, s⟩ root := ⟨_, rfl⟩
          obtain ⟨b3, hb3⟩ : ∃ b3, b3 = us.any (Pfx.meets ⟨a, s⟩) := ⟨_, rfl⟩
          rw [← hb1, ← hb2, ← hb3] at hokd
          rw [← hb1] at hri
          rw [← hb2] at hin
          rw [← hb3] at hmu
          replace hri := Lib.hid hri
          replace hin := Lib.hid hin
          replace hmu := Lib.hid hmu
          clear hb1 hb2 hb3 hieq
          cases b1
          case false =>
            have hn := fnd_no hfnd.out (by rw [hokd]; rfl)
            replace hn := Lib.hid hn
            clear hokd
            go_wp2_with fail
            refine (hri.out _).mono ?_
            rintro e w4 ⟨rfl, hw4⟩
            obtain ⟨hcw4, hfw4⟩ := bcell hw4
            have hzw4 := bsize hw4
            (try simp only [World.size_alloc, World.size_setCell, World.size_drew, World.heap_drewN] at hcw4 hfw4 hzw4)
            have hx4 := ext_trans (ext_alloc _ _) hw4
            go_wp2_with fail
            go_roundw
            case rel => exact ⟨s - 1, cur, rfl, by omega, by omega, hc1, hc0, hn, hm3.ext hx4, blk_ext hf3 hx4⟩
            case measure => simp [intOf]; omega
          case true =>
            cases b2
            case false =>
              have hn := fnd_no hfnd.out (by rw [hokd]; rfl)
              replace hn := Lib.hid hn
              clear hokd
              go_wp2_with fail
              refine (hri.out _).mono ?_
              rintro e w4 ⟨rfl, hw4⟩
              obtain ⟨hcw4, hfw4⟩ := bcell hw4
              have hzw4 := bsize hw4
              (try simp only [World.size_alloc, World.size_setCell, World.size_drew, World.heap_drewN] at hcw4 hfw4 hzw4)
              have hx4 := ext_trans (ext_alloc _ _) hw4
              have l4 : w.heap.size < w4.heap.size := by omega
              have l41 : wr.heap.size < w4.heap.size := by omega
              go_wp2_with fail
              refine (hin.out _).mono ?_
              rintro e w5 ⟨rfl, hw5⟩
              obtain ⟨hcw5, hfw5⟩ := bcell hw5
              have hzw5 := bsize hw5
              (try simp only [World.size_alloc, World.size_setCell, World.size_drew, World.heap_drewN] at hcw5 hfw5 hzw5)
              have hx5 := ext_trans hx4 hw5
              go_wp2_with fail
              go_roundw
              case rel => exact ⟨s - 1, cur, rfl, by omega, by omega, hc1, hc0, hn, hm3.ext hx5, blk_ext hf3 hx5⟩
              case measure => simp [intOf]; omega
            case true =>
              cases b3
              case true =>
                have hn := fnd_no hfnd.out (by rw [hokd]; rfl)
                replace hn := Lib.hid hn
                clear hokd
                go_wp2_with fail
                refine (hri.out _).mono ?_
                rintro e w4 ⟨rfl, hw4⟩
                obtain ⟨hcw4, hfw4⟩ := bcell hw4
                have hzw4 := bsize hw4
                (try simp only [World.size_alloc, World.size_setCell, World.size_drew, World.heap_drewN] at hcw4 hfw4 hzw4)
                have hx4 := ext_trans (ext_alloc _ _) hw4
                have l4 : w.heap.size < w4.heap.size := by omega
                have l41 : wr.heap.size < w4.heap.size := by omega
                go_wp2_with fail
                refine (hin.out _).mono ?_
                rintro e w5 ⟨rfl, hw5⟩
                obtain ⟨hcw5, hfw5⟩ := bcell hw5
                have hzw5 := bsize hw5
                (try simp only [World.size_alloc, World.size_setCell, World.size_drew, World.heap_drewN] at hcw5 hfw5 hzw5)
                have hx5 := ext_trans hx4 hw5
                have l5 : w.heap.size < w5.heap.size := by omega
                have l51 : wr.heap.size < w5.heap.size := by omega
                go_wp2_with fail
                refine (hmu.out _ (hsl3.ext hx5)).mono ?_
                rintro e w6 ⟨rfl, hw6⟩
                obtain ⟨hcw6, hfw6⟩ := bcell hw6
                have hzw6 := bsize hw6
                (try simp only [World.size_alloc, World.size_setCell, World.size_drew, World.heap_drewN] at hcw6 hfw6 hzw6)
                have hx6 := ext_trans hx5 hw6
                go_wp2_with fail
                go_roundw
                case rel => exact ⟨s - 1, cur, rfl, by omega, by omega, hc1, hc0, hn, hm3.ext hx6, blk_ext hf3 hx6⟩
                case measure => simp [intOf]; omega
              case false =>
                have hn := fnd_yes hs2 (by rw [hokd]; rfl)
                replace hn := Lib.hid hn
                clear hokd
                go_wp2_with fail
                refine (hri.out _).mono ?_
                rintro e w4 ⟨rfl, hw4⟩
                obtain ⟨hcw4, hfw4⟩ := bcell hw4
                have hzw4 := bsize hw4
                (try simp only [World.size_alloc, World.size_setCell, World.size_drew, World.heap_drewN] at hcw4 hfw4 hzw4)
                have hx4 := ext_trans (ext_alloc _ _) hw4
                have l4 : w.heap.size < w4.heap.size := by omega
                have l41 : wr.heap.size < w4.heap.size := by omega
                go_wp2_with fail
                refine (hin.out _).mono ?_
                rintro e w5 ⟨rfl, hw5⟩
                obtain ⟨hcw5, hfw5⟩ := bcell hw5
                have hzw5 := bsize hw5
                (try simp only [World.size_alloc, World.size_setCell, World.size_drew, World.heap_drewN] at hcw5 hfw5 hzw5)
                have hx5 := ext_trans hx4 hw5
                have l5 : w.heap.size < w5.heap.size := by omega
                have l51 : wr.heap.size < w5.heap.size := by omega
                go_wp2_with fail
                refine (hmu.out _ (hsl3.ext hx5)).mono ?_
                rintro e w6 ⟨rfl, hw6⟩
                obtain ⟨hcw6, hfw6⟩ := bcell hw6
                have hzw6 := bsize hw6
                (try simp only [World.size_alloc, World.size_setCell, World.size_drew, World.heap_drewN] at hcw6 hfw6 hzw6)
                have hx6 := ext_trans hx5 hw6
                have l6 : w.heap.size < w6.heap.size := by omega
                have l61 : wr.heap.size < w6.heap.size := by omega
                have hF6 := blk_ext hf3 hx6
                have d0 := blk_cell (o := 0) hF6 rfl
                have d1 := blk_cell (o := 1) hF6 rfl
                have df : ∀ o, w6.frozen? ⟨F, o, none⟩ = false := fun o => blk_free hF6
                go_wp2_with fail
                go_roundw
                case rel => exact ⟨s - 1, s, rfl, by omega, by omega, by omega, by omega, hn, ((hm3.ext hx6).set _ hFw hvn).set _ hFw hvn, blk_set (o := 1) (blk_set (o := 0) hF6 _) _⟩
                case measure => simp [intOf]; omega
        · obtain rfl : s = root.len - 1 := by omega
          have hszI : ¬ root.len ≤ root.len - 1 := by omega
          by_cases h16 : cur ≤ 16
          · obtain ⟨hfr, rest', hst'⟩ := hst_hole hok hst.out hfnd.out h16
            have hfb := Pfx.hi_bd hfr
            have hlf := fun W => last_any a cur W hfr
            have hlfe : lastI a cur = Pfx.hi ⟨a, cur⟩ - 1 := rfl
            rw [hlfe] at hlf
            obtain ⟨fh, hfh⟩ : ∃ fh, fh = Pfx.hi ⟨a, cur⟩ := ⟨_, rfl⟩
            rw [← hfh] at hlf hfb hst'
            simp only at hfb
            replace hlf := Lib.hid hlf
            replace hst' := Lib.hid hst'
            clear hfh hlfe hfr
            have hw1 : IntKind.i64.wrap (fh - 1 + 1) = fh := by rw [show (fh - 1 + 1 : Int) = fh from by omega]; exact IntWalk.i64_in _ (by omega)
            go_wp2_with (at_builtin; refine wpList_append_own _ rfl _ _ 24 rfl (w.heap.size + 1) 23 i0 (.agg #[.int .i64 0, .int .i64 0]) 2 16 Try.underlying24 hi hz0 hz1 hz2 rfl (by decide) _ _ _ rfl (hm3.row.alloc _) ⟨wr.heap.size, 0, none⟩ 1 1 (pcells ⟨a, cur⟩) rfl rfl ?c1 ?c2 (by unfold maxLen; omega) (by omega) (by simp; omega) ?_; rotate_right; intro v' w3 hown' hgrow _; have hm4 := hm3.push hown' hgrow; have hF4 : blk w3 F #[.int .i64 a, .int .i64 cur] 23 := (hgrow.block F (by simp; omega) (fun e => hvn e.symm)).trans (block_alloc hf3); have e0 := blk_cell (o := 0) hF4 rfl; have e1 := blk_cell (o := 1) hF4 rfl; have l4 := hm4.lt)
            case c1 => intro j u hu; simp only [pcells] at hu; exact hu
            case c2 => intro u hu; simp [pcells] at hu; rcases hu with rfl | rfl <;> rfl
            refine (hlf.out _).mono ?_
            rintro e w5 ⟨rfl, hw5⟩
            obtain ⟨hcw5, hfw5⟩ := bcell hw5
            have hzw5 := bsize hw5
            (try simp only [World.size_alloc, World.size_setCell, World.size_drew, World.heap_drewN] at hcw5 hfw5 hzw5)
            have hm5 := hm4.ext hw5
            go_wp2_with fail
            go_roundw
            case rel => exact ⟨done ++ [⟨a, cur⟩], rest', fh, v', rfl, rfl, by omega, by omega, hst', hm5⟩
            case measure => simp [intOf]; omega
          · obtain rfl : cur = 17 := by omega
            obtain ⟨u, hu, huh⟩ := hst_used hok hst.out hfnd.out (by rw [← hrh.out]; omega)
            obtain ⟨n0, hn0, hun⟩ := List.getElem_of_mem hu
            subst hun
            go_wp2_with fail
            clear s0 s1 s2 c0 c1 cf hsl3 hfnd
            obtain ⟨wy, rfl⟩ : ∃ wy : World, wy = wr := ⟨_, rfl⟩
            go_loopw [4, 8] (fun s4 s8 wr => ∃ k : Nat, k ≤ n0 ∧ s4 = .int .i64 a ∧ s8 = .int .i64 k ∧ HMem w root uo us.length ucap done v wr) (fun _ s8 _ => us.length - (intOf s8).toNat)
            case atStart => exact ⟨0, Nat.zero_le _, rfl, rfl, hm3⟩
            case round =>
              obtain ⟨k, hk, rfl, rfl, hm6⟩ := hrel
              have s0 := blk_cell (o := 0) hm6.box rfl
              have s1 := blk_cell (o := 1) hm6.box rfl
              have s2 := blk_cell (o := 2) hm6.box rfl
              have lr6 := hm6.lt
              have hlt6 : k < us.length := by omega
              have hltI : (k : Int) < (us.length : Int) := by omega
              obtain ⟨b, off, cs, rfl, -, hlen, hR, hcs⟩ := (hm6.sl h).elem k hlt6
              unfold Pfx.R at hR
              subst hR
              obtain ⟨k0, k1⟩ := cellsAt_2 hcs
              have lb := lt_of_cell k0
              have hym := List.getElem_mem hlt6
              obtain ⟨y, hy⟩ : ∃ y, y = us[k] := ⟨_, rfl⟩
              rw [← hy] at k0 k1 hym
              replace hy := Lib.hid hy
              have hh := holdsIt_any y.at_ y.len a
              have hyr := (insQ_hi.1 (hok.ins y hym)).1
              have hyb := y.hi_bd hyr
              have hly := fun W => last_any y.at_ y.len W hyr
              have hlye : lastI y.at_ y.len = y.hi - 1 := rfl
              rw [hlye] at hly
              obtain ⟨q, hq⟩ : ∃ q, q = holdB y.at_ y.len a := ⟨_, rfl⟩
              rw [← hq] at hh
              cases q
              case true =>
                have hya := (holdB_iff.1 hq.symm).2.2
                have hsk := hst_skip hok hst.out hym hq.symm
                obtain ⟨yh, hyh⟩ : ∃ yh, yh = y.hi := ⟨_, rfl⟩
                rw [← hyh] at hly hyb hsk hya
                replace hq := Lib.hid hq
                replace hh := Lib.hid hh
                replace hly := Lib.hid hly
                replace hsk := Lib.hid hsk
                replace hyr := Lib.hid hyr
                clear hyh hlye hcs huh
                have hw1 : IntKind.i64.wrap (yh - 1 + 1) = yh := by rw [show (yh - 1 + 1 : Int) = yh from by omega]; exact IntWalk.i64_in _ (by omega)
                go_wp2_with fail
                refine (hh.out _).mono ?_
                rintro e w7 ⟨rfl, hw7⟩
                obtain ⟨hcw7, hfw7⟩ := bcell hw7
                have hzw7 := bsize hw7
                (try simp only [World.size_alloc, World.size_setCell, World.size_drew, World.heap_drewN] at hcw7 hfw7 hzw7)
                have hm7 := hm6.ext hw7
                have k0' := keepCell hw7 k0
                have k1' := keepCell hw7 k1
                have s0' := keepCell hw7 s0
                have s1' := keepCell hw7 s1
                have s2' := keepCell hw7 s2
                go_wp2_with fail
                refine (hly.out _).mono ?_
                rintro e w8 ⟨rfl, hw8⟩
                obtain ⟨hcw8, hfw8⟩ := bcell hw8
                have hzw8 := bsize hw8
                (try simp only [World.size_alloc, World.size_setCell, World.size_drew, World.heap_drewN] at hcw8 hfw8 hzw8)
                have hm8 := hm7.ext hw8
                go_wp2_with fail
                go_roundw
                case rel => exact ⟨done, rest, yh, v, rfl, rfl, by omega, by omega, hsk, hm8⟩
                case measure => simp [intOf]; omega
              case false =>
                have hkn : k ≠ n0 := by
                  rintro rfl
                  rw [hy.out] at hq
                  rw [huh] at hq
                  cases hq
                replace hq := Lib.hid hq
                replace hh := Lib.hid hh
                replace hly := Lib.hid hly
                replace hyr := Lib.hid hyr
                clear hlye hcs huh
                go_wp2_with fail
                refine (hh.out _).mono ?_
                rintro e w7 ⟨rfl, hw7⟩
                obtain ⟨hcw7, hfw7⟩ := bcell hw7
                have hzw7 := bsize hw7
                (try simp only [World.size_alloc, World.size_setCell, World.size_drew, World.heap_drewN] at hcw7 hfw7 hzw7)
                have hm7 := hm6.ext hw7
                go_wp2_with fail
                go_roundw
                case rel => exact ⟨k + 1, by omega, rfl, by go_num, hm7⟩
                case measure => simp [intOf]; omega
    · have hlt' : rh - 1 < a := by omega
      have hd := hst_end hok hst.out (by rw [← hrh.out]; omega)
      have ho : ColOut w (holesS root us) (.returned v) w2 := col_out (by rw [← hd]; exact hmem2.row) hmem2.bel.bel
      replace ho := Lib.hid ho
      clear hd
      go_wp2_with fail
      go_ret
      exact ho.out
end Go.Proofs.Ytflbpkgnadjokaa
