/- SpaceTrue: its statement, for every input, out of its walk. (texts of this work, joined) -/
import Derived.Test.YtflbpkgnadjokaaZHSpaceTrue3
import Derived.Laws.OwnMore
import Derived.Deep.Slices
import Derived.Deep.Fields
import Derived.ChangeSame
import Derived.OpenShut
import Derived.ProofKit
import Derived.Carry
import Derived.ChangeMaps5
import Derived.DataShut
import Derived.Test.YtflbpkgnadjokaaRows
import Derived.WalkKit
import Derived.ShutString
import Derived.ChangeOld
import Derived.Below
set_option linter.unusedSimpArgs false
set_option linter.unusedVariables false
namespace Go.Proofs.Ytflbpkgnadjokaa
open Go Go.RowKit Go.Proofs
set_option maxRecDepth 100000
/-- The loop's memory: the box, the row of what has been found. -/
structure HMem (w : World) (root : Pfx) (uo : Option Addr) (n ucap : Nat) (done : List Pfx) (v : Value) (wr : World) : Prop where
  row : wr.ownsRow (w.heap.size + 1) 23 2 v done.length (done.flatMap pcells)
  box : blk wr w.heap.size #[.int .i64 root.at_, .int .i64 root.len, .slice uo n ucap] 26
  bel : Bel w.heap.size w wr
theorem HMem.ext {w wr wr' : World} {root : Pfx} {uo : Option Addr} {n ucap : Nat} {done : List Pfx} {v : Value} (h : HMem w root uo n ucap done v wr) (hx : Ext wr wr') : HMem w root uo n ucap done v wr' :=
  ⟨ownsRow_ext hx h.row, blk_ext h.box hx, h.bel.call hx⟩
theorem HMem.lt {w wr : World} {root : Pfx} {uo : Option Addr} {n ucap : Nat} {done : List Pfx} {v : Value} (h : HMem w root uo n ucap done v wr) : w.heap.size < wr.heap.size := lt_of_block h.box
theorem grown_set (w : World) (b o : Nat) (u : Value) : w.grownBy (w.setCell ⟨b, o, none⟩ u) (some b) :=
  ⟨rfl, rfl, rfl, by rw [World.size_setCell]; exact Nat.le_refl _, fun k _ hne => block_setCell_ne u (fun e => hne (by rw [← e]))⟩
/-- A store into a block that the row does not lie in. -/
theorem HMem.set {w wr : World} {root : Pfx} {uo : Option Addr} {n ucap : Nat} {done : List Pfx} {v : Value} (h : HMem w root uo n ucap done v wr) {b o : Nat} (u : Value) (hb : w.heap.size < b) (hv : v.ownBlock ≠ some b) : HMem w root uo n ucap done v (wr.setCell ⟨b, o, none⟩ u) := by
  refine ⟨h.row.kept (grown_set wr b o u) (.inr fun e => hv e), blk_other h.box (by omega) u, h.bel.setCell0 (by omega) u⟩
theorem HMem.push {w wr w1 : World} {root : Pfx} {uo : Option Addr} {n ucap : Nat} {done : List Pfx} {v v' : Value} {o : Obj} {x : Pfx} (h : HMem w root uo n ucap done v wr)
    (hown : w1.ownsRow (w.heap.size + 1) 23 2 v' (done.length + 1) (done.flatMap pcells ++ pcells x)) (hg : (wr.alloc o).grownBy w1 v.ownBlock) : HMem w root uo n ucap (done ++ [x]) v' w1 := by
  refine ⟨by simpa using hown, grown_keeps_below (h.row.alloc o) hg (block_alloc h.box) (by omega), (h.bel.alloc o).grownOwn (h.row.alloc o) hg (by omega)⟩
theorem HMem.sl {A : Area} {w wr : World} {root : Pfx} {uo : Option Addr} {n ucap : Nat} {done us : List Pfx} {v : Value} (hm : HMem w root uo n ucap done v wr) (h : Sl A w 2 Pfx.R uo ucap us) : Sl A wr 2 Pfx.R uo ucap us := by
  refine ⟨h.cap_le, h.cap_max, fun i hi => ?_⟩
  obtain ⟨b, off, cs, h1, h2, h3, h4, h5⟩ := h.elem i hi
  exact ⟨b, off, cs, h1, h2, h3, h4, fun j hj => hm.bel.cell (lt_of_cell (h5 j hj)) (h5 j hj)⟩
set_option maxHeartbeats 2000000 in
set_option maxRecDepth 100000 in
theorem holesOf_any {A : Area} (root : Pfx) (us : List Pfx) (uo : Option Addr) (ucap : Nat) (w : World) (h : Sl A w 2 Pfx.R uo ucap us) (hok : SpaceOK root us) :
    Calls Try.prog 11 #[.agg #[.int .i64 root.at_, .int .i64 root.len, .slice uo us.length ucap]] w (ColOut w (holesS root us)) := by
  have hcl := h.cap_le
  have hcm := h.cap_max
  obtain ⟨g1, g2, g3, g4, g5⟩ := root.bd hok.rr
  have hrb := root.hi_bd hok.rr
  have hla := last_any root.at_ root.len
  have hlr : lastI root.at_ root.len = root.hi - 1 := rfl
  have hroot : rightB root.at_ root.len = true := hok.rr
  replace hla := fun W => hla W hroot
  rw [hlr] at hla
  replace hla := Lib.hid hla
  obtain ⟨rh, hrh⟩ : ∃ rh, rh = root.hi := ⟨_, rfl⟩
  rw [← hrh] at hla hrb
  replace hrh := Lib.hid hrh
  have hlenH : (holesS root us).length ≤ 65536 := Nat.le_trans (holesF_len us _ root) (by have := Nat.pow_le_pow_right (n := 2) (by omega) (show (16 - root.len).toNat ≤ 16 by omega); simpa using this)
  have hst0 := hst_start hok
  replace hst0 := Lib.hid hst0
  replace hlenH := Lib.hid hlenH
  obtain ⟨i0, hi, hz0, hz1, hz2⟩ := info_parts Try.infoPrefix
  clear g5 hlr hroot
  go_enter Try.func11, Try.ntmps11
  go_wp2_with fail
  go_loopw [3, 4] (fun s3 s4 wr => ∃ (done rest : List Pfx) (a : Int) (v : Value), v = s3 ∧ s4 = .int .i64 a ∧ 0 ≤ a ∧ a ≤ 65536 ∧ Hid (HSt root us a done rest) ∧ HMem w root uo us.length ucap done v wr) (fun _ s4 _ => (70000 - intOf s4).toNat)
  case atStart => exact ⟨[], _, root.at_, _, rfl, rfl, g3, by omega, hst0, ⟨World.ownsRow_nil _ _ _ _, block_new _ _, (Bel.refl w).alloc _⟩⟩
  case round =>
    obtain ⟨done, rest, a, v, rfl, rfl, ha1, ha2, hst, hmem⟩ := hrel
    have s0 := blk_cell (o := 0) hmem.box rfl
    have s1 := blk_cell (o := 1) hmem.box rfl
    have s2 := blk_cell (o := 2) hmem.box rfl
    have lr := hmem.lt
    have hsl := hmem.sl h
    have hdl : done.length ≤ 65536 := by have := hlenH.out; rw [hst.out.all, List.length_append] at this; omega
    go_wp2_with fail
    refine (hla.out _).mono ?_
    rintro e w2 ⟨rfl, hw2⟩
    obtain ⟨hcw2, hfw2⟩ := bcell hw2
    have hzw2 := bsize hw2
    (try simp only [World.size_alloc, World.size_setCell, World.size_drew, World.heap_drewN] at hcw2 hfw2 hzw2)
    have hmem2 := hmem.ext hw2
    have l2 : w.heap.size < w2.heap.size := by omega
    by_cases hlt : a ≤ rh - 1
    · have l22 := hmem2.row.lt
      go_wp2_with fail
      obtain ⟨wo, hwo⟩ : ∃ wo : World, wo = w2.alloc (.cells #[.int .i64 a, .int .i64 17] 23) := ⟨_, rfl⟩
      have hxo : Ext w2 wo := by rw [hwo]; exact ext_alloc _ _
      have hmo := hmem2.ext hxo
      have hfo : blk wo w2.heap.size #[.int .i64 a, .int .i64 17] 23 := by rw [hwo]; exact block_new _ _
      have hvn : v.ownBlock ≠ some w2.heap.size := fun e => by have := (l22 _ e).2; omega
      rw [← hwo]
      clear hwo hcw2 hfw2 s0 s1 s2 l22
      obtain ⟨F, hF⟩ : ∃ F, F = w2.heap.size := ⟨_, rfl⟩
      rw [← hF] at hfo hvn ⊢
      have hFw : w.heap.size < F := by omega
      clear hF
      obtain ⟨wz, rfl⟩ : ∃ wz : World, wz = wr := ⟨_, rfl⟩
      go_loopw [6] (fun s6 wr => ∃ (s cur : Int), s6 = .int .i64 s ∧ root.len - 1 ≤ s ∧ s ≤ 16 ∧ cur ≤ 17 ∧ 0 ≤ cur ∧ Hid (Fnd root us a s cur) ∧ HMem w root uo us.length ucap done v wr ∧ blk wr F #[.int .i64 a, .int .i64 cur] 23) (fun s6 _ => (intOf s6 + 5).toNat)
      case atStart => exact ⟨16, 17, rfl, by omega, by omega, by omega, by omega, Lib.hid (fnd_start root us a), hmo, hfo⟩
      case round =>
        obtain ⟨s, cur, rfl, hs1, hs2, hc1, hc0, hfnd, hm3, hf3⟩ := hrel
        have s0 := blk_cell (o := 0) hm3.box rfl
        have s1 := blk_cell (o := 1) hm3.box rfl
        have s2 := blk_cell (o := 2) hm3.box rfl
        have c0 := blk_cell (o := 0) hf3 rfl
        have c1 := blk_cell (o := 1) hf3 rfl
        have cf : ∀ o, wr.frozen? ⟨F, o, none⟩ = false := fun o => blk_free hf3
        have lr3 := hm3.lt
        have lF := lt_of_block hf3
        have hsl3 := hm3.sl h
        by_cases hsz : root.len ≤ s
        · have hri := rightR_any a s
          have hin := insideOf_any a s root.at_ root.len
          have hieq : insR a s root.at_ root.len = insQ ⟨a, s⟩ root := insR_eq ⟨a, s⟩ root
          rw [hieq] at hin
          have hmu := fun W (h : Sl A W 2 Pfx.R uo ucap us) => meetsUsed_any root us uo ucap ⟨a, s⟩ W h
          rw [any_meetQ] at hmu
          simp only at hmu
          have hokd : okAt root us a s = (rightB a s && (insQ ⟨a, s⟩ root && !us.any (Pfx.meets ⟨a, s⟩))) := rfl
          obtain ⟨b1, hb1⟩ : ∃ b1, b1 = rightB a s := ⟨_, rfl⟩
          obtain ⟨b2, hb2⟩ : ∃ b2, b2 = insQ ⟨a, s⟩ root := ⟨_, rfl⟩
          obtain ⟨b3, hb3⟩ : ∃ b3, b3 = us.any (Pfx.meets ⟨a, s⟩) := ⟨_, rfl⟩
          rw [← hb1, ← hb2, ← hb3] at hokd
          rw [← hb1] at hri
          rw [← hb2] at hin
          rw [← hb3] at hmu
          replace hri := Lib.hid hri
          replace hin := Lib.hid hin
          replace hmu := Lib.hid hmu
          clear hb1 hb2 hb3 hieq
          cases b1
          case false =>
            have hn := fnd_no hfnd.out (by rw [hokd]; rfl)
            replace hn := Lib.hid hn
            clear hokd
            go_wp2_with fail
            refine (hri.out _).mono ?_
            rintro e w4 ⟨rfl, hw4⟩
            obtain ⟨hcw4, hfw4⟩ := bcell hw4
            have hzw4 := bsize hw4
            (try simp only [World.size_alloc, World.size_setCell, World.size_drew, World.heap_drewN] at hcw4 hfw4 hzw4)
            have hx4 := ext_trans (ext_alloc _ _) hw4
            go_wp2_with fail
            go_roundw
            case rel => exact ⟨s - 1, cur, rfl, by omega, by omega, hc1, hc0, hn, hm3.ext hx4, blk_ext hf3 hx4⟩
            case measure => simp [intOf]; omega
          case true =>
            cases b2
            case false =>
              have hn := fnd_no hfnd.out (by rw [hokd]; rfl)
              replace hn := Lib.hid hn
              clear hokd
              go_wp2_with fail
              refine (hri.out _).mono ?_
              rintro e w4 ⟨rfl, hw4⟩
              obtain ⟨hcw4, hfw4⟩ := bcell hw4
              have hzw4 := bsize hw4
              (try simp only [World.size_alloc, World.size_setCell, World.size_drew, World.heap_drewN] at hcw4 hfw4 hzw4)
              have hx4 := ext_trans (ext_alloc _ _) hw4
              have l4 : w.heap.size < w4.heap.size := by omega
              have l41 : wr.heap.size < w4.heap.size := by omega
              go_wp2_with fail
              refine (hin.out _).mono ?_
              rintro e w5 ⟨rfl, hw5⟩
              obtain ⟨hcw5, hfw5⟩ := bcell hw5
              have hzw5 := bsize hw5
              (try simp only [World.size_alloc, World.size_setCell, World.size_drew, World.heap_drewN] at hcw5 hfw5 hzw5)
              have hx5 := ext_trans hx4 hw5
              go_wp2_with fail
              go_roundw
              case rel => exact ⟨s - 1, cur, rfl, by omega, by omega, hc1, hc0, hn, hm3.ext hx5, blk_ext hf3 hx5⟩
              case measure => simp [intOf]; omega
            case true =>
              cases b3
              case true =>
                have hn := fnd_no hfnd.out (by rw [hokd]; rfl)
                replace hn := Lib.hid hn
                clear hokd
                go_wp2_with fail
                refine (hri.out _).mono ?_
                rintro e w4 ⟨rfl, hw4⟩
                obtain ⟨hcw4, hfw4⟩ := bcell hw4
                have hzw4 := bsize hw4
                (try simp only [World.size_alloc, World.size_setCell, World.size_drew, World.heap_drewN] at hcw4 hfw4 hzw4)
                have hx4 := ext_trans (ext_alloc _ _) hw4
                have l4 : w.heap.size < w4.heap.size := by omega
                have l41 : wr.heap.size < w4.heap.size := by omega
                go_wp2_with fail
                refine (hin.out _).mono ?_
                rintro e w5 ⟨rfl, hw5⟩
                obtain ⟨hcw5, hfw5⟩ := bcell hw5
                have hzw5 := bsize hw5
                (try simp only [World.size_alloc, World.size_setCell, World.size_drew, World.heap_drewN] at hcw5 hfw5 hzw5)
                have hx5 := ext_trans hx4 hw5
                have l5 : w.heap.size < w5.heap.size := by omega
                have l51 : wr.heap.size < w5.heap.size := by omega
                go_wp2_with fail
                refine (hmu.out _ (hsl3.ext hx5)).mono ?_
                rintro e w6 ⟨rfl, hw6⟩
                obtain ⟨hcw6, hfw6⟩ := bcell hw6
                have hzw6 := bsize hw6
                (try simp only [World.size_alloc, World.size_setCell, World.size_drew, World.heap_drewN] at hcw6 hfw6 hzw6)
                have hx6 := ext_trans hx5 hw6
                go_wp2_with fail
                go_roundw
                case rel => exact ⟨s - 1, cur, rfl, by omega, by omega, hc1, hc0, hn, hm3.ext hx6, blk_ext hf3 hx6⟩
                case measure => simp [intOf]; omega
              case false =>
                have hn := fnd_yes hs2 (by rw [hokd]; rfl)
                replace hn := Lib.hid hn
                clear hokd
                go_wp2_with fail
                refine (hri.out _).mono ?_
                rintro e w4 ⟨rfl, hw4⟩
                obtain ⟨hcw4, hfw4⟩ := bcell hw4
                have hzw4 := bsize hw4
                (try simp only [World.size_alloc, World.size_setCell, World.size_drew, World.heap_drewN] at hcw4 hfw4 hzw4)
                have hx4 := ext_trans (ext_alloc _ _) hw4
                have l4 : w.heap.size < w4.heap.size := by omega
                have l41 : wr.heap.size < w4.heap.size := by omega
                go_wp2_with fail
                refine (hin.out _).mono ?_
                rintro e w5 ⟨rfl, hw5⟩
                obtain ⟨hcw5, hfw5⟩ := bcell hw5
                have hzw5 := bsize hw5
                (try simp only [World.size_alloc, World.size_setCell, World.size_drew, World.heap_drewN] at hcw5 hfw5 hzw5)
                have hx5 := ext_trans hx4 hw5
                have l5 : w.heap.size < w5.heap.size := by omega
                have l51 : wr.heap.size < w5.heap.size := by omega
                go_wp2_with fail
                refine (hmu.out _ (hsl3.ext hx5)).mono ?_
                rintro e w6 ⟨rfl, hw6⟩
                obtain ⟨hcw6, hfw6⟩ := bcell hw6
                have hzw6 := bsize hw6
                (try simp only [World.size_alloc, World.size_setCell, World.size_drew, World.heap_drewN] at hcw6 hfw6 hzw6)
                have hx6 := ext_trans hx5 hw6
                have l6 : w.heap.size < w6.heap.size := by omega
                have l61 : wr.heap.size < w6.heap.size := by omega
                have hF6 := blk_ext hf3 hx6
                have d0 := blk_cell (o := 0) hF6 rfl
                have d1 := blk_cell (o := 1) hF6 rfl
                have df : ∀ o, w6.frozen? ⟨F, o, none⟩ = false := fun o => blk_free hF6
                go_wp2_with fail
                go_roundw
                case rel => exact ⟨s - 1, s, rfl, by omega, by omega, by omega, by omega, hn, ((hm3.ext hx6).set _ hFw hvn).set _ hFw hvn, blk_set (o := 1) (blk_set (o := 0) hF6 _) _⟩
                case measure => simp [intOf]; omega
        · obtain rfl : s = root.len - 1 := by omega
          have hszI : ¬ root.len ≤ root.len - 1 := by omega
          by_cases h16 : cur ≤ 16
          · obtain ⟨hfr, rest', hst'⟩ := hst_hole hok hst.out hfnd.out h16
            have hfb := Pfx.hi_bd hfr
            have hlf := fun W => last_any a cur W hfr
            have hlfe : lastI a cur = Pfx.hi ⟨a, cur⟩ - 1 := rfl
            rw [hlfe] at hlf
            obtain ⟨fh, hfh⟩ : ∃ fh, fh = Pfx.hi ⟨a, cur⟩ := ⟨_, rfl⟩
            rw [← hfh] at hlf hfb hst'
            simp only at hfb
            replace hlf := Lib.hid hlf
            replace hst' := Lib.hid hst'
            clear hfh hlfe hfr
            have hw1 : IntKind.i64.wrap (fh - 1 + 1) = fh := by rw [show (fh - 1 + 1 : Int) = fh from by omega]; exact IntWalk.i64_in _ (by omega)
            go_wp2_with (at_builtin; refine wpList_append_own _ rfl _ _ 24 rfl (w.heap.size + 1) 23 i0 (.agg #[.int .i64 0, .int .i64 0]) 2 16 Try.underlying24 hi hz0 hz1 hz2 rfl (by decide) _ _ _ rfl (hm3.row.alloc _) ⟨wr.heap.size, 0, none⟩ 1 1 (pcells ⟨a, cur⟩) rfl rfl ?c1 ?c2 (by unfold maxLen; omega) (by omega) (by simp; omega) ?_; rotate_right; intro v' w3 hown' hgrow _; have hm4 := hm3.push hown' hgrow; have hF4 : blk w3 F #[.int .i64 a, .int .i64 cur] 23 := (hgrow.block F (by simp; omega) (fun e => hvn e.symm)).trans (block_alloc hf3); have e0 := blk_cell (o := 0) hF4 rfl; have e1 := blk_cell (o := 1) hF4 rfl; have l4 := hm4.lt)
            case c1 => intro j u hu; simp only [pcells] at hu; exact hu
            case c2 => intro u hu; simp [pcells] at hu; rcases hu with rfl | rfl <;> rfl
            refine (hlf.out _).mono ?_
            rintro e w5 ⟨rfl, hw5⟩
            obtain ⟨hcw5, hfw5⟩ := bcell hw5
            have hzw5 := bsize hw5
            (try simp only [World.size_alloc, World.size_setCell, World.size_drew, World.heap_drewN] at hcw5 hfw5 hzw5)
            have hm5 := hm4.ext hw5
            go_wp2_with fail
            go_roundw
            case rel => exact ⟨done ++ [⟨a, cur⟩], rest', fh, v', rfl, rfl, by omega, by omega, hst', hm5⟩
            case measure => simp [intOf]; omega
          · obtain rfl : cur = 17 := by omega
            obtain ⟨u, hu, huh⟩ := hst_used hok hst.out hfnd.out (by rw [← hrh.out]; omega)
            obtain ⟨n0, hn0, hun⟩ := List.getElem_of_mem hu
            subst hun
            go_wp2_with fail
            clear s0 s1 s2 c0 c1 cf hsl3 hfnd
            obtain ⟨wy, rfl⟩ : ∃ wy : World, wy = wr := ⟨_, rfl⟩
            go_loopw [4, 8] (fun s4 s8 wr => ∃ k : Nat, k ≤ n0 ∧ s4 = .int .i64 a ∧ s8 = .int .i64 k ∧ HMem w root uo us.length ucap done v wr) (fun _ s8 _ => us.length - (intOf s8).toNat)
            case atStart => exact ⟨0, Nat.zero_le _, rfl, rfl, hm3⟩
            case round =>
              obtain ⟨k, hk, rfl, rfl, hm6⟩ := hrel
              have s0 := blk_cell (o := 0) hm6.box rfl
              have s1 := blk_cell (o := 1) hm6.box rfl
              have s2 := blk_cell (o := 2) hm6.box rfl
              have lr6 := hm6.lt
              have hlt6 : k < us.length := by omega
              have hltI : (k : Int) < (us.length : Int) := by omega
              obtain ⟨b, off, cs, rfl, -, hlen, hR, hcs⟩ := (hm6.sl h).elem k hlt6
              unfold Pfx.R at hR
              subst hR
              obtain ⟨k0, k1⟩ := cellsAt_2 hcs
              have lb := lt_of_cell k0
              have hym := List.getElem_mem hlt6
              obtain ⟨y, hy⟩ : ∃ y, y = us[k] := ⟨_, rfl⟩
              rw [← hy] at k0 k1 hym
              replace hy := Lib.hid hy
              have hh := holdsIt_any y.at_ y.len a
              have hyr := (insQ_hi.1 (hok.ins y hym)).1
              have hyb := y.hi_bd hyr
              have hly := fun W => last_any y.at_ y.len W hyr
              have hlye : lastI y.at_ y.len = y.hi - 1 := rfl
              rw [hlye] at hly
              obtain ⟨q, hq⟩ : ∃ q, q = holdB y.at_ y.len a := ⟨_, rfl⟩
              rw [← hq] at hh
              cases q
              case true =>
                have hya := (holdB_iff.1 hq.symm).2.2
                have hsk := hst_skip hok hst.out hym hq.symm
                obtain ⟨yh, hyh⟩ : ∃ yh, yh = y.hi := ⟨_, rfl⟩
                rw [← hyh] at hly hyb hsk hya
                replace hq := Lib.hid hq
                replace hh := Lib.hid hh
                replace hly := Lib.hid hly
                replace hsk := Lib.hid hsk
                replace hyr := Lib.hid hyr
                clear hyh hlye hcs huh
                have hw1 : IntKind.i64.wrap (yh - 1 + 1) = yh := by rw [show (yh - 1 + 1 : Int) = yh from by omega]; exact IntWalk.i64_in _ (by omega)
                go_wp2_with fail
                refine (hh.out _).mono ?_
                rintro e w7 ⟨rfl, hw7⟩
                obtain ⟨hcw7, hfw7⟩ := bcell hw7
                have hzw7 := bsize hw7
                (try simp only [World.size_alloc, World.size_setCell, World.size_drew, World.heap_drewN] at hcw7 hfw7 hzw7)
                have hm7 := hm6.ext hw7
                have k0' := keepCell hw7 k0
                have k1' := keepCell hw7 k1
                have s0' := keepCell hw7 s0
                have s1' := keepCell hw7 s1
                have s2' := keepCell hw7 s2
                go_wp2_with fail
                refine (hly.out _).mono ?_
                rintro e w8 ⟨rfl, hw8⟩
                obtain ⟨hcw8, hfw8⟩ := bcell hw8
                have hzw8 := bsize hw8
                (try simp only [World.size_alloc, World.size_setCell, World.size_drew, World.heap_drewN] at hcw8 hfw8 hzw8)
                have hm8 := hm7.ext hw8
                go_wp2_with fail
                go_roundw
                case rel => exact ⟨done, rest, yh, v, rfl, rfl, by omega, by omega, hsk, hm8⟩
                case measure => simp [intOf]; omega
              case false =>
                have hkn : k ≠ n0 := by
                  rintro rfl
                  rw [hy.out] at hq
                  rw [huh] at hq
                  cases hq
                replace hq := Lib.hid hq
                replace hh := Lib.hid hh
                replace hly := Lib.hid hly
                replace hyr := Lib.hid hyr
                clear hlye hcs huh
                go_wp2_with fail
                refine (hh.out _).mono ?_
                rintro e w7 ⟨rfl, hw7⟩
                obtain ⟨hcw7, hfw7⟩ := bcell hw7
                have hzw7 := bsize hw7
                (try simp only [World.size_alloc, World.size_setCell, World.size_drew, World.heap_drewN] at hcw7 hfw7 hzw7)
                have hm7 := hm6.ext hw7
                go_wp2_with fail
                go_roundw
                case rel => exact ⟨k + 1, by omega, rfl, by go_num, hm7⟩
                case measure => simp [intOf]; omega
    · have hlt' : rh - 1 < a := by omega
      have hd := hst_end hok hst.out (by rw [← hrh.out]; omega)
      have ho : ColOut w (holesS root us) (.returned v) w2 := col_out (by rw [← hd]; exact hmem2.row) hmem2.bel.bel
      replace ho := Lib.hid ho
      clear hd
      go_wp2_with fail
      go_ret
      exact ho.out
end Go.Proofs.Ytflbpkgnadjokaa
namespace Go.Proofs.Ytflbpkgnadjokaa
open Go Go.RowKit
/-- A space and an error's number. -/
def spRes (c : Int) (root : Pfx) (l : List Pfx) : D := if c = 0 then .tup [.agg (encS root l), .v (.int .i64 0)] else .tup [.agg [.v (.int .i64 0), .v (.int .i64 0), .sl 2 []], .v (.int .i64 c)]
theorem spOut_rep {M : Nat → Prop} {w w' : World} {c : Int} {root : Pfx} {l : List Pfx} {e : Ending} (hM : ∀ b, M b → b < w.heap.size) (h : SpOut w c root l e w') : ∃ v, e = .returned v ∧ RepD M w' (spRes c root l) v ∧ Ext w w' := by
  rcases h with ⟨hc, ao, cap, rfl, hs, hx⟩ | ⟨hc, rfl, hx⟩
  · refine ⟨_, rfl, ?_, hx⟩
    unfold spRes
    rw [if_pos hc]
    refine .tup _ [_, _] rfl fun j d x hj hx => ?_
    match j with
    | 0 => cases hj; cases hx; exact rep_S hs (areaC hM)
    | 1 => cases hj; cases hx; exact .v _
    | j + 2 => simp at hj
  · refine ⟨_, rfl, ?_, hx⟩
    unfold spRes
    rw [if_neg hc]
    refine .tup _ [_, _] rfl fun j d x hj hx => ?_
    match j with
    | 0 =>
      cases hj; cases hx
      refine .agg _ [_, _, _] rfl (fun d hd => ?_) fun j d x hj hx => ?_
      · simp at hd
        rcases hd with rfl | rfl <;> rfl
      · match j with
        | 0 => cases hj; cases hx; exact .v _
        | 1 => cases hj; cases hx; exact .v _
        | 2 => cases hj; cases hx; exact .nil _ _ _ (by omega)
        | j + 3 => simp at hj
    | 1 => cases hj; cases hx; exact .v _
    | j + 2 => simp at hj
theorem spClaim_p (root : Pfx) (us : List Pfx) (p : Pfx) : PSpec Try.prog 15 [.agg (encS root us), .agg (encP p)] (spRes (claimE root us p) root (insU p us)) := by
  refine ⟨fnok_of Try.func15 (by kernel_rfl) rfl, fun M w vs hM hds => ?_⟩
  obtain ⟨v, vs, rfl, h1, hds⟩ := repDs_cons hds
  obtain ⟨v, vs, rfl, h2, hds⟩ := repDs_cons hds
  rw [repDs_nil hds]
  obtain ⟨uo, cap, rfl, hs⟩ := repD_S h1
  rw [repD_P h2]
  exact (claim_any root us uo cap p w hs).mono fun e w' h => spOut_rep hM h
theorem spFree_p (root : Pfx) (us : List Pfx) (p : Pfx) : PSpec Try.prog 16 [.agg (encS root us), .agg (encP p)] (spRes (freeE root us p) root (delU p us)) := by
  refine ⟨fnok_of Try.func16 (by kernel_rfl) rfl, fun M w vs hM hds => ?_⟩
  obtain ⟨v, vs, rfl, h1, hds⟩ := repDs_cons hds
  obtain ⟨v, vs, rfl, h2, hds⟩ := repDs_cons hds
  rw [repDs_nil hds]
  obtain ⟨uo, cap, rfl, hs⟩ := repD_S h1
  rw [repD_P h2]
  exact (free_any root us uo cap p w hs).mono fun e w' h => spOut_rep hM h
theorem samePrefixes_p (l m : List Pfx) : PSpec Try.prog 14 [.sl 2 (l.map encP), .sl 2 (m.map encP)] (.v (.bool (decide (l = m)))) := by
  refine ⟨fnok_of Try.func14 (by kernel_rfl) rfl, fun M w vs hM hds => ?_⟩
  obtain ⟨v, vs, rfl, h1, hds⟩ := repDs_cons hds
  obtain ⟨v, vs, rfl, h2, hds⟩ := repDs_cons hds
  rw [repDs_nil hds]
  obtain ⟨ao, cap, rfl, hs⟩ := repD_sl h1
  obtain ⟨bo, cap2, rfl, hs2⟩ := repD_sl h2
  exact (samePrefixes_any l m ao bo cap cap2 w hs hs2).mono fun e w' ⟨he, hx⟩ => ⟨_, he, .v _, hx⟩
theorem sameSpaces_p (p q : Pfx) (l m : List Pfx) : PSpec Try.prog 19 [.agg (encS p l), .agg (encS q m)] (.v (.bool (decide (p = q) && decide (l = m)))) := by
  refine ⟨fnok_of Try.func19 (by kernel_rfl) rfl, fun M w vs hM hds => ?_⟩
  obtain ⟨v, vs, rfl, h1, hds⟩ := repDs_cons hds
  obtain ⟨v, vs, rfl, h2, hds⟩ := repDs_cons hds
  rw [repDs_nil hds]
  obtain ⟨ao, cap, rfl, hs⟩ := repD_S h1
  obtain ⟨bo, cap2, rfl, hs2⟩ := repD_S h2
  exact (sameSpaces_any p q l m ao bo cap cap2 w hs hs2).mono fun e w' ⟨he, hx⟩ => ⟨_, he, .v _, hx⟩
theorem spaceBegun_p : PSpec Try.prog 12 [] (.v (.bool true)) := by
  refine ⟨fnok_of Try.func12 (by kernel_rfl) rfl, fun M w vs hM hds => ?_⟩
  rw [repDs_nil hds]
  exact (spaceBegun_any w).mono fun e w' ⟨he, hx⟩ => ⟨_, he, .v _, hx⟩
end Go.Proofs.Ytflbpkgnadjokaa
namespace Go.Proofs.Ytflbpkgnadjokaa
open Go Go.RowKit
def holRes (c : Int) (L : List Pfx) : D := if c = 0 then .tup [.sl 2 (L.map encP), .v (.int .i64 0)] else .tup [.sl 2 [], .v (.int .i64 c)]
theorem spHoles_p (root : Pfx) (us : List Pfx) : PSpec Try.prog 8 [.agg (encS root us)] (holRes (chkS root us) (holesS root us)) := by
  refine ⟨fnok_of Try.func8 (by kernel_rfl) rfl, fun M w vs hM hds => ?_⟩
  obtain ⟨v, vs, rfl, h1, hds⟩ := repDs_cons hds
  rw [repDs_nil hds]
  obtain ⟨uo, cap, rfl, hs⟩ := repD_S h1
  refine (holes_any root us uo cap w hs).mono fun e w' h => ?_
  unfold holRes
  rcases h with ⟨h0, ao, cap2, rfl, hs2, hx⟩ | ⟨h0, rfl, hx⟩
  · rw [if_pos h0]
    refine ⟨_, rfl, .tup _ [_, _] rfl fun j d x hj hx => ?_, hx⟩
    match j with
    | 0 => cases hj; cases hx; exact rep_sl hs2 (areaC hM)
    | 1 => cases hj; cases hx; exact .v _
    | j + 2 => simp at hj
  · rw [if_neg h0]
    refine ⟨_, rfl, .tup _ [_, _] rfl fun j d x hj hx => ?_, hx⟩
    match j with
    | 0 => cases hj; cases hx; exact .nil _ _ _ (by omega)
    | 1 => cases hj; cases hx; exact .v _
    | j + 2 => simp at hj
end Go.Proofs.Ytflbpkgnadjokaa
namespace Go.Proofs.Ytflbpkgnadjokaa
open Go Go.RowKit
theorem claimE_ok {root : Pfx} {us : List Pfx} (h : SpaceOK root us) (h32 : us.length ≠ 32) (p : Pfx) : claimE root us p = 0 ↔ insQ p root = true ∧ freeP us p = true := by
  unfold claimE freeP
  rw [if_pos (chkS_ok.2 h), if_neg h32]
  cases hi : insQ p root <;> cases hm : us.any p.meets <;> simp [hm]
theorem claim_iff {root : Pfx} {us : List Pfx} (h : SpaceOK root us) (h32 : us.length ≠ 32) (p : Pfx) : ((holesS root us).any fun q => insQ p q) = decide (claimE root us p = 0) := by
  rw [Bool.eq_iff_iff, decide_eq_true_eq, claimE_ok h h32, List.any_eq_true]
  constructor
  · rintro ⟨q, hq, hi⟩
    obtain ⟨h1, h2⟩ := holesS_ins h hq
    exact ⟨insQ_trans hi h1, free_sub hi h2⟩
  · rintro ⟨h1, h2⟩
    exact holesS_all h h1 h2
theorem insU_mem (p : Pfx) (us : List Pfx) (x : Pfx) : x ∈ insU p us ↔ x ∈ us ∨ x = p := by
  rw [(insU_perm p us).mem_iff]; simp
theorem insU_len (p : Pfx) (us : List Pfx) : (insU p us).length = us.length + 1 := by
  rw [(insU_perm p us).length_eq]; simp
theorem insU_apart {p : Pfx} (hp : p.right = true) : ∀ {us : List Pfx}, (∀ u ∈ us, u.right = true) → us.any p.meets = false → us.Pairwise Apart → (insU p us).Pairwise Apart
  | [], _, _, _ => by simp [insU]
  | x :: t, hr, hm, h => by
    obtain ⟨h1, h2⟩ := List.pairwise_cons.1 h
    rw [List.any_cons, Bool.or_eq_false_iff] at hm
    have hx := hr x (by simp)
    have hn : ¬ (p.at_ < x.hi ∧ x.at_ < p.hi) := fun hh => by
      have := meets_iff.2 ⟨hp, hx, hh.1, hh.2⟩
      rw [hm.1] at this; cases this
    have bx := x.hi_bd hx
    have bp := p.hi_bd hp
    unfold insU
    split
    · rename_i hlt
      refine List.pairwise_cons.2 ⟨fun y hy => ?_, h⟩
      rcases List.mem_cons.1 hy with rfl | hy
      · unfold Apart; omega
      · have := h1 y hy
        unfold Apart at *
        omega
    · rename_i hlt
      refine List.pairwise_cons.2 ⟨fun y hy => ?_, insU_apart hp (fun u hu => hr u (by simp [hu])) hm.2 h2⟩
      rcases (insU_mem p t y).1 hy with hy | rfl
      · exact h1 y hy
      · unfold Apart; omega
theorem insU_ok {root : Pfx} {us : List Pfx} (h : SpaceOK root us) (h32 : us.length ≠ 32) {p : Pfx} (hc : claimE root us p = 0) : SpaceOK root (insU p us) := by
  obtain ⟨h1, h2⟩ := (claimE_ok h h32 p).1 hc
  have hm : us.any p.meets = false := by simpa [freeP] using h2
  refine ⟨h.rr, ?_, fun u hu => ?_, insU_apart (insQ_iff.1 h1).1 (fun u hu => (insQ_iff.1 (h.ins u hu)).1) hm h.apart⟩
  · rw [insU_len]; have := h.many; omega
  · rcases (insU_mem p us u).1 hu with hu | rfl
    · exact h.ins u hu
    · exact h1
theorem not_in {root : Pfx} {us : List Pfx} (h : SpaceOK root us) {p : Pfx} (hp : p.right = true) (hm : us.any p.meets = false) : p ∉ us := fun hu => by
  have := List.any_eq_false.1 hm p hu
  have b := p.hi_bd hp
  exact this (meets_iff.2 ⟨hp, hp, by omega, by omega⟩)
theorem del_insU (p : Pfx) : ∀ (us : List Pfx), p ∉ us → delU p (insU p us) = us
  | [], _ => by simp [insU, delU]
  | x :: t, h => by
    have hx : ¬ x = p := fun e => h (by simp [e])
    have ht : p ∉ t := fun e => h (by simp [e])
    unfold insU
    split
    · unfold delU
      rw [List.filter_cons_of_neg (by simp)]
      exact del_none (x :: t) p h
    · have ih := del_insU p t ht
      unfold delU at ih ⊢
      rw [List.filter_cons_of_pos (by simpa using hx), ih]
theorem claim_free {root : Pfx} {us : List Pfx} (h : SpaceOK root us) (h32 : us.length ≠ 32) {p : Pfx} (hc : claimE root us p = 0) : freeE root (insU p us) p = 0 ∧ delU p (insU p us) = us := by
  obtain ⟨h1, h2⟩ := (claimE_ok h h32 p).1 hc
  have hm : us.any p.meets = false := by simpa [freeP] using h2
  refine ⟨?_, del_insU p us (not_in h (insQ_iff.1 h1).1 hm)⟩
  unfold freeE
  rw [if_pos (chkS_ok.2 (insU_ok h h32 hc)), if_pos ((insU_mem p us p).2 (.inr rfl))]
/-- Fit's answers, where there is no error. -/
theorem fit_cases {root : Pfx} {us : List Pfx} (h : SpaceOK root us) (h32 : us.length ≠ 32) {size : Int} (he : (fitS root us size).2.2 = 0) :
    ((fitS root us size).2.1 = false ∧ ∀ p : Pfx, p.len = size → claimE root us p ≠ 0) ∨
    ((fitS root us size).2.1 = true ∧ (fitS root us size).1.len = size ∧ claimE root us (fitS root us size).1 = 0 ∧ ∀ p : Pfx, p.len = size → claimE root us p = 0 → (fitS root us size).1.at_ ≤ p.at_) := by
  have hck := chkS_ok.2 h
  unfold fitS at he ⊢
  rw [if_pos hck] at he ⊢
  by_cases hr : size < root.len ∨ 16 < size
  · rw [if_pos hr] at he
    simp at he
  rw [if_neg hr]
  have hr' : root.len ≤ size ∧ size ≤ 16 := by omega
  have hin : ∀ p : Pfx, p.len = size → claimE root us p = 0 → ∃ q ∈ holesS root us, insQ p q = true ∧ q.len ≤ size := by
    intro p hp hc
    obtain ⟨h1, h2⟩ := (claimE_ok h h32 p).1 hc
    obtain ⟨q, hq, hi⟩ := holesS_all h h1 h2
    have := (insQ_iff.1 hi).2.2.1
    exact ⟨q, hq, hi, by omega⟩
  cases hf : (holesS root us).find? (fun q => decide (q.len ≤ size)) with
  | none =>
    refine .inl ⟨rfl, fun p hp hc => ?_⟩
    obtain ⟨q, hq, hi, hl⟩ := hin p hp hc
    have := List.find?_eq_none.1 hf q hq
    simp at this
    omega
  | some q =>
    have hql : q.len ≤ size := by simpa using List.find?_some hf
    have hqm := List.mem_of_find?_eq_some hf
    obtain ⟨k1, k2⟩ := holesS_ins h hqm
    have hqr := (insQ_iff.1 k1).1
    have g0 := q.bd hqr
    have hb := q.hi_bd hqr
    have hs := (szI_le (l := size) (m := q.len) g0.1 hr'.2 (by omega) g0.2.1).2 hql
    have hsub : insQ ⟨q.at_, size⟩ q = true := by
      refine insQ_iff.2 ⟨?_, hqr, hql, Int.le_refl _, hb.1⟩
      have hd : szI size ∣ szI q.len := by obtain ⟨k, hk, -⟩ := szI_dvd g0.1 hql hr'.2; exact ⟨k, hk⟩
      exact right_of (a := q.at_) (l := size) (by omega) hr'.2 (by omega) (by omega) (Int.emod_eq_zero_of_dvd (Int.dvd_trans hd (Int.dvd_of_emod_eq_zero g0.2.2.2.2)))
    refine .inr ⟨rfl, rfl, (claimE_ok h h32 _).2 ⟨insQ_trans hsub k1, free_sub hsub k2⟩, fun p hp hc => ?_⟩
    obtain ⟨q', hq', hi', hl'⟩ := hin p hp hc
    have hpq := (insQ_iff.1 hi').2.2.2
    obtain ⟨pre, post, e, hpre⟩ := List.find?_eq_some_iff_append.1 hf |>.2
    have hsrt := holesS_sorted h
    rw [e] at hsrt hq'
    rcases List.mem_append.1 hq' with hq' | hq'
    · have := hpre q' hq'
      simp at this
      omega
    · rcases List.mem_cons.1 hq' with rfl | hq'
      · exact hpq.1
      · have := (List.pairwise_cons.1 (List.pairwise_append.1 hsrt).2.1).1 q' hq'
        unfold Apart at this
        show q.at_ ≤ p.at_
        omega
end Go.Proofs.Ytflbpkgnadjokaa
namespace Go.Proofs.Ytflbpkgnadjokaa
open Go Go.RowKit Go.Proofs
def holdQ (a : Int) (q : Pfx) : Bool := holdP q.at_ q.len a
theorem holdQ_iff {q : Pfx} {a : Int} : holdQ a q = true ↔ q.right = true ∧ q.at_ ≤ a ∧ a < q.hi := by
  unfold holdQ; rw [holdP_eq]; exact holdB_iff
theorem apart_count (a : Int) : ∀ (l : List Pfx), l.Pairwise Apart → l.countP (holdQ a) ≤ 1
  | [], _ => by simp
  | x :: t, h => by
    obtain ⟨h1, h2⟩ := List.pairwise_cons.1 h
    rw [List.countP_cons]
    by_cases hx : holdQ a x = true
    · have h0 : t.countP (holdQ a) = 0 := by
        rw [List.countP_eq_zero]
        intro y hy hp
        have := h1 y hy
        unfold Apart at this
        have k1 := (holdQ_iff.1 hx).2
        have k2 := (holdQ_iff.1 hp).2
        omega
      rw [h0, if_pos hx]
      omega
    · rw [if_neg hx]
      exact apart_count a t h2
theorem whole_one {root : Pfx} {us : List Pfx} (h : SpaceOK root us) {a : Int} (h1 : root.at_ ≤ a) (h2 : a < root.hi) : (holesS root us).countP (holdQ a) + us.countP (holdQ a) = 1 := by
  have c1 := apart_count a _ (holesS_sorted h)
  have c2 := apart_count a _ h.apart
  obtain ⟨g1, g2, g3, g4, g5⟩ := root.bd h.rr
  have hrb := root.hi_bd h.rr
  have e16 : szI 16 = 1 := by decide
  have hr : Pfx.right ⟨a, 16⟩ = true := right_of (a := a) (l := 16) (by omega) (by omega) (by omega) (by omega) (by rw [e16]; exact Int.emod_one a)
  have hi : insQ ⟨a, 16⟩ root = true := insQ_iff.2 ⟨hr, h.rr, g2, h1, h2⟩
  have hhi : Pfx.hi ⟨a, 16⟩ = a + 1 := by show a + szI 16 = _; rw [e16]
  by_cases hu : ∃ u ∈ us, holdQ a u = true
  · obtain ⟨u, hu, hp⟩ := hu
    have k2 : 0 < us.countP (holdQ a) := List.countP_pos_iff.2 ⟨u, hu, hp⟩
    have k1 : (holesS root us).countP (holdQ a) = 0 := by
      rw [List.countP_eq_zero]
      intro q hq hqa
      have hf := (holesS_ins h hq).2
      unfold freeP at hf
      rw [Bool.not_eq_true', List.any_eq_false] at hf
      have m1 := holdQ_iff.1 hp
      have m2 := holdQ_iff.1 hqa
      exact hf u hu (meets_iff.2 ⟨m2.1, m1.1, by omega, by omega⟩)
    omega
  · have k2 : us.countP (holdQ a) = 0 := by
      rw [List.countP_eq_zero]
      intro u hu' hp
      exact hu ⟨u, hu', hp⟩
    have hf : freeP us ⟨a, 16⟩ = true := by
      unfold freeP
      rw [Bool.not_eq_true', List.any_eq_false]
      intro u hu' hm
      obtain ⟨_, m2, m3, m4⟩ := meets_iff.1 hm
      rw [hhi] at m4
      exact hu ⟨u, hu', holdQ_iff.2 ⟨m2, by omega, m3⟩⟩
    obtain ⟨q, hq, hqi⟩ := holesS_all h hi hf
    obtain ⟨_, n2, n3, n4⟩ := insQ_hi.1 hqi
    rw [hhi] at n4
    have k1 : 0 < (holesS root us).countP (holdQ a) := List.countP_pos_iff.2 ⟨q, hq, holdQ_iff.2 ⟨n2, n3, by omega⟩⟩
    omega
theorem count_take (a : Int) (l : List Pfx) (k : Nat) (hk : k < l.length) : (l.take (k + 1)).countP (holdQ a) = (l.take k).countP (holdQ a) + (if holdQ a l[k] = true then 1 else 0) := by
  rw [List.take_succ_eq_append_getElem hk, List.countP_append]
  congr 1
  simp [List.countP_cons]
theorem count_bd (a : Int) (l : List Pfx) (k : Nat) : (l.take k).countP (holdQ a) ≤ l.length :=
  Nat.le_trans List.countP_le_length (by rw [List.length_take]; exact Nat.min_le_right _ _)
end Go.Proofs.Ytflbpkgnadjokaa
namespace Go.Proofs.Ytflbpkgnadjokaa
open Go Go.RowKit
set_option maxHeartbeats 4000000 in
theorem spaceTrue_p (root : Pfx) (us : List Pfx) (p : Pfx) (size : Int) : PSpec Try.prog 5 [.agg (encS root us), .agg (encP p), .v (.int .i64 size)] (.v (.bool true)) := by
  by_cases h0 : chkS root us = 0
  case neg =>
    have h0' := eq_false h0
    have hne : (chkS root us != 0) = true := by simpa using h0
    refine pspec_intro tab_ok Try.func5 rfl (fnok_of Try.func5 (by kernel_rfl) rfl) (by rw [Try.ntmps5]; simp only [List.length_cons, List.length_nil]; omega) ?_
    rw [Try.ntmps5, Try.results5]
    simp only [argP, List.map_cons, List.map_nil, Nat.reduceAdd]
    repeat (first | ((with_reducible refine sOps_cons ?_ (fun R hR => ?_)); (exact rfl); (simp only [undef, ob_tt, ob_ff, ob_tf, ob_ft, ob_nt, ob_nf, cond_true, cond_false, opS, evL, look, dstB, putE, effC, setC, hatL, pickS, unS, nilS, binS, intS, fieldS, loadS, indexS, extrS, partsS, buildS, allLen, bslS, convS, lenS, appS, storeS, callS, tabT, tabQ, okP, cellsP, PV.one, D.one, Value.oneCell', dsOf, intsD, fillD, setAt, seqK_nor, seqK_normal, seqK_ret, seqK_exit, blkK_nor, blkK_normal, blkK_ret, blkK_exit, List.map_cons, List.map_nil, List.length_cons, List.length_nil, List.all_cons, List.all_nil, List.take_succ_cons, List.take_zero, List.drop_succ_cons, List.drop_zero, List.take_nil, List.drop_nil, List.cons_append, List.nil_append, List.append_nil, List.append_assoc, List.reverse_cons, List.reverse_nil, List.getElem?_cons_zero, List.getElem?_cons_succ, List.getElem?_nil, List.getElem?_toArray, List.getElem?_map, Option.map_some, Option.map_none, Option.getD_some, Option.getD_none, Option.bind_some, Option.bind_none, Nat.zero_add, Nat.add_zero, decide_true, decide_false, decide_eq_true_eq, Bool.and_true, Bool.true_and, Bool.and_false, Bool.false_and, Bool.and_self, Bool.not_true, Bool.not_false, Bool.true_eq_false, Bool.false_eq_true, beq_self_eq_true, ne_eq, not_true_eq_false, not_false_eq_true, and_true, true_and, and_self, or_self, or_false, false_or, or_true, true_or, eq_self, forall_const, false_implies, implies_true, Int.toNat_natCast, Int.natCast_nonneg, Nat.lt_irrefl, Nat.le_refl, List.length_map, List.length_append, Option.some.injEq, Prod.mk.injEq, Nat.not_lt_zero, Nat.zero_le, Nat.zero_lt_succ, Nat.lt_add_one, grdO_t, grdO_f, runO_res, guardD, yieldD, aggP, tupP, dsR, rowsS, srcS, effM, heapM, rid, ren, renL, renR, renC, mids, dRows_get, dRows_len, dRows_app, renL_d, renR_d, renR_set, List.getD_cons_zero, List.getD_cons_succ, List.getD_nil, List.range_succ, List.range_zero, List.length_set, List.set_cons_zero, List.set_cons_succ, Nat.reduceAdd, Nat.reduceMul, Nat.reduceSub, Nat.reduceLeDiff, Nat.reduceLT, Nat.reduceEqDiff, reduceIte, reduceCtorEq, Int.reduceLE, Int.reduceToNat, IntKind.bits, encS, encP, holRes, h0', hne]); (first | ((repeat (with_reducible refine And.intro (by first | omega | assumption) ?_)); (with_reducible refine hR _ _ _ ?_); clear hR R) | (refine runO_P (by (try simp only [undef, ob_tt, ob_ff, ob_tf, ob_ft, ob_nt, ob_nf, cond_true, cond_false, opS, evL, look, dstB, putE, effC, setC, hatL, pickS, unS, nilS, binS, intS, fieldS, loadS, indexS, extrS, partsS, buildS, allLen, bslS, convS, lenS, appS, storeS, callS, tabT, tabQ, okP, cellsP, PV.one, D.one, Value.oneCell', dsOf, intsD, fillD, setAt, seqK_nor, seqK_normal, seqK_ret, seqK_exit, blkK_nor, blkK_normal, blkK_ret, blkK_exit, List.map_cons, List.map_nil, List.length_cons, List.length_nil, List.all_cons, List.all_nil, List.take_succ_cons, List.take_zero, List.drop_succ_cons, List.drop_zero, List.take_nil, List.drop_nil, List.cons_append, List.nil_append, List.append_nil, List.append_assoc, List.reverse_cons, List.reverse_nil, List.getElem?_cons_zero, List.getElem?_cons_succ, List.getElem?_nil, List.getElem?_toArray, List.getElem?_map, Option.map_some, Option.map_none, Option.getD_some, Option.getD_none, Option.bind_some, Option.bind_none, Nat.zero_add, Nat.add_zero, decide_true, decide_false, decide_eq_true_eq, Bool.and_true, Bool.true_and, Bool.and_false, Bool.false_and, Bool.and_self, Bool.not_true, Bool.not_false, Bool.true_eq_false, Bool.false_eq_true, beq_self_eq_true, ne_eq, not_true_eq_false, not_false_eq_true, and_true, true_and, and_self, or_self, or_false, false_or, or_true, true_or, eq_self, forall_const, false_implies, implies_true, Int.toNat_natCast, Int.natCast_nonneg, Nat.lt_irrefl, Nat.le_refl, List.length_map, List.length_append, Option.some.injEq, Prod.mk.injEq, Nat.not_lt_zero, Nat.zero_le, Nat.zero_lt_succ, Nat.lt_add_one, grdO_t, grdO_f, runO_res, guardD, yieldD, aggP, tupP, dsR, rowsS, srcS, effM, heapM, rid, ren, renL, renR, renC, mids, dRows_get, dRows_len, dRows_app, renL_d, renR_d, renR_set, List.getD_cons_zero, List.getD_cons_succ, List.getD_nil, List.range_succ, List.range_zero, List.length_set, List.set_cons_zero, List.set_cons_succ, Nat.reduceAdd, Nat.reduceMul, Nat.reduceSub, Nat.reduceLeDiff, Nat.reduceLT, Nat.reduceEqDiff, reduceIte, reduceCtorEq, Int.reduceLE, Int.reduceToNat, IntKind.bits, vwL, viewL_v, vw, viewL, viewR, viewF, viewR_d, viewL_d, encS, encP, holRes, h0', hne]); exact rfl) (by first | exact spHoles_p root us | exact spaceBegun_p) (by first | exact .inl rfl | exact .inr rfl | exact .inl (by simp only [tcL, tchL_t, tc, tchL, tchF, List.append_nil])) ?_; (try simp only [putE, tcL, tchL_t, tc, tchL, tchF, tchR, tchR_d, tchL_d, hatL, List.append_nil, List.nil_append, List.cons_append, encS, encP, holRes, h0', hne]); (with_reducible refine hR _ _ _ ?_); clear hR R) | (fail; (with_reducible refine hR _ _ _ ?_); clear hR R))) | ((with_reducible refine sOps_nil ?_); (try simp only [seqK_nor, blkK_nor])) | ((with_reducible refine sOps_nild hops ?_ ?_); (kernel_rfl); (try simp only [seqK_nor, blkK_nor])) | (with_reducible refine pwp_seq fun C hC => ?_) | (with_reducible refine pwp_block fun C hC => ?_) | ((with_reducible refine swp_region_id ?_); (with_reducible refine swp_prune (rg 22) ?_); simp only [tabE, rg, look, Nat.reduceEqDiff, reduceIte, Nat.reduceAdd, reduceCtorEq, Nat.succ_ne_self]; (with_reducible refine swp_region tab_ok mixed (by simp) rfl fun ops' hops => ?_); simp only [List.map_cons, List.map_nil]) | ((with_reducible refine pwp_cond_t ?_ ?_); (exact rfl)) | ((with_reducible refine pwp_cond_f ?_ ?_); (exact rfl)) | (with_reducible refine pwp_skip ?_) | (with_reducible refine pwp_exit ?_) | (with_reducible refine pwp_ret ?_) | (with_reducible refine pwp_label ?_) | (with_reducible refine seqK_x _ _ ?_) | (with_reducible refine seqK_r _ ?_) | (with_reducible refine seqK_n _ ?_) | (with_reducible refine blkK_n _ _ ?_) | (with_reducible refine blkK_r _ _ ?_) | (with_reducible refine blkK_h _ _ ?_) | ((with_reducible refine blkK_x _ _ _ ?_ ?_); (decide)) | ((with_reducible refine hC _ _ ?_); clear hC C) | (clear hC C; (with_reducible refine hC _ _ ?_); clear hC C) | (clear hC C; clear hC C; (with_reducible refine hC _ _ ?_); clear hC C))
    refine ⟨(by first | exact .inl rfl | exact .inr rfl), _, _, (by (try simp only [retPL, retPV, retP, undef, ob_tt, ob_ff, ob_tf, ob_ft, ob_nt, ob_nf, cond_true, cond_false, opS, evL, look, dstB, putE, effC, setC, hatL, pickS, unS, nilS, binS, intS, fieldS, loadS, indexS, extrS, partsS, buildS, allLen, bslS, convS, lenS, appS, storeS, callS, tabT, tabQ, okP, cellsP, PV.one, D.one, Value.oneCell', dsOf, intsD, fillD, setAt, seqK_nor, seqK_normal, seqK_ret, seqK_exit, blkK_nor, blkK_normal, blkK_ret, blkK_exit, List.map_cons, List.map_nil, List.length_cons, List.length_nil, List.all_cons, List.all_nil, List.take_succ_cons, List.take_zero, List.drop_succ_cons, List.drop_zero, List.take_nil, List.drop_nil, List.cons_append, List.nil_append, List.append_nil, List.append_assoc, List.reverse_cons, List.reverse_nil, List.getElem?_cons_zero, List.getElem?_cons_succ, List.getElem?_nil, List.getElem?_toArray, List.getElem?_map, Option.map_some, Option.map_none, Option.getD_some, Option.getD_none, Option.bind_some, Option.bind_none, Nat.zero_add, Nat.add_zero, decide_true, decide_false, decide_eq_true_eq, Bool.and_true, Bool.true_and, Bool.and_false, Bool.false_and, Bool.and_self, Bool.not_true, Bool.not_false, Bool.true_eq_false, Bool.false_eq_true, beq_self_eq_true, ne_eq, not_true_eq_false, not_false_eq_true, and_true, true_and, and_self, or_self, or_false, false_or, or_true, true_or, eq_self, forall_const, false_implies, implies_true, Int.toNat_natCast, Int.natCast_nonneg, Nat.lt_irrefl, Nat.le_refl, List.length_map, List.length_append, Option.some.injEq, Prod.mk.injEq, Nat.not_lt_zero, Nat.zero_le, Nat.zero_lt_succ, Nat.lt_add_one, grdO_t, grdO_f, runO_res, guardD, yieldD, aggP, tupP, dsR, rowsS, srcS, effM, heapM, rid, ren, renL, renR, renC, mids, dRows_get, dRows_len, dRows_app, renL_d, renR_d, renR_set, List.getD_cons_zero, List.getD_cons_succ, List.getD_nil, List.range_succ, List.range_zero, List.length_set, List.set_cons_zero, List.set_cons_succ, Nat.reduceAdd, Nat.reduceMul, Nat.reduceSub, Nat.reduceLeDiff, Nat.reduceLT, Nat.reduceEqDiff, reduceIte, reduceCtorEq, Int.reduceLE, Int.reduceToNat, IntKind.bits, encS]); exact rfl), (by (try simp only [retP, undef, ob_tt, ob_ff, ob_tf, ob_ft, ob_nt, ob_nf, cond_true, cond_false, opS, evL, look, dstB, putE, effC, setC, hatL, pickS, unS, nilS, binS, intS, fieldS, loadS, indexS, extrS, partsS, buildS, allLen, bslS, convS, lenS, appS, storeS, callS, tabT, tabQ, okP, cellsP, PV.one, D.one, Value.oneCell', dsOf, intsD, fillD, setAt, seqK_nor, seqK_normal, seqK_ret, seqK_exit, blkK_nor, blkK_normal, blkK_ret, blkK_exit, List.map_cons, List.map_nil, List.length_cons, List.length_nil, List.all_cons, List.all_nil, List.take_succ_cons, List.take_zero, List.drop_succ_cons, List.drop_zero, List.take_nil, List.drop_nil, List.cons_append, List.nil_append, List.append_nil, List.append_assoc, List.reverse_cons, List.reverse_nil, List.getElem?_cons_zero, List.getElem?_cons_succ, List.getElem?_nil, List.getElem?_toArray, List.getElem?_map, Option.map_some, Option.map_none, Option.getD_some, Option.getD_none, Option.bind_some, Option.bind_none, Nat.zero_add, Nat.add_zero, decide_true, decide_false, decide_eq_true_eq, Bool.and_true, Bool.true_and, Bool.and_false, Bool.false_and, Bool.and_self, Bool.not_true, Bool.not_false, Bool.true_eq_false, Bool.false_eq_true, beq_self_eq_true, ne_eq, not_true_eq_false, not_false_eq_true, and_true, true_and, and_self, or_self, or_false, false_or, or_true, true_or, eq_self, forall_const, false_implies, implies_true, Int.toNat_natCast, Int.natCast_nonneg, Nat.lt_irrefl, Nat.le_refl, List.length_map, List.length_append, Option.some.injEq, Prod.mk.injEq, Nat.not_lt_zero, Nat.zero_le, Nat.zero_lt_succ, Nat.lt_add_one, grdO_t, grdO_f, runO_res, guardD, yieldD, aggP, tupP, dsR, rowsS, srcS, effM, heapM, rid, ren, renL, renR, renC, mids, dRows_get, dRows_len, dRows_app, renL_d, renR_d, renR_set, List.getD_cons_zero, List.getD_cons_succ, List.getD_nil, List.range_succ, List.range_zero, List.length_set, List.set_cons_zero, List.set_cons_succ, Nat.reduceAdd, Nat.reduceMul, Nat.reduceSub, Nat.reduceLeDiff, Nat.reduceLT, Nat.reduceEqDiff, reduceIte, reduceCtorEq, Int.reduceLE, Int.reduceToNat, IntKind.bits, vw, viewL, viewR, viewF, viewR_d, viewL_d, encS]); exact rfl), ?_⟩
    repeat (first | exact DLe.refl _ | exact DLe.nil _ | (refine DLe.tup ?_) | (refine DLe.agg ?_ rfl) | exact trivial | (refine And.intro ?_ ?_))
  by_cases h32 : us.length = 32
  · refine pspec_intro tab_ok Try.func5 rfl (fnok_of Try.func5 (by kernel_rfl) rfl) (by rw [Try.ntmps5]; simp only [List.length_cons, List.length_nil]; omega) ?_
    rw [Try.ntmps5, Try.results5]
    simp only [argP, List.map_cons, List.map_nil, Nat.reduceAdd]
    repeat (first | ((with_reducible refine sOps_cons ?_ (fun R hR => ?_)); (exact rfl); (simp only [undef, ob_tt, ob_ff, ob_tf, ob_ft, ob_nt, ob_nf, cond_true, cond_false, opS, evL, look, dstB, putE, effC, setC, hatL, pickS, unS, nilS, binS, intS, fieldS, loadS, indexS, extrS, partsS, buildS, allLen, bslS, convS, lenS, appS, storeS, callS, tabT, tabQ, okP, cellsP, PV.one, D.one, Value.oneCell', dsOf, intsD, fillD, setAt, seqK_nor, seqK_normal, seqK_ret, seqK_exit, blkK_nor, blkK_normal, blkK_ret, blkK_exit, List.map_cons, List.map_nil, List.length_cons, List.length_nil, List.all_cons, List.all_nil, List.take_succ_cons, List.take_zero, List.drop_succ_cons, List.drop_zero, List.take_nil, List.drop_nil, List.cons_append, List.nil_append, List.append_nil, List.append_assoc, List.reverse_cons, List.reverse_nil, List.getElem?_cons_zero, List.getElem?_cons_succ, List.getElem?_nil, List.getElem?_toArray, List.getElem?_map, Option.map_some, Option.map_none, Option.getD_some, Option.getD_none, Option.bind_some, Option.bind_none, Nat.zero_add, Nat.add_zero, decide_true, decide_false, decide_eq_true_eq, Bool.and_true, Bool.true_and, Bool.and_false, Bool.false_and, Bool.and_self, Bool.not_true, Bool.not_false, Bool.true_eq_false, Bool.false_eq_true, beq_self_eq_true, ne_eq, not_true_eq_false, not_false_eq_true, and_true, true_and, and_self, or_self, or_false, false_or, or_true, true_or, eq_self, forall_const, false_implies, implies_true, Int.toNat_natCast, Int.natCast_nonneg, Nat.lt_irrefl, Nat.le_refl, List.length_map, List.length_append, Option.some.injEq, Prod.mk.injEq, Nat.not_lt_zero, Nat.zero_le, Nat.zero_lt_succ, Nat.lt_add_one, grdO_t, grdO_f, runO_res, guardD, yieldD, aggP, tupP, dsR, rowsS, srcS, effM, heapM, rid, ren, renL, renR, renC, mids, dRows_get, dRows_len, dRows_app, renL_d, renR_d, renR_set, List.getD_cons_zero, List.getD_cons_succ, List.getD_nil, List.range_succ, List.range_zero, List.length_set, List.set_cons_zero, List.set_cons_succ, Nat.reduceAdd, Nat.reduceMul, Nat.reduceSub, Nat.reduceLeDiff, Nat.reduceLT, Nat.reduceEqDiff, reduceIte, reduceCtorEq, Int.reduceLE, Int.reduceToNat, IntKind.bits, encS, encP, holRes, h0, h32, bne_self_eq_false]); (first | ((repeat (with_reducible refine And.intro (by first | omega | assumption) ?_)); (with_reducible refine hR _ _ _ ?_); clear hR R) | (refine runO_P (by (try simp only [undef, ob_tt, ob_ff, ob_tf, ob_ft, ob_nt, ob_nf, cond_true, cond_false, opS, evL, look, dstB, putE, effC, setC, hatL, pickS, unS, nilS, binS, intS, fieldS, loadS, indexS, extrS, partsS, buildS, allLen, bslS, convS, lenS, appS, storeS, callS, tabT, tabQ, okP, cellsP, PV.one, D.one, Value.oneCell', dsOf, intsD, fillD, setAt, seqK_nor, seqK_normal, seqK_ret, seqK_exit, blkK_nor, blkK_normal, blkK_ret, blkK_exit, List.map_cons, List.map_nil, List.length_cons, List.length_nil, List.all_cons, List.all_nil, List.take_succ_cons, List.take_zero, List.drop_succ_cons, List.drop_zero, List.take_nil, List.drop_nil, List.cons_append, List.nil_append, List.append_nil, List.append_assoc, List.reverse_cons, List.reverse_nil, List.getElem?_cons_zero, List.getElem?_cons_succ, List.getElem?_nil, List.getElem?_toArray, List.getElem?_map, Option.map_some, Option.map_none, Option.getD_some, Option.getD_none, Option.bind_some, Option.bind_none, Nat.zero_add, Nat.add_zero, decide_true, decide_false, decide_eq_true_eq, Bool.and_true, Bool.true_and, Bool.and_false, Bool.false_and, Bool.and_self, Bool.not_true, Bool.not_false, Bool.true_eq_false, Bool.false_eq_true, beq_self_eq_true, ne_eq, not_true_eq_false, not_false_eq_true, and_true, true_and, and_self, or_self, or_false, false_or, or_true, true_or, eq_self, forall_const, false_implies, implies_true, Int.toNat_natCast, Int.natCast_nonneg, Nat.lt_irrefl, Nat.le_refl, List.length_map, List.length_append, Option.some.injEq, Prod.mk.injEq, Nat.not_lt_zero, Nat.zero_le, Nat.zero_lt_succ, Nat.lt_add_one, grdO_t, grdO_f, runO_res, guardD, yieldD, aggP, tupP, dsR, rowsS, srcS, effM, heapM, rid, ren, renL, renR, renC, mids, dRows_get, dRows_len, dRows_app, renL_d, renR_d, renR_set, List.getD_cons_zero, List.getD_cons_succ, List.getD_nil, List.range_succ, List.range_zero, List.length_set, List.set_cons_zero, List.set_cons_succ, Nat.reduceAdd, Nat.reduceMul, Nat.reduceSub, Nat.reduceLeDiff, Nat.reduceLT, Nat.reduceEqDiff, reduceIte, reduceCtorEq, Int.reduceLE, Int.reduceToNat, IntKind.bits, vwL, viewL_v, vw, viewL, viewR, viewF, viewR_d, viewL_d, encS, encP, holRes, h0, h32, bne_self_eq_false]); exact rfl) (by first | exact spHoles_p root us | exact spaceBegun_p) (by first | exact .inl rfl | exact .inr rfl | exact .inl (by simp only [tcL, tchL_t, tc, tchL, tchF, List.append_nil])) ?_; (try simp only [putE, tcL, tchL_t, tc, tchL, tchF, tchR, tchR_d, tchL_d, hatL, List.append_nil, List.nil_append, List.cons_append, encS, encP, holRes, h0, h32, bne_self_eq_false]); (with_reducible refine hR _ _ _ ?_); clear hR R) | (fail; (with_reducible refine hR _ _ _ ?_); clear hR R))) | ((with_reducible refine sOps_nil ?_); (try simp only [seqK_nor, blkK_nor])) | ((with_reducible refine sOps_nild hops ?_ ?_); (kernel_rfl); (try simp only [seqK_nor, blkK_nor])) | (with_reducible refine pwp_seq fun C hC => ?_) | (with_reducible refine pwp_block fun C hC => ?_) | ((with_reducible refine swp_region_id ?_); (with_reducible refine swp_prune (rg 22) ?_); simp only [tabE, rg, look, Nat.reduceEqDiff, reduceIte, Nat.reduceAdd, reduceCtorEq, Nat.succ_ne_self]; (with_reducible refine swp_region tab_ok mixed (by simp) rfl fun ops' hops => ?_); simp only [List.map_cons, List.map_nil]) | ((with_reducible refine pwp_cond_t ?_ ?_); (exact rfl)) | ((with_reducible refine pwp_cond_f ?_ ?_); (exact rfl)) | (with_reducible refine pwp_skip ?_) | (with_reducible refine pwp_exit ?_) | (with_reducible refine pwp_ret ?_) | (with_reducible refine pwp_label ?_) | (with_reducible refine seqK_x _ _ ?_) | (with_reducible refine seqK_r _ ?_) | (with_reducible refine seqK_n _ ?_) | (with_reducible refine blkK_n _ _ ?_) | (with_reducible refine blkK_r _ _ ?_) | (with_reducible refine blkK_h _ _ ?_) | ((with_reducible refine blkK_x _ _ _ ?_ ?_); (decide)) | ((with_reducible refine hC _ _ ?_); clear hC C) | (clear hC C; (with_reducible refine hC _ _ ?_); clear hC C) | (clear hC C; clear hC C; (with_reducible refine hC _ _ ?_); clear hC C))
    refine ⟨(by first | exact .inl rfl | exact .inr rfl), _, _, (by (try simp only [retPL, retPV, retP, undef, ob_tt, ob_ff, ob_tf, ob_ft, ob_nt, ob_nf, cond_true, cond_false, opS, evL, look, dstB, putE, effC, setC, hatL, pickS, unS, nilS, binS, intS, fieldS, loadS, indexS, extrS, partsS, buildS, allLen, bslS, convS, lenS, appS, storeS, callS, tabT, tabQ, okP, cellsP, PV.one, D.one, Value.oneCell', dsOf, intsD, fillD, setAt, seqK_nor, seqK_normal, seqK_ret, seqK_exit, blkK_nor, blkK_normal, blkK_ret, blkK_exit, List.map_cons, List.map_nil, List.length_cons, List.length_nil, List.all_cons, List.all_nil, List.take_succ_cons, List.take_zero, List.drop_succ_cons, List.drop_zero, List.take_nil, List.drop_nil, List.cons_append, List.nil_append, List.append_nil, List.append_assoc, List.reverse_cons, List.reverse_nil, List.getElem?_cons_zero, List.getElem?_cons_succ, List.getElem?_nil, List.getElem?_toArray, List.getElem?_map, Option.map_some, Option.map_none, Option.getD_some, Option.getD_none, Option.bind_some, Option.bind_none, Nat.zero_add, Nat.add_zero, decide_true, decide_false, decide_eq_true_eq, Bool.and_true, Bool.true_and, Bool.and_false, Bool.false_and, Bool.and_self, Bool.not_true, Bool.not_false, Bool.true_eq_false, Bool.false_eq_true, beq_self_eq_true, ne_eq, not_true_eq_false, not_false_eq_true, and_true, true_and, and_self, or_self, or_false, false_or, or_true, true_or, eq_self, forall_const, false_implies, implies_true, Int.toNat_natCast, Int.natCast_nonneg, Nat.lt_irrefl, Nat.le_refl, List.length_map, List.length_append, Option.some.injEq, Prod.mk.injEq, Nat.not_lt_zero, Nat.zero_le, Nat.zero_lt_succ, Nat.lt_add_one, grdO_t, grdO_f, runO_res, guardD, yieldD, aggP, tupP, dsR, rowsS, srcS, effM, heapM, rid, ren, renL, renR, renC, mids, dRows_get, dRows_len, dRows_app, renL_d, renR_d, renR_set, List.getD_cons_zero, List.getD_cons_succ, List.getD_nil, List.range_succ, List.range_zero, List.length_set, List.set_cons_zero, List.set_cons_succ, Nat.reduceAdd, Nat.reduceMul, Nat.reduceSub, Nat.reduceLeDiff, Nat.reduceLT, Nat.reduceEqDiff, reduceIte, reduceCtorEq, Int.reduceLE, Int.reduceToNat, IntKind.bits, encS]); exact rfl), (by (try simp only [retP, undef, ob_tt, ob_ff, ob_tf, ob_ft, ob_nt, ob_nf, cond_true, cond_false, opS, evL, look, dstB, putE, effC, setC, hatL, pickS, unS, nilS, binS, intS, fieldS, loadS, indexS, extrS, partsS, buildS, allLen, bslS, convS, lenS, appS, storeS, callS, tabT, tabQ, okP, cellsP, PV.one, D.one, Value.oneCell', dsOf, intsD, fillD, setAt, seqK_nor, seqK_normal, seqK_ret, seqK_exit, blkK_nor, blkK_normal, blkK_ret, blkK_exit, List.map_cons, List.map_nil, List.length_cons, List.length_nil, List.all_cons, List.all_nil, List.take_succ_cons, List.take_zero, List.drop_succ_cons, List.drop_zero, List.take_nil, List.drop_nil, List.cons_append, List.nil_append, List.append_nil, List.append_assoc, List.reverse_cons, List.reverse_nil, List.getElem?_cons_zero, List.getElem?_cons_succ, List.getElem?_nil, List.getElem?_toArray, List.getElem?_map, Option.map_some, Option.map_none, Option.getD_some, Option.getD_none, Option.bind_some, Option.bind_none, Nat.zero_add, Nat.add_zero, decide_true, decide_false, decide_eq_true_eq, Bool.and_true, Bool.true_and, Bool.and_false, Bool.false_and, Bool.and_self, Bool.not_true, Bool.not_false, Bool.true_eq_false, Bool.false_eq_true, beq_self_eq_true, ne_eq, not_true_eq_false, not_false_eq_true, and_true, true_and, and_self, or_self, or_false, false_or, or_true, true_or, eq_self, forall_const, false_implies, implies_true, Int.toNat_natCast, Int.natCast_nonneg, Nat.lt_irrefl, Nat.le_refl, List.length_map, List.length_append, Option.some.injEq, Prod.mk.injEq, Nat.not_lt_zero, Nat.zero_le, Nat.zero_lt_succ, Nat.lt_add_one, grdO_t, grdO_f, runO_res, guardD, yieldD, aggP, tupP, dsR, rowsS, srcS, effM, heapM, rid, ren, renL, renR, renC, mids, dRows_get, dRows_len, dRows_app, renL_d, renR_d, renR_set, List.getD_cons_zero, List.getD_cons_succ, List.getD_nil, List.range_succ, List.range_zero, List.length_set, List.set_cons_zero, List.set_cons_succ, Nat.reduceAdd, Nat.reduceMul, Nat.reduceSub, Nat.reduceLeDiff, Nat.reduceLT, Nat.reduceEqDiff, reduceIte, reduceCtorEq, Int.reduceLE, Int.reduceToNat, IntKind.bits, vw, viewL, viewR, viewF, viewR_d, viewL_d, encS]); exact rfl), ?_⟩
    repeat (first | exact DLe.refl _ | exact DLe.nil _ | (refine DLe.tup ?_) | (refine DLe.agg ?_ rfl) | exact trivial | (refine And.intro ?_ ?_))
  have hok := chkS_ok.1 h0
  have hrl := (root.bd hok.rr).1
  have h32I : ((us.length : Int) == 32) = false := by simp; omega
  have hho := spHoles_p root us
  have hany := claim_iff hok h32 p
  have hlenH : (holesS root us).length ≤ 65536 := Nat.le_trans (holesF_len us _ root) (by have := Nat.pow_le_pow_right (n := 2) (by omega) (show (16 - root.len).toNat ≤ 16 by omega); simpa using this)
  unfold holRes at hho
  rw [if_pos h0] at hho
  generalize holesS root us = L at hho hany hlenH
  refine pspec_intro tab_ok Try.func5 rfl (fnok_of Try.func5 (by kernel_rfl) rfl) (by rw [Try.ntmps5]; simp only [List.length_cons, List.length_nil]; omega) ?_
  rw [Try.ntmps5, Try.results5]
  simp only [argP, List.map_cons, List.map_nil, Nat.reduceAdd]
  repeat (first | ((with_reducible refine sOps_cons ?_ (fun R hR => ?_)); (exact rfl); (simp only [undef, ob_tt, ob_ff, ob_tf, ob_ft, ob_nt, ob_nf, cond_true, cond_false, opS, evL, look, dstB, putE, effC, setC, hatL, pickS, unS, nilS, binS, intS, fieldS, loadS, indexS, extrS, partsS, buildS, allLen, bslS, convS, lenS, appS, storeS, callS, tabT, tabQ, okP, cellsP, PV.one, D.one, Value.oneCell', dsOf, intsD, fillD, setAt, seqK_nor, seqK_normal, seqK_ret, seqK_exit, blkK_nor, blkK_normal, blkK_ret, blkK_exit, List.map_cons, List.map_nil, List.length_cons, List.length_nil, List.all_cons, List.all_nil, List.take_succ_cons, List.take_zero, List.drop_succ_cons, List.drop_zero, List.take_nil, List.drop_nil, List.cons_append, List.nil_append, List.append_nil, List.append_assoc, List.reverse_cons, List.reverse_nil, List.getElem?_cons_zero, List.getElem?_cons_succ, List.getElem?_nil, List.getElem?_toArray, List.getElem?_map, Option.map_some, Option.map_none, Option.getD_some, Option.getD_none, Option.bind_some, Option.bind_none, Nat.zero_add, Nat.add_zero, decide_true, decide_false, decide_eq_true_eq, Bool.and_true, Bool.true_and, Bool.and_false, Bool.false_and, Bool.and_self, Bool.not_true, Bool.not_false, Bool.true_eq_false, Bool.false_eq_true, beq_self_eq_true, ne_eq, not_true_eq_false, not_false_eq_true, and_true, true_and, and_self, or_self, or_false, false_or, or_true, true_or, eq_self, forall_const, false_implies, implies_true, Int.toNat_natCast, Int.natCast_nonneg, Nat.lt_irrefl, Nat.le_refl, List.length_map, List.length_append, Option.some.injEq, Prod.mk.injEq, Nat.not_lt_zero, Nat.zero_le, Nat.zero_lt_succ, Nat.lt_add_one, grdO_t, grdO_f, runO_res, guardD, yieldD, aggP, tupP, dsR, rowsS, srcS, effM, heapM, rid, ren, renL, renR, renC, mids, dRows_get, dRows_len, dRows_app, renL_d, renR_d, renR_set, List.getD_cons_zero, List.getD_cons_succ, List.getD_nil, List.range_succ, List.range_zero, List.length_set, List.set_cons_zero, List.set_cons_succ, Nat.reduceAdd, Nat.reduceMul, Nat.reduceSub, Nat.reduceLeDiff, Nat.reduceLT, Nat.reduceEqDiff, reduceIte, reduceCtorEq, Int.reduceLE, Int.reduceToNat, IntKind.bits, encS, encP, h0, h32I, bne_self_eq_false]); (first | ((repeat (with_reducible refine And.intro (by first | omega | assumption) ?_)); (with_reducible refine hR _ _ _ ?_); clear hR R) | (refine runO_P (by (try simp only [undef, ob_tt, ob_ff, ob_tf, ob_ft, ob_nt, ob_nf, cond_true, cond_false, opS, evL, look, dstB, putE, effC, setC, hatL, pickS, unS, nilS, binS, intS, fieldS, loadS, indexS, extrS, partsS, buildS, allLen, bslS, convS, lenS, appS, storeS, callS, tabT, tabQ, okP, cellsP, PV.one, D.one, Value.oneCell', dsOf, intsD, fillD, setAt, seqK_nor, seqK_normal, seqK_ret, seqK_exit, blkK_nor, blkK_normal, blkK_ret, blkK_exit, List.map_cons, List.map_nil, List.length_cons, List.length_nil, List.all_cons, List.all_nil, List.take_succ_cons, List.take_zero, List.drop_succ_cons, List.drop_zero, List.take_nil, List.drop_nil, List.cons_append, List.nil_append, List.append_nil, List.append_assoc, List.reverse_cons, List.reverse_nil, List.getElem?_cons_zero, List.getElem?_cons_succ, List.getElem?_nil, List.getElem?_toArray, List.getElem?_map, Option.map_some, Option.map_none, Option.getD_some, Option.getD_none, Option.bind_some, Option.bind_none, Nat.zero_add, Nat.add_zero, decide_true, decide_false, decide_eq_true_eq, Bool.and_true, Bool.true_and, Bool.and_false, Bool.false_and, Bool.and_self, Bool.not_true, Bool.not_false, Bool.true_eq_false, Bool.false_eq_true, beq_self_eq_true, ne_eq, not_true_eq_false, not_false_eq_true, and_true, true_and, and_self, or_self, or_false, false_or, or_true, true_or, eq_self, forall_const, false_implies, implies_true, Int.toNat_natCast, Int.natCast_nonneg, Nat.lt_irrefl, Nat.le_refl, List.length_map, List.length_append, Option.some.injEq, Prod.mk.injEq, Nat.not_lt_zero, Nat.zero_le, Nat.zero_lt_succ, Nat.lt_add_one, grdO_t, grdO_f, runO_res, guardD, yieldD, aggP, tupP, dsR, rowsS, srcS, effM, heapM, rid, ren, renL, renR, renC, mids, dRows_get, dRows_len, dRows_app, renL_d, renR_d, renR_set, List.getD_cons_zero, List.getD_cons_succ, List.getD_nil, List.range_succ, List.range_zero, List.length_set, List.set_cons_zero, List.set_cons_succ, Nat.reduceAdd, Nat.reduceMul, Nat.reduceSub, Nat.reduceLeDiff, Nat.reduceLT, Nat.reduceEqDiff, reduceIte, reduceCtorEq, Int.reduceLE, Int.reduceToNat, IntKind.bits, vwL, viewL_v, vw, viewL, viewR, viewF, viewR_d, viewL_d, encS, encP, h0, h32I, bne_self_eq_false]); exact rfl) (by first | exact hho | exact spaceBegun_p) (by first | exact .inl rfl | exact .inr rfl | exact .inl (by simp only [tcL, tchL_t, tc, tchL, tchF, List.append_nil])) ?_; (try simp only [putE, tcL, tchL_t, tc, tchL, tchF, tchR, tchR_d, tchL_d, hatL, List.append_nil, List.nil_append, List.cons_append, encS, encP, h0, h32I, bne_self_eq_false]); (with_reducible refine hR _ _ _ ?_); clear hR R) | (fail; (with_reducible refine hR _ _ _ ?_); clear hR R))) | ((with_reducible refine sOps_nil ?_); (try simp only [seqK_nor, blkK_nor])) | ((with_reducible refine sOps_nild hops ?_ ?_); (kernel_rfl); (try simp only [seqK_nor, blkK_nor])) | (with_reducible refine pwp_seq fun C hC => ?_) | (with_reducible refine pwp_block fun C hC => ?_) | ((with_reducible refine swp_region_id ?_); (with_reducible refine swp_prune (rg 22) ?_); simp only [tabE, rg, look, Nat.reduceEqDiff, reduceIte, Nat.reduceAdd, reduceCtorEq, Nat.succ_ne_self]; (with_reducible refine swp_region tab_ok mixed (by simp) rfl fun ops' hops => ?_); simp only [List.map_cons, List.map_nil]) | ((with_reducible refine pwp_cond_t ?_ ?_); (exact rfl)) | ((with_reducible refine pwp_cond_f ?_ ?_); (exact rfl)) | (with_reducible refine pwp_skip ?_) | (with_reducible refine pwp_exit ?_) | (with_reducible refine pwp_ret ?_) | (with_reducible refine pwp_label ?_) | (with_reducible refine seqK_x _ _ ?_) | (with_reducible refine seqK_r _ ?_) | (with_reducible refine seqK_n _ ?_) | (with_reducible refine blkK_n _ _ ?_) | (with_reducible refine blkK_r _ _ ?_) | (with_reducible refine blkK_h _ _ ?_) | ((with_reducible refine blkK_x _ _ _ ?_ ?_); (decide)) | ((with_reducible refine hC _ _ ?_); clear hC C) | (clear hC C; (with_reducible refine hC _ _ ?_); clear hC C) | (clear hC C; clear hC C; (with_reducible refine hC _ _ ?_); clear hC C))
  refine pwp_loop (fun m e h => ∃ (k : Nat) (b : Bool), k ≤ L.length ∧ b = ((L.take k).any fun q => insQ p q) ∧ m = L.length - k ∧
    e = [(10, .d (.v (.int .i64 k))), (9, .d (.v (.bool b))), (8, .d (.v (.int .i64 0))), (7, .d (.sl 2 (L.map encP))), (6, .d (.v (.bool false))), (4, .ptr 1 0), (3, .ptr 0 0), (2, .d (.v (.int .i64 size)))] ∧
    h = [.box 26 ((encS root us).map .d), .box 23 ((encP p).map .d)]) _ _ _ ⟨0, false, Nat.zero_le _, rfl, rfl, rfl, rfl⟩ ?_ ?_
  · exact (weak_forget [] (by simp) rfl ⟨rfl, rfl, rfl, rfl, rfl, rfl, rfl, rfl, trivial⟩ (by first | rfl | simp only [belowH, belowE, belowC, belowL, belowR, belowP, belowL_d, belowR_d, List.length_cons, List.length_nil, Nat.reduceAdd, Nat.reduceLT, decide_true, Bool.and_self, Bool.and_true]) (by first | rfl | simp only [belowH, belowE, belowC, belowL, belowR, belowP, belowL_d, belowR_d, List.length_cons, List.length_nil, Nat.reduceAdd, Nat.reduceLT, decide_true, Bool.and_self, Bool.and_true]))
  rintro m e h ⟨k, b, hk, hb, rfl, rfl, rfl⟩ C hC
  by_cases hlt : k < L.length
  · obtain ⟨y, hl⟩ : ∃ y, L[k]? = some y := ⟨_, List.getElem?_eq_getElem hlt⟩
    have hltI : (k : Int) < (L.length : Int) := by omega
    have hwr : IntKind.i64.wrap ((k : Int) + 1) = ((k + 1 : Nat) : Int) := by rw [IntKind.wrap_i64]; omega
    have hta : ((L.take (k + 1)).any fun q => insQ p q) = (b || insQ p y) := by rw [take_snoc hl, List.any_append, ← hb]; simp
    cases b with
    | true =>
      repeat (first | ((with_reducible refine sOps_cons ?_ (fun R hR => ?_)); (exact rfl); (simp only [undef, ob_tt, ob_ff, ob_tf, ob_ft, ob_nt, ob_nf, cond_true, cond_false, opS, evL, look, dstB, putE, effC, setC, hatL, pickS, unS, nilS, binS, intS, fieldS, loadS, indexS, extrS, partsS, buildS, allLen, bslS, convS, lenS, appS, storeS, callS, tabT, tabQ, okP, cellsP, PV.one, D.one, Value.oneCell', dsOf, intsD, fillD, setAt, seqK_nor, seqK_normal, seqK_ret, seqK_exit, blkK_nor, blkK_normal, blkK_ret, blkK_exit, List.map_cons, List.map_nil, List.length_cons, List.length_nil, List.all_cons, List.all_nil, List.take_succ_cons, List.take_zero, List.drop_succ_cons, List.drop_zero, List.take_nil, List.drop_nil, List.cons_append, List.nil_append, List.append_nil, List.append_assoc, List.reverse_cons, List.reverse_nil, List.getElem?_cons_zero, List.getElem?_cons_succ, List.getElem?_nil, List.getElem?_toArray, List.getElem?_map, Option.map_some, Option.map_none, Option.getD_some, Option.getD_none, Option.bind_some, Option.bind_none, Nat.zero_add, Nat.add_zero, decide_true, decide_false, decide_eq_true_eq, Bool.and_true, Bool.true_and, Bool.and_false, Bool.false_and, Bool.and_self, Bool.not_true, Bool.not_false, Bool.true_eq_false, Bool.false_eq_true, beq_self_eq_true, ne_eq, not_true_eq_false, not_false_eq_true, and_true, true_and, and_self, or_self, or_false, false_or, or_true, true_or, eq_self, forall_const, false_implies, implies_true, Int.toNat_natCast, Int.natCast_nonneg, Nat.lt_irrefl, Nat.le_refl, List.length_map, List.length_append, Option.some.injEq, Prod.mk.injEq, Nat.not_lt_zero, Nat.zero_le, Nat.zero_lt_succ, Nat.lt_add_one, grdO_t, grdO_f, runO_res, guardD, yieldD, aggP, tupP, dsR, rowsS, srcS, effM, heapM, rid, ren, renL, renR, renC, mids, dRows_get, dRows_len, dRows_app, renL_d, renR_d, renR_set, List.getD_cons_zero, List.getD_cons_succ, List.getD_nil, List.range_succ, List.range_zero, List.length_set, List.set_cons_zero, List.set_cons_succ, Nat.reduceAdd, Nat.reduceMul, Nat.reduceSub, Nat.reduceLeDiff, Nat.reduceLT, Nat.reduceEqDiff, reduceIte, reduceCtorEq, Int.reduceLE, Int.reduceToNat, IntKind.bits, encS, encP, hl, hlt, hltI, hwr]); (first | ((repeat (with_reducible refine And.intro (by first | omega | assumption) ?_)); (with_reducible refine hR _ _ _ ?_); clear hR R) | (refine runO_P (by (try simp only [undef, ob_tt, ob_ff, ob_tf, ob_ft, ob_nt, ob_nf, cond_true, cond_false, opS, evL, look, dstB, putE, effC, setC, hatL, pickS, unS, nilS, binS, intS, fieldS, loadS, indexS, extrS, partsS, buildS, allLen, bslS, convS, lenS, appS, storeS, callS, tabT, tabQ, okP, cellsP, PV.one, D.one, Value.oneCell', dsOf, intsD, fillD, setAt, seqK_nor, seqK_normal, seqK_ret, seqK_exit, blkK_nor, blkK_normal, blkK_ret, blkK_exit, List.map_cons, List.map_nil, List.length_cons, List.length_nil, List.all_cons, List.all_nil, List.take_succ_cons, List.take_zero, List.drop_succ_cons, List.drop_zero, List.take_nil, List.drop_nil, List.cons_append, List.nil_append, List.append_nil, List.append_assoc, List.reverse_cons, List.reverse_nil, List.getElem?_cons_zero, List.getElem?_cons_succ, List.getElem?_nil, List.getElem?_toArray, List.getElem?_map, Option.map_some, Option.map_none, Option.getD_some, Option.getD_none, Option.bind_some, Option.bind_none, Nat.zero_add, Nat.add_zero, decide_true, decide_false, decide_eq_true_eq, Bool.and_true, Bool.true_and, Bool.and_false, Bool.false_and, Bool.and_self, Bool.not_true, Bool.not_false, Bool.true_eq_false, Bool.false_eq_true, beq_self_eq_true, ne_eq, not_true_eq_false, not_false_eq_true, and_true, true_and, and_self, or_self, or_false, false_or, or_true, true_or, eq_self, forall_const, false_implies, implies_true, Int.toNat_natCast, Int.natCast_nonneg, Nat.lt_irrefl, Nat.le_refl, List.length_map, List.length_append, Option.some.injEq, Prod.mk.injEq, Nat.not_lt_zero, Nat.zero_le, Nat.zero_lt_succ, Nat.lt_add_one, grdO_t, grdO_f, runO_res, guardD, yieldD, aggP, tupP, dsR, rowsS, srcS, effM, heapM, rid, ren, renL, renR, renC, mids, dRows_get, dRows_len, dRows_app, renL_d, renR_d, renR_set, List.getD_cons_zero, List.getD_cons_succ, List.getD_nil, List.range_succ, List.range_zero, List.length_set, List.set_cons_zero, List.set_cons_succ, Nat.reduceAdd, Nat.reduceMul, Nat.reduceSub, Nat.reduceLeDiff, Nat.reduceLT, Nat.reduceEqDiff, reduceIte, reduceCtorEq, Int.reduceLE, Int.reduceToNat, IntKind.bits, vwL, viewL_v, vw, viewL, viewR, viewF, viewR_d, viewL_d, encS, encP, hl, hlt, hltI, hwr]); exact rfl) (by first | fail) (by first | exact .inl rfl | exact .inr rfl | exact .inl (by simp only [tcL, tchL_t, tc, tchL, tchF, List.append_nil])) ?_; (try simp only [putE, tcL, tchL_t, tc, tchL, tchF, tchR, tchR_d, tchL_d, hatL, List.append_nil, List.nil_append, List.cons_append, encS, encP, hl, hlt, hltI, hwr]); (with_reducible refine hR _ _ _ ?_); clear hR R) | (fail; (with_reducible refine hR _ _ _ ?_); clear hR R))) | ((with_reducible refine sOps_nil ?_); (try simp only [seqK_nor, blkK_nor])) | ((with_reducible refine sOps_nild hops ?_ ?_); (kernel_rfl); (try simp only [seqK_nor, blkK_nor])) | (with_reducible refine pwp_seq fun C hC => ?_) | (with_reducible refine pwp_block fun C hC => ?_) | ((with_reducible refine swp_region_id ?_); (with_reducible refine swp_prune (rg 22) ?_); simp only [tabE, rg, look, Nat.reduceEqDiff, reduceIte, Nat.reduceAdd, reduceCtorEq, Nat.succ_ne_self]; (with_reducible refine swp_region tab_ok mixed (by simp) rfl fun ops' hops => ?_); simp only [List.map_cons, List.map_nil]) | ((with_reducible refine pwp_cond_t ?_ ?_); (exact rfl)) | ((with_reducible refine pwp_cond_f ?_ ?_); (exact rfl)) | (with_reducible refine pwp_skip ?_) | (with_reducible refine pwp_exit ?_) | (with_reducible refine pwp_ret ?_) | (with_reducible refine pwp_label ?_) | (with_reducible refine seqK_x _ _ ?_) | (with_reducible refine seqK_r _ ?_) | (with_reducible refine seqK_n _ ?_) | (with_reducible refine blkK_n _ _ ?_) | (with_reducible refine blkK_r _ _ ?_) | (with_reducible refine blkK_h _ _ ?_) | ((with_reducible refine blkK_x _ _ _ ?_ ?_); (decide)) | ((with_reducible refine hC _ _ ?_); clear hC C) | (clear hC C; (with_reducible refine hC _ _ ?_); clear hC C) | (clear hC C; clear hC C; (with_reducible refine hC _ _ ?_); clear hC C))
      refine hC _ _ _ _ _ ?_ ⟨k + 1, true, hlt, by rw [hta]; rfl, rfl, rfl, rfl⟩ (weak_forget [] (by simp) rfl ⟨rfl, rfl, rfl, rfl, rfl, rfl, rfl, rfl, trivial⟩ (by first | rfl | simp only [belowH, belowE, belowC, belowL, belowR, belowP, belowL_d, belowR_d, List.length_cons, List.length_nil, Nat.reduceAdd, Nat.reduceLT, decide_true, Bool.and_self, Bool.and_true]) (by first | rfl | simp only [belowH, belowE, belowC, belowL, belowR, belowP, belowL_d, belowR_d, List.length_cons, List.length_nil, Nat.reduceAdd, Nat.reduceLT, decide_true, Bool.and_self, Bool.and_true]))
      omega
    | false =>
      have hin : insP p.at_ p.len y.at_ y.len = insQ p y := rfl
      repeat (first | ((with_reducible refine sOps_cons ?_ (fun R hR => ?_)); (exact rfl); (simp only [undef, ob_tt, ob_ff, ob_tf, ob_ft, ob_nt, ob_nf, cond_true, cond_false, opS, evL, look, dstB, putE, effC, setC, hatL, pickS, unS, nilS, binS, intS, fieldS, loadS, indexS, extrS, partsS, buildS, allLen, bslS, convS, lenS, appS, storeS, callS, tabT, tabQ, okP, cellsP, PV.one, D.one, Value.oneCell', dsOf, intsD, fillD, setAt, seqK_nor, seqK_normal, seqK_ret, seqK_exit, blkK_nor, blkK_normal, blkK_ret, blkK_exit, List.map_cons, List.map_nil, List.length_cons, List.length_nil, List.all_cons, List.all_nil, List.take_succ_cons, List.take_zero, List.drop_succ_cons, List.drop_zero, List.take_nil, List.drop_nil, List.cons_append, List.nil_append, List.append_nil, List.append_assoc, List.reverse_cons, List.reverse_nil, List.getElem?_cons_zero, List.getElem?_cons_succ, List.getElem?_nil, List.getElem?_toArray, List.getElem?_map, Option.map_some, Option.map_none, Option.getD_some, Option.getD_none, Option.bind_some, Option.bind_none, Nat.zero_add, Nat.add_zero, decide_true, decide_false, decide_eq_true_eq, Bool.and_true, Bool.true_and, Bool.and_false, Bool.false_and, Bool.and_self, Bool.not_true, Bool.not_false, Bool.true_eq_false, Bool.false_eq_true, beq_self_eq_true, ne_eq, not_true_eq_false, not_false_eq_true, and_true, true_and, and_self, or_self, or_false, false_or, or_true, true_or, eq_self, forall_const, false_implies, implies_true, Int.toNat_natCast, Int.natCast_nonneg, Nat.lt_irrefl, Nat.le_refl, List.length_map, List.length_append, Option.some.injEq, Prod.mk.injEq, Nat.not_lt_zero, Nat.zero_le, Nat.zero_lt_succ, Nat.lt_add_one, grdO_t, grdO_f, runO_res, guardD, yieldD, aggP, tupP, dsR, rowsS, srcS, effM, heapM, rid, ren, renL, renR, renC, mids, dRows_get, dRows_len, dRows_app, renL_d, renR_d, renR_set, List.getD_cons_zero, List.getD_cons_succ, List.getD_nil, List.range_succ, List.range_zero, List.length_set, List.set_cons_zero, List.set_cons_succ, Nat.reduceAdd, Nat.reduceMul, Nat.reduceSub, Nat.reduceLeDiff, Nat.reduceLT, Nat.reduceEqDiff, reduceIte, reduceCtorEq, Int.reduceLE, Int.reduceToNat, IntKind.bits, encS, encP, hl, hlt, hltI, hwr]); (first | ((repeat (with_reducible refine And.intro (by first | omega | assumption) ?_)); (with_reducible refine hR _ _ _ ?_); clear hR R) | (refine runO_P (by (try simp only [undef, ob_tt, ob_ff, ob_tf, ob_ft, ob_nt, ob_nf, cond_true, cond_false, opS, evL, look, dstB, putE, effC, setC, hatL, pickS, unS, nilS, binS, intS, fieldS, loadS, indexS, extrS, partsS, buildS, allLen, bslS, convS, lenS, appS, storeS, callS, tabT, tabQ, okP, cellsP, PV.one, D.one, Value.oneCell', dsOf, intsD, fillD, setAt, seqK_nor, seqK_normal, seqK_ret, seqK_exit, blkK_nor, blkK_normal, blkK_ret, blkK_exit, List.map_cons, List.map_nil, List.length_cons, List.length_nil, List.all_cons, List.all_nil, List.take_succ_cons, List.take_zero, List.drop_succ_cons, List.drop_zero, List.take_nil, List.drop_nil, List.cons_append, List.nil_append, List.append_nil, List.append_assoc, List.reverse_cons, List.reverse_nil, List.getElem?_cons_zero, List.getElem?_cons_succ, List.getElem?_nil, List.getElem?_toArray, List.getElem?_map, Option.map_some, Option.map_none, Option.getD_some, Option.getD_none, Option.bind_some, Option.bind_none, Nat.zero_add, Nat.add_zero, decide_true, decide_false, decide_eq_true_eq, Bool.and_true, Bool.true_and, Bool.and_false, Bool.false_and, Bool.and_self, Bool.not_true, Bool.not_false, Bool.true_eq_false, Bool.false_eq_true, beq_self_eq_true, ne_eq, not_true_eq_false, not_false_eq_true, and_true, true_and, and_self, or_self, or_false, false_or, or_true, true_or, eq_self, forall_const, false_implies, implies_true, Int.toNat_natCast, Int.natCast_nonneg, Nat.lt_irrefl, Nat.le_refl, List.length_map, List.length_append, Option.some.injEq, Prod.mk.injEq, Nat.not_lt_zero, Nat.zero_le, Nat.zero_lt_succ, Nat.lt_add_one, grdO_t, grdO_f, runO_res, guardD, yieldD, aggP, tupP, dsR, rowsS, srcS, effM, heapM, rid, ren, renL, renR, renC, mids, dRows_get, dRows_len, dRows_app, renL_d, renR_d, renR_set, List.getD_cons_zero, List.getD_cons_succ, List.getD_nil, List.range_succ, List.range_zero, List.length_set, List.set_cons_zero, List.set_cons_succ, Nat.reduceAdd, Nat.reduceMul, Nat.reduceSub, Nat.reduceLeDiff, Nat.reduceLT, Nat.reduceEqDiff, reduceIte, reduceCtorEq, Int.reduceLE, Int.reduceToNat, IntKind.bits, vwL, viewL_v, vw, viewL, viewR, viewF, viewR_d, viewL_d, encS, encP, hl, hlt, hltI, hwr]); exact rfl) (by first | exact inside_p p y) (by first | exact .inl rfl | exact .inr rfl | exact .inl (by simp only [tcL, tchL_t, tc, tchL, tchF, List.append_nil])) ?_; (try simp only [putE, tcL, tchL_t, tc, tchL, tchF, tchR, tchR_d, tchL_d, hatL, List.append_nil, List.nil_append, List.cons_append, encS, encP, hl, hlt, hltI, hwr]); (with_reducible refine hR _ _ _ ?_); clear hR R) | (fail; (with_reducible refine hR _ _ _ ?_); clear hR R))) | ((with_reducible refine sOps_nil ?_); (try simp only [seqK_nor, blkK_nor])) | ((with_reducible refine sOps_nild hops ?_ ?_); (kernel_rfl); (try simp only [seqK_nor, blkK_nor])) | (with_reducible refine pwp_seq fun C hC => ?_) | (with_reducible refine pwp_block fun C hC => ?_) | ((with_reducible refine swp_region_id ?_); (with_reducible refine swp_prune (rg 22) ?_); simp only [tabE, rg, look, Nat.reduceEqDiff, reduceIte, Nat.reduceAdd, reduceCtorEq, Nat.succ_ne_self]; (with_reducible refine swp_region tab_ok mixed (by simp) rfl fun ops' hops => ?_); simp only [List.map_cons, List.map_nil]) | ((with_reducible refine pwp_cond_t ?_ ?_); (exact rfl)) | ((with_reducible refine pwp_cond_f ?_ ?_); (exact rfl)) | (with_reducible refine pwp_skip ?_) | (with_reducible refine pwp_exit ?_) | (with_reducible refine pwp_ret ?_) | (with_reducible refine pwp_label ?_) | (with_reducible refine seqK_x _ _ ?_) | (with_reducible refine seqK_r _ ?_) | (with_reducible refine seqK_n _ ?_) | (with_reducible refine blkK_n _ _ ?_) | (with_reducible refine blkK_r _ _ ?_) | (with_reducible refine blkK_h _ _ ?_) | ((with_reducible refine blkK_x _ _ _ ?_ ?_); (decide)) | ((with_reducible refine hC _ _ ?_); clear hC C) | (clear hC C; (with_reducible refine hC _ _ ?_); clear hC C) | (clear hC C; clear hC C; (with_reducible refine hC _ _ ?_); clear hC C))
      refine hC _ _ _ _ _ ?_ ⟨k + 1, insQ p y, hlt, by rw [hta]; rfl, rfl, rfl, rfl⟩ (weak_forget [] (by simp) rfl ⟨rfl, rfl, rfl, rfl, rfl, rfl, rfl, rfl, trivial⟩ (by first | rfl | simp only [belowH, belowE, belowC, belowL, belowR, belowP, belowL_d, belowR_d, List.length_cons, List.length_nil, Nat.reduceAdd, Nat.reduceLT, decide_true, Bool.and_self, Bool.and_true]) (by first | rfl | simp only [belowH, belowE, belowC, belowL, belowR, belowP, belowL_d, belowR_d, List.length_cons, List.length_nil, Nat.reduceAdd, Nat.reduceLT, decide_true, Bool.and_self, Bool.and_true]))
      omega
  obtain rfl : k = L.length := by omega
  rw [List.take_length, hany] at hb
  subst hb
  clear hC
  have hfc := fun h => fit_cases hok h32 (size := size) h
  have hfp := spFit_p root us size
  generalize fitS root us size = F at hfc hfp
  obtain ⟨⟨qa, ql⟩, is, err⟩ := F
  simp only at hfc hfp
  have hq := spClaim_p root us ⟨qa, ql⟩
  by_cases hc : claimE root us p = 0
  · obtain ⟨hf, hdel⟩ := claim_free hok h32 hc
    have hfr := spFree_p root (insU p us) p
    rw [hf, hdel] at hfr
    have r1 : decide (root = root) = true := by simp
    have r2 : decide (us = us) = true := by simp
    by_cases he : err = 0
    · subst he
      rcases hfc rfl with ⟨rfl, hno⟩ | ⟨rfl, rfl, hqc, hmin⟩
      · have hpl : (p.len == size) = false := by
          have := fun h => hno p h hc
          simpa using this
        repeat (first | ((with_reducible refine sOps_cons ?_ (fun R hR => ?_)); (exact rfl); (simp only [undef, ob_tt, ob_ff, ob_tf, ob_ft, ob_nt, ob_nf, cond_true, cond_false, opS, evL, look, dstB, putE, effC, setC, hatL, pickS, unS, nilS, binS, intS, fieldS, loadS, indexS, extrS, partsS, buildS, allLen, bslS, convS, lenS, appS, storeS, callS, tabT, tabQ, okP, cellsP, PV.one, D.one, Value.oneCell', dsOf, intsD, fillD, setAt, seqK_nor, seqK_normal, seqK_ret, seqK_exit, blkK_nor, blkK_normal, blkK_ret, blkK_exit, List.map_cons, List.map_nil, List.length_cons, List.length_nil, List.all_cons, List.all_nil, List.take_succ_cons, List.take_zero, List.drop_succ_cons, List.drop_zero, List.take_nil, List.drop_nil, List.cons_append, List.nil_append, List.append_nil, List.append_assoc, List.reverse_cons, List.reverse_nil, List.getElem?_cons_zero, List.getElem?_cons_succ, List.getElem?_nil, List.getElem?_toArray, List.getElem?_map, Option.map_some, Option.map_none, Option.getD_some, Option.getD_none, Option.bind_some, Option.bind_none, Nat.zero_add, Nat.add_zero, decide_true, decide_false, decide_eq_true_eq, Bool.and_true, Bool.true_and, Bool.and_false, Bool.false_and, Bool.and_self, Bool.not_true, Bool.not_false, Bool.true_eq_false, Bool.false_eq_true, beq_self_eq_true, ne_eq, not_true_eq_false, not_false_eq_true, and_true, true_and, and_self, or_self, or_false, false_or, or_true, true_or, eq_self, forall_const, false_implies, implies_true, Int.toNat_natCast, Int.natCast_nonneg, Nat.lt_irrefl, Nat.le_refl, List.length_map, List.length_append, Option.some.injEq, Prod.mk.injEq, Nat.not_lt_zero, Nat.zero_le, Nat.zero_lt_succ, Nat.lt_add_one, grdO_t, grdO_f, runO_res, guardD, yieldD, aggP, tupP, dsR, rowsS, srcS, effM, heapM, rid, ren, renL, renR, renC, mids, dRows_get, dRows_len, dRows_app, renL_d, renR_d, renR_set, List.getD_cons_zero, List.getD_cons_succ, List.getD_nil, List.range_succ, List.range_zero, List.length_set, List.set_cons_zero, List.set_cons_succ, Nat.reduceAdd, Nat.reduceMul, Nat.reduceSub, Nat.reduceLeDiff, Nat.reduceLT, Nat.reduceEqDiff, reduceIte, reduceCtorEq, Int.reduceLE, Int.reduceToNat, IntKind.bits, encS, encP, spRes, hc, hpl, r1, r2, Int.lt_irrefl, bne_self_eq_false]); (first | ((repeat (with_reducible refine And.intro (by first | omega | assumption) ?_)); (with_reducible refine hR _ _ _ ?_); clear hR R) | (refine runO_P (by (try simp only [undef, ob_tt, ob_ff, ob_tf, ob_ft, ob_nt, ob_nf, cond_true, cond_false, opS, evL, look, dstB, putE, effC, setC, hatL, pickS, unS, nilS, binS, intS, fieldS, loadS, indexS, extrS, partsS, buildS, allLen, bslS, convS, lenS, appS, storeS, callS, tabT, tabQ, okP, cellsP, PV.one, D.one, Value.oneCell', dsOf, intsD, fillD, setAt, seqK_nor, seqK_normal, seqK_ret, seqK_exit, blkK_nor, blkK_normal, blkK_ret, blkK_exit, List.map_cons, List.map_nil, List.length_cons, List.length_nil, List.all_cons, List.all_nil, List.take_succ_cons, List.take_zero, List.drop_succ_cons, List.drop_zero, List.take_nil, List.drop_nil, List.cons_append, List.nil_append, List.append_nil, List.append_assoc, List.reverse_cons, List.reverse_nil, List.getElem?_cons_zero, List.getElem?_cons_succ, List.getElem?_nil, List.getElem?_toArray, List.getElem?_map, Option.map_some, Option.map_none, Option.getD_some, Option.getD_none, Option.bind_some, Option.bind_none, Nat.zero_add, Nat.add_zero, decide_true, decide_false, decide_eq_true_eq, Bool.and_true, Bool.true_and, Bool.and_false, Bool.false_and, Bool.and_self, Bool.not_true, Bool.not_false, Bool.true_eq_false, Bool.false_eq_true, beq_self_eq_true, ne_eq, not_true_eq_false, not_false_eq_true, and_true, true_and, and_self, or_self, or_false, false_or, or_true, true_or, eq_self, forall_const, false_implies, implies_true, Int.toNat_natCast, Int.natCast_nonneg, Nat.lt_irrefl, Nat.le_refl, List.length_map, List.length_append, Option.some.injEq, Prod.mk.injEq, Nat.not_lt_zero, Nat.zero_le, Nat.zero_lt_succ, Nat.lt_add_one, grdO_t, grdO_f, runO_res, guardD, yieldD, aggP, tupP, dsR, rowsS, srcS, effM, heapM, rid, ren, renL, renR, renC, mids, dRows_get, dRows_len, dRows_app, renL_d, renR_d, renR_set, List.getD_cons_zero, List.getD_cons_succ, List.getD_nil, List.range_succ, List.range_zero, List.length_set, List.set_cons_zero, List.set_cons_succ, Nat.reduceAdd, Nat.reduceMul, Nat.reduceSub, Nat.reduceLeDiff, Nat.reduceLT, Nat.reduceEqDiff, reduceIte, reduceCtorEq, Int.reduceLE, Int.reduceToNat, IntKind.bits, vwL, viewL_v, vw, viewL, viewR, viewF, viewR_d, viewL_d, encS, encP, spRes, hc, hpl, r1, r2, Int.lt_irrefl, bne_self_eq_false]); exact rfl) (by first | exact spClaim_p root us p | exact hfr | exact sameSpaces_p root root us us | exact hfp | exact spaceBegun_p) (by first | exact .inl rfl | exact .inr rfl | exact .inl (by simp only [tcL, tchL_t, tc, tchL, tchF, List.append_nil])) ?_; (try simp only [putE, tcL, tchL_t, tc, tchL, tchF, tchR, tchR_d, tchL_d, hatL, List.append_nil, List.nil_append, List.cons_append, encS, encP, spRes, hc, hpl, r1, r2, Int.lt_irrefl, bne_self_eq_false]); (with_reducible refine hR _ _ _ ?_); clear hR R) | (fail; (with_reducible refine hR _ _ _ ?_); clear hR R))) | ((with_reducible refine sOps_nil ?_); (try simp only [seqK_nor, blkK_nor])) | ((with_reducible refine sOps_nild hops ?_ ?_); (kernel_rfl); (try simp only [seqK_nor, blkK_nor])) | (with_reducible refine pwp_seq fun C hC => ?_) | (with_reducible refine pwp_block fun C hC => ?_) | ((with_reducible refine swp_region_id ?_); (with_reducible refine swp_prune (rg 22) ?_); simp only [tabE, rg, look, Nat.reduceEqDiff, reduceIte, Nat.reduceAdd, reduceCtorEq, Nat.succ_ne_self]; (with_reducible refine swp_region tab_ok mixed (by simp) rfl fun ops' hops => ?_); simp only [List.map_cons, List.map_nil]) | ((with_reducible refine pwp_cond_t ?_ ?_); (exact rfl)) | ((with_reducible refine pwp_cond_f ?_ ?_); (exact rfl)) | (with_reducible refine pwp_skip ?_) | (with_reducible refine pwp_exit ?_) | (with_reducible refine pwp_ret ?_) | (with_reducible refine pwp_label ?_) | (with_reducible refine seqK_x _ _ ?_) | (with_reducible refine seqK_r _ ?_) | (with_reducible refine seqK_n _ ?_) | (with_reducible refine blkK_n _ _ ?_) | (with_reducible refine blkK_r _ _ ?_) | (with_reducible refine blkK_h _ _ ?_) | ((with_reducible refine blkK_x _ _ _ ?_ ?_); (decide)) | ((with_reducible refine hC _ _ ?_); clear hC C) | (clear hC C; (with_reducible refine hC _ _ ?_); clear hC C) | (clear hC C; clear hC C; (with_reducible refine hC _ _ ?_); clear hC C))
        refine ⟨(by first | exact .inl rfl | exact .inr rfl), _, _, (by (try simp only [retPL, retPV, retP, undef, ob_tt, ob_ff, ob_tf, ob_ft, ob_nt, ob_nf, cond_true, cond_false, opS, evL, look, dstB, putE, effC, setC, hatL, pickS, unS, nilS, binS, intS, fieldS, loadS, indexS, extrS, partsS, buildS, allLen, bslS, convS, lenS, appS, storeS, callS, tabT, tabQ, okP, cellsP, PV.one, D.one, Value.oneCell', dsOf, intsD, fillD, setAt, seqK_nor, seqK_normal, seqK_ret, seqK_exit, blkK_nor, blkK_normal, blkK_ret, blkK_exit, List.map_cons, List.map_nil, List.length_cons, List.length_nil, List.all_cons, List.all_nil, List.take_succ_cons, List.take_zero, List.drop_succ_cons, List.drop_zero, List.take_nil, List.drop_nil, List.cons_append, List.nil_append, List.append_nil, List.append_assoc, List.reverse_cons, List.reverse_nil, List.getElem?_cons_zero, List.getElem?_cons_succ, List.getElem?_nil, List.getElem?_toArray, List.getElem?_map, Option.map_some, Option.map_none, Option.getD_some, Option.getD_none, Option.bind_some, Option.bind_none, Nat.zero_add, Nat.add_zero, decide_true, decide_false, decide_eq_true_eq, Bool.and_true, Bool.true_and, Bool.and_false, Bool.false_and, Bool.and_self, Bool.not_true, Bool.not_false, Bool.true_eq_false, Bool.false_eq_true, beq_self_eq_true, ne_eq, not_true_eq_false, not_false_eq_true, and_true, true_and, and_self, or_self, or_false, false_or, or_true, true_or, eq_self, forall_const, false_implies, implies_true, Int.toNat_natCast, Int.natCast_nonneg, Nat.lt_irrefl, Nat.le_refl, List.length_map, List.length_append, Option.some.injEq, Prod.mk.injEq, Nat.not_lt_zero, Nat.zero_le, Nat.zero_lt_succ, Nat.lt_add_one, grdO_t, grdO_f, runO_res, guardD, yieldD, aggP, tupP, dsR, rowsS, srcS, effM, heapM, rid, ren, renL, renR, renC, mids, dRows_get, dRows_len, dRows_app, renL_d, renR_d, renR_set, List.getD_cons_zero, List.getD_cons_succ, List.getD_nil, List.range_succ, List.range_zero, List.length_set, List.set_cons_zero, List.set_cons_succ, Nat.reduceAdd, Nat.reduceMul, Nat.reduceSub, Nat.reduceLeDiff, Nat.reduceLT, Nat.reduceEqDiff, reduceIte, reduceCtorEq, Int.reduceLE, Int.reduceToNat, IntKind.bits, encS]); exact rfl), (by (try simp only [retP, undef, ob_tt, ob_ff, ob_tf, ob_ft, ob_nt, ob_nf, cond_true, cond_false, opS, evL, look, dstB, putE, effC, setC, hatL, pickS, unS, nilS, binS, intS, fieldS, loadS, indexS, extrS, partsS, buildS, allLen, bslS, convS, lenS, appS, storeS, callS, tabT, tabQ, okP, cellsP, PV.one, D.one, Value.oneCell', dsOf, intsD, fillD, setAt, seqK_nor, seqK_normal, seqK_ret, seqK_exit, blkK_nor, blkK_normal, blkK_ret, blkK_exit, List.map_cons, List.map_nil, List.length_cons, List.length_nil, List.all_cons, List.all_nil, List.take_succ_cons, List.take_zero, List.drop_succ_cons, List.drop_zero, List.take_nil, List.drop_nil, List.cons_append, List.nil_append, List.append_nil, List.append_assoc, List.reverse_cons, List.reverse_nil, List.getElem?_cons_zero, List.getElem?_cons_succ, List.getElem?_nil, List.getElem?_toArray, List.getElem?_map, Option.map_some, Option.map_none, Option.getD_some, Option.getD_none, Option.bind_some, Option.bind_none, Nat.zero_add, Nat.add_zero, decide_true, decide_false, decide_eq_true_eq, Bool.and_true, Bool.true_and, Bool.and_false, Bool.false_and, Bool.and_self, Bool.not_true, Bool.not_false, Bool.true_eq_false, Bool.false_eq_true, beq_self_eq_true, ne_eq, not_true_eq_false, not_false_eq_true, and_true, true_and, and_self, or_self, or_false, false_or, or_true, true_or, eq_self, forall_const, false_implies, implies_true, Int.toNat_natCast, Int.natCast_nonneg, Nat.lt_irrefl, Nat.le_refl, List.length_map, List.length_append, Option.some.injEq, Prod.mk.injEq, Nat.not_lt_zero, Nat.zero_le, Nat.zero_lt_succ, Nat.lt_add_one, grdO_t, grdO_f, runO_res, guardD, yieldD, aggP, tupP, dsR, rowsS, srcS, effM, heapM, rid, ren, renL, renR, renC, mids, dRows_get, dRows_len, dRows_app, renL_d, renR_d, renR_set, List.getD_cons_zero, List.getD_cons_succ, List.getD_nil, List.range_succ, List.range_zero, List.length_set, List.set_cons_zero, List.set_cons_succ, Nat.reduceAdd, Nat.reduceMul, Nat.reduceSub, Nat.reduceLeDiff, Nat.reduceLT, Nat.reduceEqDiff, reduceIte, reduceCtorEq, Int.reduceLE, Int.reduceToNat, IntKind.bits, vw, viewL, viewR, viewF, viewR_d, viewL_d, encS]); exact rfl), ?_⟩
        repeat (first | exact DLe.refl _ | exact DLe.nil _ | (refine DLe.tup ?_) | (refine DLe.agg ?_ rfl) | exact trivial | (refine And.intro ?_ ?_))
      · rw [hqc] at hq
        by_cases hpl0 : p.len = ql
        · have hpl : (p.len == ql) = true := by simpa using hpl0
          have hlt : decide (p.at_ < qa) = false := by have := hmin p hpl0 hc; simp; omega
          repeat (first | ((with_reducible refine sOps_cons ?_ (fun R hR => ?_)); (exact rfl); (simp only [undef, ob_tt, ob_ff, ob_tf, ob_ft, ob_nt, ob_nf, cond_true, cond_false, opS, evL, look, dstB, putE, effC, setC, hatL, pickS, unS, nilS, binS, intS, fieldS, loadS, indexS, extrS, partsS, buildS, allLen, bslS, convS, lenS, appS, storeS, callS, tabT, tabQ, okP, cellsP, PV.one, D.one, Value.oneCell', dsOf, intsD, fillD, setAt, seqK_nor, seqK_normal, seqK_ret, seqK_exit, blkK_nor, blkK_normal, blkK_ret, blkK_exit, List.map_cons, List.map_nil, List.length_cons, List.length_nil, List.all_cons, List.all_nil, List.take_succ_cons, List.take_zero, List.drop_succ_cons, List.drop_zero, List.take_nil, List.drop_nil, List.cons_append, List.nil_append, List.append_nil, List.append_assoc, List.reverse_cons, List.reverse_nil, List.getElem?_cons_zero, List.getElem?_cons_succ, List.getElem?_nil, List.getElem?_toArray, List.getElem?_map, Option.map_some, Option.map_none, Option.getD_some, Option.getD_none, Option.bind_some, Option.bind_none, Nat.zero_add, Nat.add_zero, decide_true, decide_false, decide_eq_true_eq, Bool.and_true, Bool.true_and, Bool.and_false, Bool.false_and, Bool.and_self, Bool.not_true, Bool.not_false, Bool.true_eq_false, Bool.false_eq_true, beq_self_eq_true, ne_eq, not_true_eq_false, not_false_eq_true, and_true, true_and, and_self, or_self, or_false, false_or, or_true, true_or, eq_self, forall_const, false_implies, implies_true, Int.toNat_natCast, Int.natCast_nonneg, Nat.lt_irrefl, Nat.le_refl, List.length_map, List.length_append, Option.some.injEq, Prod.mk.injEq, Nat.not_lt_zero, Nat.zero_le, Nat.zero_lt_succ, Nat.lt_add_one, grdO_t, grdO_f, runO_res, guardD, yieldD, aggP, tupP, dsR, rowsS, srcS, effM, heapM, rid, ren, renL, renR, renC, mids, dRows_get, dRows_len, dRows_app, renL_d, renR_d, renR_set, List.getD_cons_zero, List.getD_cons_succ, List.getD_nil, List.range_succ, List.range_zero, List.length_set, List.set_cons_zero, List.set_cons_succ, Nat.reduceAdd, Nat.reduceMul, Nat.reduceSub, Nat.reduceLeDiff, Nat.reduceLT, Nat.reduceEqDiff, reduceIte, reduceCtorEq, Int.reduceLE, Int.reduceToNat, IntKind.bits, encS, encP, spRes, hc, hpl, hlt, r1, r2, Int.lt_irrefl, bne_self_eq_false]); (first | ((repeat (with_reducible refine And.intro (by first | omega | assumption) ?_)); (with_reducible refine hR _ _ _ ?_); clear hR R) | (refine runO_P (by (try simp only [undef, ob_tt, ob_ff, ob_tf, ob_ft, ob_nt, ob_nf, cond_true, cond_false, opS, evL, look, dstB, putE, effC, setC, hatL, pickS, unS, nilS, binS, intS, fieldS, loadS, indexS, extrS, partsS, buildS, allLen, bslS, convS, lenS, appS, storeS, callS, tabT, tabQ, okP, cellsP, PV.one, D.one, Value.oneCell', dsOf, intsD, fillD, setAt, seqK_nor, seqK_normal, seqK_ret, seqK_exit, blkK_nor, blkK_normal, blkK_ret, blkK_exit, List.map_cons, List.map_nil, List.length_cons, List.length_nil, List.all_cons, List.all_nil, List.take_succ_cons, List.take_zero, List.drop_succ_cons, List.drop_zero, List.take_nil, List.drop_nil, List.cons_append, List.nil_append, List.append_nil, List.append_assoc, List.reverse_cons, List.reverse_nil, List.getElem?_cons_zero, List.getElem?_cons_succ, List.getElem?_nil, List.getElem?_toArray, List.getElem?_map, Option.map_some, Option.map_none, Option.getD_some, Option.getD_none, Option.bind_some, Option.bind_none, Nat.zero_add, Nat.add_zero, decide_true, decide_false, decide_eq_true_eq, Bool.and_true, Bool.true_and, Bool.and_false, Bool.false_and, Bool.and_self, Bool.not_true, Bool.not_false, Bool.true_eq_false, Bool.false_eq_true, beq_self_eq_true, ne_eq, not_true_eq_false, not_false_eq_true, and_true, true_and, and_self, or_self, or_false, false_or, or_true, true_or, eq_self, forall_const, false_implies, implies_true, Int.toNat_natCast, Int.natCast_nonneg, Nat.lt_irrefl, Nat.le_refl, List.length_map, List.length_append, Option.some.injEq, Prod.mk.injEq, Nat.not_lt_zero, Nat.zero_le, Nat.zero_lt_succ, Nat.lt_add_one, grdO_t, grdO_f, runO_res, guardD, yieldD, aggP, tupP, dsR, rowsS, srcS, effM, heapM, rid, ren, renL, renR, renC, mids, dRows_get, dRows_len, dRows_app, renL_d, renR_d, renR_set, List.getD_cons_zero, List.getD_cons_succ, List.getD_nil, List.range_succ, List.range_zero, List.length_set, List.set_cons_zero, List.set_cons_succ, Nat.reduceAdd, Nat.reduceMul, Nat.reduceSub, Nat.reduceLeDiff, Nat.reduceLT, Nat.reduceEqDiff, reduceIte, reduceCtorEq, Int.reduceLE, Int.reduceToNat, IntKind.bits, vwL, viewL_v, vw, viewL, viewR, viewF, viewR_d, viewL_d, encS, encP, spRes, hc, hpl, hlt, r1, r2, Int.lt_irrefl, bne_self_eq_false]); exact rfl) (by first | exact spClaim_p root us p | exact hfr | exact sameSpaces_p root root us us | exact hfp | exact spaceBegun_p | exact hq) (by first | exact .inl rfl | exact .inr rfl | exact .inl (by simp only [tcL, tchL_t, tc, tchL, tchF, List.append_nil])) ?_; (try simp only [putE, tcL, tchL_t, tc, tchL, tchF, tchR, tchR_d, tchL_d, hatL, List.append_nil, List.nil_append, List.cons_append, encS, encP, spRes, hc, hpl, hlt, r1, r2, Int.lt_irrefl, bne_self_eq_false]); (with_reducible refine hR _ _ _ ?_); clear hR R) | (fail; (with_reducible refine hR _ _ _ ?_); clear hR R))) | ((with_reducible refine sOps_nil ?_); (try simp only [seqK_nor, blkK_nor])) | ((with_reducible refine sOps_nild hops ?_ ?_); (kernel_rfl); (try simp only [seqK_nor, blkK_nor])) | (with_reducible refine pwp_seq fun C hC => ?_) | (with_reducible refine pwp_block fun C hC => ?_) | ((with_reducible refine swp_region_id ?_); (with_reducible refine swp_prune (rg 22) ?_); simp only [tabE, rg, look, Nat.reduceEqDiff, reduceIte, Nat.reduceAdd, reduceCtorEq, Nat.succ_ne_self]; (with_reducible refine swp_region tab_ok mixed (by simp) rfl fun ops' hops => ?_); simp only [List.map_cons, List.map_nil]) | ((with_reducible refine pwp_cond_t ?_ ?_); (exact rfl)) | ((with_reducible refine pwp_cond_f ?_ ?_); (exact rfl)) | (with_reducible refine pwp_skip ?_) | (with_reducible refine pwp_exit ?_) | (with_reducible refine pwp_ret ?_) | (with_reducible refine pwp_label ?_) | (with_reducible refine seqK_x _ _ ?_) | (with_reducible refine seqK_r _ ?_) | (with_reducible refine seqK_n _ ?_) | (with_reducible refine blkK_n _ _ ?_) | (with_reducible refine blkK_r _ _ ?_) | (with_reducible refine blkK_h _ _ ?_) | ((with_reducible refine blkK_x _ _ _ ?_ ?_); (decide)) | ((with_reducible refine hC _ _ ?_); clear hC C) | (clear hC C; (with_reducible refine hC _ _ ?_); clear hC C) | (clear hC C; clear hC C; (with_reducible refine hC _ _ ?_); clear hC C))
          refine ⟨(by first | exact .inl rfl | exact .inr rfl), _, _, (by (try simp only [retPL, retPV, retP, undef, ob_tt, ob_ff, ob_tf, ob_ft, ob_nt, ob_nf, cond_true, cond_false, opS, evL, look, dstB, putE, effC, setC, hatL, pickS, unS, nilS, binS, intS, fieldS, loadS, indexS, extrS, partsS, buildS, allLen, bslS, convS, lenS, appS, storeS, callS, tabT, tabQ, okP, cellsP, PV.one, D.one, Value.oneCell', dsOf, intsD, fillD, setAt, seqK_nor, seqK_normal, seqK_ret, seqK_exit, blkK_nor, blkK_normal, blkK_ret, blkK_exit, List.map_cons, List.map_nil, List.length_cons, List.length_nil, List.all_cons, List.all_nil, List.take_succ_cons, List.take_zero, List.drop_succ_cons, List.drop_zero, List.take_nil, List.drop_nil, List.cons_append, List.nil_append, List.append_nil, List.append_assoc, List.reverse_cons, List.reverse_nil, List.getElem?_cons_zero, List.getElem?_cons_succ, List.getElem?_nil, List.getElem?_toArray, List.getElem?_map, Option.map_some, Option.map_none, Option.getD_some, Option.getD_none, Option.bind_some, Option.bind_none, Nat.zero_add, Nat.add_zero, decide_true, decide_false, decide_eq_true_eq, Bool.and_true, Bool.true_and, Bool.and_false, Bool.false_and, Bool.and_self, Bool.not_true, Bool.not_false, Bool.true_eq_false, Bool.false_eq_true, beq_self_eq_true, ne_eq, not_true_eq_false, not_false_eq_true, and_true, true_and, and_self, or_self, or_false, false_or, or_true, true_or, eq_self, forall_const, false_implies, implies_true, Int.toNat_natCast, Int.natCast_nonneg, Nat.lt_irrefl, Nat.le_refl, List.length_map, List.length_append, Option.some.injEq, Prod.mk.injEq, Nat.not_lt_zero, Nat.zero_le, Nat.zero_lt_succ, Nat.lt_add_one, grdO_t, grdO_f, runO_res, guardD, yieldD, aggP, tupP, dsR, rowsS, srcS, effM, heapM, rid, ren, renL, renR, renC, mids, dRows_get, dRows_len, dRows_app, renL_d, renR_d, renR_set, List.getD_cons_zero, List.getD_cons_succ, List.getD_nil, List.range_succ, List.range_zero, List.length_set, List.set_cons_zero, List.set_cons_succ, Nat.reduceAdd, Nat.reduceMul, Nat.reduceSub, Nat.reduceLeDiff, Nat.reduceLT, Nat.reduceEqDiff, reduceIte, reduceCtorEq, Int.reduceLE, Int.reduceToNat, IntKind.bits, encS]); exact rfl), (by (try simp only [retP, undef, ob_tt, ob_ff, ob_tf, ob_ft, ob_nt, ob_nf, cond_true, cond_false, opS, evL, look, dstB, putE, effC, setC, hatL, pickS, unS, nilS, binS, intS, fieldS, loadS, indexS, extrS, partsS, buildS, allLen, bslS, convS, lenS, appS, storeS, callS, tabT, tabQ, okP, cellsP, PV.one, D.one, Value.oneCell', dsOf, intsD, fillD, setAt, seqK_nor, seqK_normal, seqK_ret, seqK_exit, blkK_nor, blkK_normal, blkK_ret, blkK_exit, List.map_cons, List.map_nil, List.length_cons, List.length_nil, List.all_cons, List.all_nil, List.take_succ_cons, List.take_zero, List.drop_succ_cons, List.drop_zero, List.take_nil, List.drop_nil, List.cons_append, List.nil_append, List.append_nil, List.append_assoc, List.reverse_cons, List.reverse_nil, List.getElem?_cons_zero, List.getElem?_cons_succ, List.getElem?_nil, List.getElem?_toArray, List.getElem?_map, Option.map_some, Option.map_none, Option.getD_some, Option.getD_none, Option.bind_some, Option.bind_none, Nat.zero_add, Nat.add_zero, decide_true, decide_false, decide_eq_true_eq, Bool.and_true, Bool.true_and, Bool.and_false, Bool.false_and, Bool.and_self, Bool.not_true, Bool.not_false, Bool.true_eq_false, Bool.false_eq_true, beq_self_eq_true, ne_eq, not_true_eq_false, not_false_eq_true, and_true, true_and, and_self, or_self, or_false, false_or, or_true, true_or, eq_self, forall_const, false_implies, implies_true, Int.toNat_natCast, Int.natCast_nonneg, Nat.lt_irrefl, Nat.le_refl, List.length_map, List.length_append, Option.some.injEq, Prod.mk.injEq, Nat.not_lt_zero, Nat.zero_le, Nat.zero_lt_succ, Nat.lt_add_one, grdO_t, grdO_f, runO_res, guardD, yieldD, aggP, tupP, dsR, rowsS, srcS, effM, heapM, rid, ren, renL, renR, renC, mids, dRows_get, dRows_len, dRows_app, renL_d, renR_d, renR_set, List.getD_cons_zero, List.getD_cons_succ, List.getD_nil, List.range_succ, List.range_zero, List.length_set, List.set_cons_zero, List.set_cons_succ, Nat.reduceAdd, Nat.reduceMul, Nat.reduceSub, Nat.reduceLeDiff, Nat.reduceLT, Nat.reduceEqDiff, reduceIte, reduceCtorEq, Int.reduceLE, Int.reduceToNat, IntKind.bits, vw, viewL, viewR, viewF, viewR_d, viewL_d, encS]); exact rfl), ?_⟩
          repeat (first | exact DLe.refl _ | exact DLe.nil _ | (refine DLe.tup ?_) | (refine DLe.agg ?_ rfl) | exact trivial | (refine And.intro ?_ ?_))
        · have hpl : (p.len == ql) = false := by simpa using hpl0
          repeat (first | ((with_reducible refine sOps_cons ?_ (fun R hR => ?_)); (exact rfl); (simp only [undef, ob_tt, ob_ff, ob_tf, ob_ft, ob_nt, ob_nf, cond_true, cond_false, opS, evL, look, dstB, putE, effC, setC, hatL, pickS, unS, nilS, binS, intS, fieldS, loadS, indexS, extrS, partsS, buildS, allLen, bslS, convS, lenS, appS, storeS, callS, tabT, tabQ, okP, cellsP, PV.one, D.one, Value.oneCell', dsOf, intsD, fillD, setAt, seqK_nor, seqK_normal, seqK_ret, seqK_exit, blkK_nor, blkK_normal, blkK_ret, blkK_exit, List.map_cons, List.map_nil, List.length_cons, List.length_nil, List.all_cons, List.all_nil, List.take_succ_cons, List.take_zero, List.drop_succ_cons, List.drop_zero, List.take_nil, List.drop_nil, List.cons_append, List.nil_append, List.append_nil, List.append_assoc, List.reverse_cons, List.reverse_nil, List.getElem?_cons_zero, List.getElem?_cons_succ, List.getElem?_nil, List.getElem?_toArray, List.getElem?_map, Option.map_some, Option.map_none, Option.getD_some, Option.getD_none, Option.bind_some, Option.bind_none, Nat.zero_add, Nat.add_zero, decide_true, decide_false, decide_eq_true_eq, Bool.and_true, Bool.true_and, Bool.and_false, Bool.false_and, Bool.and_self, Bool.not_true, Bool.not_false, Bool.true_eq_false, Bool.false_eq_true, beq_self_eq_true, ne_eq, not_true_eq_false, not_false_eq_true, and_true, true_and, and_self, or_self, or_false, false_or, or_true, true_or, eq_self, forall_const, false_implies, implies_true, Int.toNat_natCast, Int.natCast_nonneg, Nat.lt_irrefl, Nat.le_refl, List.length_map, List.length_append, Option.some.injEq, Prod.mk.injEq, Nat.not_lt_zero, Nat.zero_le, Nat.zero_lt_succ, Nat.lt_add_one, grdO_t, grdO_f, runO_res, guardD, yieldD, aggP, tupP, dsR, rowsS, srcS, effM, heapM, rid, ren, renL, renR, renC, mids, dRows_get, dRows_len, dRows_app, renL_d, renR_d, renR_set, List.getD_cons_zero, List.getD_cons_succ, List.getD_nil, List.range_succ, List.range_zero, List.length_set, List.set_cons_zero, List.set_cons_succ, Nat.reduceAdd, Nat.reduceMul, Nat.reduceSub, Nat.reduceLeDiff, Nat.reduceLT, Nat.reduceEqDiff, reduceIte, reduceCtorEq, Int.reduceLE, Int.reduceToNat, IntKind.bits, encS, encP, spRes, hc, hpl, r1, r2, Int.lt_irrefl, bne_self_eq_false]); (first | ((repeat (with_reducible refine And.intro (by first | omega | assumption) ?_)); (with_reducible refine hR _ _ _ ?_); clear hR R) | (refine runO_P (by (try simp only [undef, ob_tt, ob_ff, ob_tf, ob_ft, ob_nt, ob_nf, cond_true, cond_false, opS, evL, look, dstB, putE, effC, setC, hatL, pickS, unS, nilS, binS, intS, fieldS, loadS, indexS, extrS, partsS, buildS, allLen, bslS, convS, lenS, appS, storeS, callS, tabT, tabQ, okP, cellsP, PV.one, D.one, Value.oneCell', dsOf, intsD, fillD, setAt, seqK_nor, seqK_normal, seqK_ret, seqK_exit, blkK_nor, blkK_normal, blkK_ret, blkK_exit, List.map_cons, List.map_nil, List.length_cons, List.length_nil, List.all_cons, List.all_nil, List.take_succ_cons, List.take_zero, List.drop_succ_cons, List.drop_zero, List.take_nil, List.drop_nil, List.cons_append, List.nil_append, List.append_nil, List.append_assoc, List.reverse_cons, List.reverse_nil, List.getElem?_cons_zero, List.getElem?_cons_succ, List.getElem?_nil, List.getElem?_toArray, List.getElem?_map, Option.map_some, Option.map_none, Option.getD_some, Option.getD_none, Option.bind_some, Option.bind_none, Nat.zero_add, Nat.add_zero, decide_true, decide_false, decide_eq_true_eq, Bool.and_true, Bool.true_and, Bool.and_false, Bool.false_and, Bool.and_self, Bool.not_true, Bool.not_false, Bool.true_eq_false, Bool.false_eq_true, beq_self_eq_true, ne_eq, not_true_eq_false, not_false_eq_true, and_true, true_and, and_self, or_self, or_false, false_or, or_true, true_or, eq_self, forall_const, false_implies, implies_true, Int.toNat_natCast, Int.natCast_nonneg, Nat.lt_irrefl, Nat.le_refl, List.length_map, List.length_append, Option.some.injEq, Prod.mk.injEq, Nat.not_lt_zero, Nat.zero_le, Nat.zero_lt_succ, Nat.lt_add_one, grdO_t, grdO_f, runO_res, guardD, yieldD, aggP, tupP, dsR, rowsS, srcS, effM, heapM, rid, ren, renL, renR, renC, mids, dRows_get, dRows_len, dRows_app, renL_d, renR_d, renR_set, List.getD_cons_zero, List.getD_cons_succ, List.getD_nil, List.range_succ, List.range_zero, List.length_set, List.set_cons_zero, List.set_cons_succ, Nat.reduceAdd, Nat.reduceMul, Nat.reduceSub, Nat.reduceLeDiff, Nat.reduceLT, Nat.reduceEqDiff, reduceIte, reduceCtorEq, Int.reduceLE, Int.reduceToNat, IntKind.bits, vwL, viewL_v, vw, viewL, viewR, viewF, viewR_d, viewL_d, encS, encP, spRes, hc, hpl, r1, r2, Int.lt_irrefl, bne_self_eq_false]); exact rfl) (by first | exact spClaim_p root us p | exact hfr | exact sameSpaces_p root root us us | exact hfp | exact spaceBegun_p | exact hq) (by first | exact .inl rfl | exact .inr rfl | exact .inl (by simp only [tcL, tchL_t, tc, tchL, tchF, List.append_nil])) ?_; (try simp only [putE, tcL, tchL_t, tc, tchL, tchF, tchR, tchR_d, tchL_d, hatL, List.append_nil, List.nil_append, List.cons_append, encS, encP, spRes, hc, hpl, r1, r2, Int.lt_irrefl, bne_self_eq_false]); (with_reducible refine hR _ _ _ ?_); clear hR R) | (fail; (with_reducible refine hR _ _ _ ?_); clear hR R))) | ((with_reducible refine sOps_nil ?_); (try simp only [seqK_nor, blkK_nor])) | ((with_reducible refine sOps_nild hops ?_ ?_); (kernel_rfl); (try simp only [seqK_nor, blkK_nor])) | (with_reducible refine pwp_seq fun C hC => ?_) | (with_reducible refine pwp_block fun C hC => ?_) | ((with_reducible refine swp_region_id ?_); (with_reducible refine swp_prune (rg 22) ?_); simp only [tabE, rg, look, Nat.reduceEqDiff, reduceIte, Nat.reduceAdd, reduceCtorEq, Nat.succ_ne_self]; (with_reducible refine swp_region tab_ok mixed (by simp) rfl fun ops' hops => ?_); simp only [List.map_cons, List.map_nil]) | ((with_reducible refine pwp_cond_t ?_ ?_); (exact rfl)) | ((with_reducible refine pwp_cond_f ?_ ?_); (exact rfl)) | (with_reducible refine pwp_skip ?_) | (with_reducible refine pwp_exit ?_) | (with_reducible refine pwp_ret ?_) | (with_reducible refine pwp_label ?_) | (with_reducible refine seqK_x _ _ ?_) | (with_reducible refine seqK_r _ ?_) | (with_reducible refine seqK_n _ ?_) | (with_reducible refine blkK_n _ _ ?_) | (with_reducible refine blkK_r _ _ ?_) | (with_reducible refine blkK_h _ _ ?_) | ((with_reducible refine blkK_x _ _ _ ?_ ?_); (decide)) | ((with_reducible refine hC _ _ ?_); clear hC C) | (clear hC C; (with_reducible refine hC _ _ ?_); clear hC C) | (clear hC C; clear hC C; (with_reducible refine hC _ _ ?_); clear hC C))
          refine ⟨(by first | exact .inl rfl | exact .inr rfl), _, _, (by (try simp only [retPL, retPV, retP, undef, ob_tt, ob_ff, ob_tf, ob_ft, ob_nt, ob_nf, cond_true, cond_false, opS, evL, look, dstB, putE, effC, setC, hatL, pickS, unS, nilS, binS, intS, fieldS, loadS, indexS, extrS, partsS, buildS, allLen, bslS, convS, lenS, appS, storeS, callS, tabT, tabQ, okP, cellsP, PV.one, D.one, Value.oneCell', dsOf, intsD, fillD, setAt, seqK_nor, seqK_normal, seqK_ret, seqK_exit, blkK_nor, blkK_normal, blkK_ret, blkK_exit, List.map_cons, List.map_nil, List.length_cons, List.length_nil, List.all_cons, List.all_nil, List.take_succ_cons, List.take_zero, List.drop_succ_cons, List.drop_zero, List.take_nil, List.drop_nil, List.cons_append, List.nil_append, List.append_nil, List.append_assoc, List.reverse_cons, List.reverse_nil, List.getElem?_cons_zero, List.getElem?_cons_succ, List.getElem?_nil, List.getElem?_toArray, List.getElem?_map, Option.map_some, Option.map_none, Option.getD_some, Option.getD_none, Option.bind_some, Option.bind_none, Nat.zero_add, Nat.add_zero, decide_true, decide_false, decide_eq_true_eq, Bool.and_true, Bool.true_and, Bool.and_false, Bool.false_and, Bool.and_self, Bool.not_true, Bool.not_false, Bool.true_eq_false, Bool.false_eq_true, beq_self_eq_true, ne_eq, not_true_eq_false, not_false_eq_true, and_true, true_and, and_self, or_self, or_false, false_or, or_true, true_or, eq_self, forall_const, false_implies, implies_true, Int.toNat_natCast, Int.natCast_nonneg, Nat.lt_irrefl, Nat.le_refl, List.length_map, List.length_append, Option.some.injEq, Prod.mk.injEq, Nat.not_lt_zero, Nat.zero_le, Nat.zero_lt_succ, Nat.lt_add_one, grdO_t, grdO_f, runO_res, guardD, yieldD, aggP, tupP, dsR, rowsS, srcS, effM, heapM, rid, ren, renL, renR, renC, mids, dRows_get, dRows_len, dRows_app, renL_d, renR_d, renR_set, List.getD_cons_zero, List.getD_cons_succ, List.getD_nil, List.range_succ, List.range_zero, List.length_set, List.set_cons_zero, List.set_cons_succ, Nat.reduceAdd, Nat.reduceMul, Nat.reduceSub, Nat.reduceLeDiff, Nat.reduceLT, Nat.reduceEqDiff, reduceIte, reduceCtorEq, Int.reduceLE, Int.reduceToNat, IntKind.bits, encS]); exact rfl), (by (try simp only [retP, undef, ob_tt, ob_ff, ob_tf, ob_ft, ob_nt, ob_nf, cond_true, cond_false, opS, evL, look, dstB, putE, effC, setC, hatL, pickS, unS, nilS, binS, intS, fieldS, loadS, indexS, extrS, partsS, buildS, allLen, bslS, convS, lenS, appS, storeS, callS, tabT, tabQ, okP, cellsP, PV.one, D.one, Value.oneCell', dsOf, intsD, fillD, setAt, seqK_nor, seqK_normal, seqK_ret, seqK_exit, blkK_nor, blkK_normal, blkK_ret, blkK_exit, List.map_cons, List.map_nil, List.length_cons, List.length_nil, List.all_cons, List.all_nil, List.take_succ_cons, List.take_zero, List.drop_succ_cons, List.drop_zero, List.take_nil, List.drop_nil, List.cons_append, List.nil_append, List.append_nil, List.append_assoc, List.reverse_cons, List.reverse_nil, List.getElem?_cons_zero, List.getElem?_cons_succ, List.getElem?_nil, List.getElem?_toArray, List.getElem?_map, Option.map_some, Option.map_none, Option.getD_some, Option.getD_none, Option.bind_some, Option.bind_none, Nat.zero_add, Nat.add_zero, decide_true, decide_false, decide_eq_true_eq, Bool.and_true, Bool.true_and, Bool.and_false, Bool.false_and, Bool.and_self, Bool.not_true, Bool.not_false, Bool.true_eq_false, Bool.false_eq_true, beq_self_eq_true, ne_eq, not_true_eq_false, not_false_eq_true, and_true, true_and, and_self, or_self, or_false, false_or, or_true, true_or, eq_self, forall_const, false_implies, implies_true, Int.toNat_natCast, Int.natCast_nonneg, Nat.lt_irrefl, Nat.le_refl, List.length_map, List.length_append, Option.some.injEq, Prod.mk.injEq, Nat.not_lt_zero, Nat.zero_le, Nat.zero_lt_succ, Nat.lt_add_one, grdO_t, grdO_f, runO_res, guardD, yieldD, aggP, tupP, dsR, rowsS, srcS, effM, heapM, rid, ren, renL, renR, renC, mids, dRows_get, dRows_len, dRows_app, renL_d, renR_d, renR_set, List.getD_cons_zero, List.getD_cons_succ, List.getD_nil, List.range_succ, List.range_zero, List.length_set, List.set_cons_zero, List.set_cons_succ, Nat.reduceAdd, Nat.reduceMul, Nat.reduceSub, Nat.reduceLeDiff, Nat.reduceLT, Nat.reduceEqDiff, reduceIte, reduceCtorEq, Int.reduceLE, Int.reduceToNat, IntKind.bits, vw, viewL, viewR, viewF, viewR_d, viewL_d, encS]); exact rfl), ?_⟩
          repeat (first | exact DLe.refl _ | exact DLe.nil _ | (refine DLe.tup ?_) | (refine DLe.agg ?_ rfl) | exact trivial | (refine And.intro ?_ ?_))
    · have he' : (err != 0) = true := by simpa using he
      repeat (first | ((with_reducible refine sOps_cons ?_ (fun R hR => ?_)); (exact rfl); (simp only [undef, ob_tt, ob_ff, ob_tf, ob_ft, ob_nt, ob_nf, cond_true, cond_false, opS, evL, look, dstB, putE, effC, setC, hatL, pickS, unS, nilS, binS, intS, fieldS, loadS, indexS, extrS, partsS, buildS, allLen, bslS, convS, lenS, appS, storeS, callS, tabT, tabQ, okP, cellsP, PV.one, D.one, Value.oneCell', dsOf, intsD, fillD, setAt, seqK_nor, seqK_normal, seqK_ret, seqK_exit, blkK_nor, blkK_normal, blkK_ret, blkK_exit, List.map_cons, List.map_nil, List.length_cons, List.length_nil, List.all_cons, List.all_nil, List.take_succ_cons, List.take_zero, List.drop_succ_cons, List.drop_zero, List.take_nil, List.drop_nil, List.cons_append, List.nil_append, List.append_nil, List.append_assoc, List.reverse_cons, List.reverse_nil, List.getElem?_cons_zero, List.getElem?_cons_succ, List.getElem?_nil, List.getElem?_toArray, List.getElem?_map, Option.map_some, Option.map_none, Option.getD_some, Option.getD_none, Option.bind_some, Option.bind_none, Nat.zero_add, Nat.add_zero, decide_true, decide_false, decide_eq_true_eq, Bool.and_true, Bool.true_and, Bool.and_false, Bool.false_and, Bool.and_self, Bool.not_true, Bool.not_false, Bool.true_eq_false, Bool.false_eq_true, beq_self_eq_true, ne_eq, not_true_eq_false, not_false_eq_true, and_true, true_and, and_self, or_self, or_false, false_or, or_true, true_or, eq_self, forall_const, false_implies, implies_true, Int.toNat_natCast, Int.natCast_nonneg, Nat.lt_irrefl, Nat.le_refl, List.length_map, List.length_append, Option.some.injEq, Prod.mk.injEq, Nat.not_lt_zero, Nat.zero_le, Nat.zero_lt_succ, Nat.lt_add_one, grdO_t, grdO_f, runO_res, guardD, yieldD, aggP, tupP, dsR, rowsS, srcS, effM, heapM, rid, ren, renL, renR, renC, mids, dRows_get, dRows_len, dRows_app, renL_d, renR_d, renR_set, List.getD_cons_zero, List.getD_cons_succ, List.getD_nil, List.range_succ, List.range_zero, List.length_set, List.set_cons_zero, List.set_cons_succ, Nat.reduceAdd, Nat.reduceMul, Nat.reduceSub, Nat.reduceLeDiff, Nat.reduceLT, Nat.reduceEqDiff, reduceIte, reduceCtorEq, Int.reduceLE, Int.reduceToNat, IntKind.bits, encS, encP, spRes, hc, he', r1, r2, Int.lt_irrefl, bne_self_eq_false]); (first | ((repeat (with_reducible refine And.intro (by first | omega | assumption) ?_)); (with_reducible refine hR _ _ _ ?_); clear hR R) | (refine runO_P (by (try simp only [undef, ob_tt, ob_ff, ob_tf, ob_ft, ob_nt, ob_nf, cond_true, cond_false, opS, evL, look, dstB, putE, effC, setC, hatL, pickS, unS, nilS, binS, intS, fieldS, loadS, indexS, extrS, partsS, buildS, allLen, bslS, convS, lenS, appS, storeS, callS, tabT, tabQ, okP, cellsP, PV.one, D.one, Value.oneCell', dsOf, intsD, fillD, setAt, seqK_nor, seqK_normal, seqK_ret, seqK_exit, blkK_nor, blkK_normal, blkK_ret, blkK_exit, List.map_cons, List.map_nil, List.length_cons, List.length_nil, List.all_cons, List.all_nil, List.take_succ_cons, List.take_zero, List.drop_succ_cons, List.drop_zero, List.take_nil, List.drop_nil, List.cons_append, List.nil_append, List.append_nil, List.append_assoc, List.reverse_cons, List.reverse_nil, List.getElem?_cons_zero, List.getElem?_cons_succ, List.getElem?_nil, List.getElem?_toArray, List.getElem?_map, Option.map_some, Option.map_none, Option.getD_some, Option.getD_none, Option.bind_some, Option.bind_none, Nat.zero_add, Nat.add_zero, decide_true, decide_false, decide_eq_true_eq, Bool.and_true, Bool.true_and, Bool.and_false, Bool.false_and, Bool.and_self, Bool.not_true, Bool.not_false, Bool.true_eq_false, Bool.false_eq_true, beq_self_eq_true, ne_eq, not_true_eq_false, not_false_eq_true, and_true, true_and, and_self, or_self, or_false, false_or, or_true, true_or, eq_self, forall_const, false_implies, implies_true, Int.toNat_natCast, Int.natCast_nonneg, Nat.lt_irrefl, Nat.le_refl, List.length_map, List.length_append, Option.some.injEq, Prod.mk.injEq, Nat.not_lt_zero, Nat.zero_le, Nat.zero_lt_succ, Nat.lt_add_one, grdO_t, grdO_f, runO_res, guardD, yieldD, aggP, tupP, dsR, rowsS, srcS, effM, heapM, rid, ren, renL, renR, renC, mids, dRows_get, dRows_len, dRows_app, renL_d, renR_d, renR_set, List.getD_cons_zero, List.getD_cons_succ, List.getD_nil, List.range_succ, List.range_zero, List.length_set, List.set_cons_zero, List.set_cons_succ, Nat.reduceAdd, Nat.reduceMul, Nat.reduceSub, Nat.reduceLeDiff, Nat.reduceLT, Nat.reduceEqDiff, reduceIte, reduceCtorEq, Int.reduceLE, Int.reduceToNat, IntKind.bits, vwL, viewL_v, vw, viewL, viewR, viewF, viewR_d, viewL_d, encS, encP, spRes, hc, he', r1, r2, Int.lt_irrefl, bne_self_eq_false]); exact rfl) (by first | exact spClaim_p root us p | exact hfr | exact sameSpaces_p root root us us | exact hfp | exact spaceBegun_p) (by first | exact .inl rfl | exact .inr rfl | exact .inl (by simp only [tcL, tchL_t, tc, tchL, tchF, List.append_nil])) ?_; (try simp only [putE, tcL, tchL_t, tc, tchL, tchF, tchR, tchR_d, tchL_d, hatL, List.append_nil, List.nil_append, List.cons_append, encS, encP, spRes, hc, he', r1, r2, Int.lt_irrefl, bne_self_eq_false]); (with_reducible refine hR _ _ _ ?_); clear hR R) | (fail; (with_reducible refine hR _ _ _ ?_); clear hR R))) | ((with_reducible refine sOps_nil ?_); (try simp only [seqK_nor, blkK_nor])) | ((with_reducible refine sOps_nild hops ?_ ?_); (kernel_rfl); (try simp only [seqK_nor, blkK_nor])) | (with_reducible refine pwp_seq fun C hC => ?_) | (with_reducible refine pwp_block fun C hC => ?_) | ((with_reducible refine swp_region_id ?_); (with_reducible refine swp_prune (rg 22) ?_); simp only [tabE, rg, look, Nat.reduceEqDiff, reduceIte, Nat.reduceAdd, reduceCtorEq, Nat.succ_ne_self]; (with_reducible refine swp_region tab_ok mixed (by simp) rfl fun ops' hops => ?_); simp only [List.map_cons, List.map_nil]) | ((with_reducible refine pwp_cond_t ?_ ?_); (exact rfl)) | ((with_reducible refine pwp_cond_f ?_ ?_); (exact rfl)) | (with_reducible refine pwp_skip ?_) | (with_reducible refine pwp_exit ?_) | (with_reducible refine pwp_ret ?_) | (with_reducible refine pwp_label ?_) | (with_reducible refine seqK_x _ _ ?_) | (with_reducible refine seqK_r _ ?_) | (with_reducible refine seqK_n _ ?_) | (with_reducible refine blkK_n _ _ ?_) | (with_reducible refine blkK_r _ _ ?_) | (with_reducible refine blkK_h _ _ ?_) | ((with_reducible refine blkK_x _ _ _ ?_ ?_); (decide)) | ((with_reducible refine hC _ _ ?_); clear hC C) | (clear hC C; (with_reducible refine hC _ _ ?_); clear hC C) | (clear hC C; clear hC C; (with_reducible refine hC _ _ ?_); clear hC C))
      refine ⟨(by first | exact .inl rfl | exact .inr rfl), _, _, (by (try simp only [retPL, retPV, retP, undef, ob_tt, ob_ff, ob_tf, ob_ft, ob_nt, ob_nf, cond_true, cond_false, opS, evL, look, dstB, putE, effC, setC, hatL, pickS, unS, nilS, binS, intS, fieldS, loadS, indexS, extrS, partsS, buildS, allLen, bslS, convS, lenS, appS, storeS, callS, tabT, tabQ, okP, cellsP, PV.one, D.one, Value.oneCell', dsOf, intsD, fillD, setAt, seqK_nor, seqK_normal, seqK_ret, seqK_exit, blkK_nor, blkK_normal, blkK_ret, blkK_exit, List.map_cons, List.map_nil, List.length_cons, List.length_nil, List.all_cons, List.all_nil, List.take_succ_cons, List.take_zero, List.drop_succ_cons, List.drop_zero, List.take_nil, List.drop_nil, List.cons_append, List.nil_append, List.append_nil, List.append_assoc, List.reverse_cons, List.reverse_nil, List.getElem?_cons_zero, List.getElem?_cons_succ, List.getElem?_nil, List.getElem?_toArray, List.getElem?_map, Option.map_some, Option.map_none, Option.getD_some, Option.getD_none, Option.bind_some, Option.bind_none, Nat.zero_add, Nat.add_zero, decide_true, decide_false, decide_eq_true_eq, Bool.and_true, Bool.true_and, Bool.and_false, Bool.false_and, Bool.and_self, Bool.not_true, Bool.not_false, Bool.true_eq_false, Bool.false_eq_true, beq_self_eq_true, ne_eq, not_true_eq_false, not_false_eq_true, and_true, true_and, and_self, or_self, or_false, false_or, or_true, true_or, eq_self, forall_const, false_implies, implies_true, Int.toNat_natCast, Int.natCast_nonneg, Nat.lt_irrefl, Nat.le_refl, List.length_map, List.length_append, Option.some.injEq, Prod.mk.injEq, Nat.not_lt_zero, Nat.zero_le, Nat.zero_lt_succ, Nat.lt_add_one, grdO_t, grdO_f, runO_res, guardD, yieldD, aggP, tupP, dsR, rowsS, srcS, effM, heapM, rid, ren, renL, renR, renC, mids, dRows_get, dRows_len, dRows_app, renL_d, renR_d, renR_set, List.getD_cons_zero, List.getD_cons_succ, List.getD_nil, List.range_succ, List.range_zero, List.length_set, List.set_cons_zero, List.set_cons_succ, Nat.reduceAdd, Nat.reduceMul, Nat.reduceSub, Nat.reduceLeDiff, Nat.reduceLT, Nat.reduceEqDiff, reduceIte, reduceCtorEq, Int.reduceLE, Int.reduceToNat, IntKind.bits, encS]); exact rfl), (by (try simp only [retP, undef, ob_tt, ob_ff, ob_tf, ob_ft, ob_nt, ob_nf, cond_true, cond_false, opS, evL, look, dstB, putE, effC, setC, hatL, pickS, unS, nilS, binS, intS, fieldS, loadS, indexS, extrS, partsS, buildS, allLen, bslS, convS, lenS, appS, storeS, callS, tabT, tabQ, okP, cellsP, PV.one, D.one, Value.oneCell', dsOf, intsD, fillD, setAt, seqK_nor, seqK_normal, seqK_ret, seqK_exit, blkK_nor, blkK_normal, blkK_ret, blkK_exit, List.map_cons, List.map_nil, List.length_cons, List.length_nil, List.all_cons, List.all_nil, List.take_succ_cons, List.take_zero, List.drop_succ_cons, List.drop_zero, List.take_nil, List.drop_nil, List.cons_append, List.nil_append, List.append_nil, List.append_assoc, List.reverse_cons, List.reverse_nil, List.getElem?_cons_zero, List.getElem?_cons_succ, List.getElem?_nil, List.getElem?_toArray, List.getElem?_map, Option.map_some, Option.map_none, Option.getD_some, Option.getD_none, Option.bind_some, Option.bind_none, Nat.zero_add, Nat.add_zero, decide_true, decide_false, decide_eq_true_eq, Bool.and_true, Bool.true_and, Bool.and_false, Bool.false_and, Bool.and_self, Bool.not_true, Bool.not_false, Bool.true_eq_false, Bool.false_eq_true, beq_self_eq_true, ne_eq, not_true_eq_false, not_false_eq_true, and_true, true_and, and_self, or_self, or_false, false_or, or_true, true_or, eq_self, forall_const, false_implies, implies_true, Int.toNat_natCast, Int.natCast_nonneg, Nat.lt_irrefl, Nat.le_refl, List.length_map, List.length_append, Option.some.injEq, Prod.mk.injEq, Nat.not_lt_zero, Nat.zero_le, Nat.zero_lt_succ, Nat.lt_add_one, grdO_t, grdO_f, runO_res, guardD, yieldD, aggP, tupP, dsR, rowsS, srcS, effM, heapM, rid, ren, renL, renR, renC, mids, dRows_get, dRows_len, dRows_app, renL_d, renR_d, renR_set, List.getD_cons_zero, List.getD_cons_succ, List.getD_nil, List.range_succ, List.range_zero, List.length_set, List.set_cons_zero, List.set_cons_succ, Nat.reduceAdd, Nat.reduceMul, Nat.reduceSub, Nat.reduceLeDiff, Nat.reduceLT, Nat.reduceEqDiff, reduceIte, reduceCtorEq, Int.reduceLE, Int.reduceToNat, IntKind.bits, vw, viewL, viewR, viewF, viewR_d, viewL_d, encS]); exact rfl), ?_⟩
      repeat (first | exact DLe.refl _ | exact DLe.nil _ | (refine DLe.tup ?_) | (refine DLe.agg ?_ rfl) | exact trivial | (refine And.intro ?_ ?_))
  · have hc' := eq_false hc
    have hce : (claimE root us p == 0) = false := by simpa using hc
    by_cases he : err = 0
    · subst he
      have hpls : (p.len == size) = true ∨ (p.len == size) = false := by cases (p.len == size) <;> simp
      rcases hfc rfl with ⟨rfl, hno⟩ | ⟨rfl, hql, hqc, hmin⟩
      · rcases hpls with hpl | hpl
        · repeat (first | ((with_reducible refine sOps_cons ?_ (fun R hR => ?_)); (exact rfl); (simp only [undef, ob_tt, ob_ff, ob_tf, ob_ft, ob_nt, ob_nf, cond_true, cond_false, opS, evL, look, dstB, putE, effC, setC, hatL, pickS, unS, nilS, binS, intS, fieldS, loadS, indexS, extrS, partsS, buildS, allLen, bslS, convS, lenS, appS, storeS, callS, tabT, tabQ, okP, cellsP, PV.one, D.one, Value.oneCell', dsOf, intsD, fillD, setAt, seqK_nor, seqK_normal, seqK_ret, seqK_exit, blkK_nor, blkK_normal, blkK_ret, blkK_exit, List.map_cons, List.map_nil, List.length_cons, List.length_nil, List.all_cons, List.all_nil, List.take_succ_cons, List.take_zero, List.drop_succ_cons, List.drop_zero, List.take_nil, List.drop_nil, List.cons_append, List.nil_append, List.append_nil, List.append_assoc, List.reverse_cons, List.reverse_nil, List.getElem?_cons_zero, List.getElem?_cons_succ, List.getElem?_nil, List.getElem?_toArray, List.getElem?_map, Option.map_some, Option.map_none, Option.getD_some, Option.getD_none, Option.bind_some, Option.bind_none, Nat.zero_add, Nat.add_zero, decide_true, decide_false, decide_eq_true_eq, Bool.and_true, Bool.true_and, Bool.and_false, Bool.false_and, Bool.and_self, Bool.not_true, Bool.not_false, Bool.true_eq_false, Bool.false_eq_true, beq_self_eq_true, ne_eq, not_true_eq_false, not_false_eq_true, and_true, true_and, and_self, or_self, or_false, false_or, or_true, true_or, eq_self, forall_const, false_implies, implies_true, Int.toNat_natCast, Int.natCast_nonneg, Nat.lt_irrefl, Nat.le_refl, List.length_map, List.length_append, Option.some.injEq, Prod.mk.injEq, Nat.not_lt_zero, Nat.zero_le, Nat.zero_lt_succ, Nat.lt_add_one, grdO_t, grdO_f, runO_res, guardD, yieldD, aggP, tupP, dsR, rowsS, srcS, effM, heapM, rid, ren, renL, renR, renC, mids, dRows_get, dRows_len, dRows_app, renL_d, renR_d, renR_set, List.getD_cons_zero, List.getD_cons_succ, List.getD_nil, List.range_succ, List.range_zero, List.length_set, List.set_cons_zero, List.set_cons_succ, Nat.reduceAdd, Nat.reduceMul, Nat.reduceSub, Nat.reduceLeDiff, Nat.reduceLT, Nat.reduceEqDiff, reduceIte, reduceCtorEq, Int.reduceLE, Int.reduceToNat, IntKind.bits, encS, encP, spRes, hc', hce, hpl, Int.lt_irrefl, bne_self_eq_false]); (first | ((repeat (with_reducible refine And.intro (by first | omega | assumption) ?_)); (with_reducible refine hR _ _ _ ?_); clear hR R) | (refine runO_P (by (try simp only [undef, ob_tt, ob_ff, ob_tf, ob_ft, ob_nt, ob_nf, cond_true, cond_false, opS, evL, look, dstB, putE, effC, setC, hatL, pickS, unS, nilS, binS, intS, fieldS, loadS, indexS, extrS, partsS, buildS, allLen, bslS, convS, lenS, appS, storeS, callS, tabT, tabQ, okP, cellsP, PV.one, D.one, Value.oneCell', dsOf, intsD, fillD, setAt, seqK_nor, seqK_normal, seqK_ret, seqK_exit, blkK_nor, blkK_normal, blkK_ret, blkK_exit, List.map_cons, List.map_nil, List.length_cons, List.length_nil, List.all_cons, List.all_nil, List.take_succ_cons, List.take_zero, List.drop_succ_cons, List.drop_zero, List.take_nil, List.drop_nil, List.cons_append, List.nil_append, List.append_nil, List.append_assoc, List.reverse_cons, List.reverse_nil, List.getElem?_cons_zero, List.getElem?_cons_succ, List.getElem?_nil, List.getElem?_toArray, List.getElem?_map, Option.map_some, Option.map_none, Option.getD_some, Option.getD_none, Option.bind_some, Option.bind_none, Nat.zero_add, Nat.add_zero, decide_true, decide_false, decide_eq_true_eq, Bool.and_true, Bool.true_and, Bool.and_false, Bool.false_and, Bool.and_self, Bool.not_true, Bool.not_false, Bool.true_eq_false, Bool.false_eq_true, beq_self_eq_true, ne_eq, not_true_eq_false, not_false_eq_true, and_true, true_and, and_self, or_self, or_false, false_or, or_true, true_or, eq_self, forall_const, false_implies, implies_true, Int.toNat_natCast, Int.natCast_nonneg, Nat.lt_irrefl, Nat.le_refl, List.length_map, List.length_append, Option.some.injEq, Prod.mk.injEq, Nat.not_lt_zero, Nat.zero_le, Nat.zero_lt_succ, Nat.lt_add_one, grdO_t, grdO_f, runO_res, guardD, yieldD, aggP, tupP, dsR, rowsS, srcS, effM, heapM, rid, ren, renL, renR, renC, mids, dRows_get, dRows_len, dRows_app, renL_d, renR_d, renR_set, List.getD_cons_zero, List.getD_cons_succ, List.getD_nil, List.range_succ, List.range_zero, List.length_set, List.set_cons_zero, List.set_cons_succ, Nat.reduceAdd, Nat.reduceMul, Nat.reduceSub, Nat.reduceLeDiff, Nat.reduceLT, Nat.reduceEqDiff, reduceIte, reduceCtorEq, Int.reduceLE, Int.reduceToNat, IntKind.bits, vwL, viewL_v, vw, viewL, viewR, viewF, viewR_d, viewL_d, encS, encP, spRes, hc', hce, hpl, Int.lt_irrefl, bne_self_eq_false]); exact rfl) (by first | exact spClaim_p root us p | exact hfp | exact spaceBegun_p) (by first | exact .inl rfl | exact .inr rfl | exact .inl (by simp only [tcL, tchL_t, tc, tchL, tchF, List.append_nil])) ?_; (try simp only [putE, tcL, tchL_t, tc, tchL, tchF, tchR, tchR_d, tchL_d, hatL, List.append_nil, List.nil_append, List.cons_append, encS, encP, spRes, hc', hce, hpl, Int.lt_irrefl, bne_self_eq_false]); (with_reducible refine hR _ _ _ ?_); clear hR R) | (fail; (with_reducible refine hR _ _ _ ?_); clear hR R))) | ((with_reducible refine sOps_nil ?_); (try simp only [seqK_nor, blkK_nor])) | ((with_reducible refine sOps_nild hops ?_ ?_); (kernel_rfl); (try simp only [seqK_nor, blkK_nor])) | (with_reducible refine pwp_seq fun C hC => ?_) | (with_reducible refine pwp_block fun C hC => ?_) | ((with_reducible refine swp_region_id ?_); (with_reducible refine swp_prune (rg 22) ?_); simp only [tabE, rg, look, Nat.reduceEqDiff, reduceIte, Nat.reduceAdd, reduceCtorEq, Nat.succ_ne_self]; (with_reducible refine swp_region tab_ok mixed (by simp) rfl fun ops' hops => ?_); simp only [List.map_cons, List.map_nil]) | ((with_reducible refine pwp_cond_t ?_ ?_); (exact rfl)) | ((with_reducible refine pwp_cond_f ?_ ?_); (exact rfl)) | (with_reducible refine pwp_skip ?_) | (with_reducible refine pwp_exit ?_) | (with_reducible refine pwp_ret ?_) | (with_reducible refine pwp_label ?_) | (with_reducible refine seqK_x _ _ ?_) | (with_reducible refine seqK_r _ ?_) | (with_reducible refine seqK_n _ ?_) | (with_reducible refine blkK_n _ _ ?_) | (with_reducible refine blkK_r _ _ ?_) | (with_reducible refine blkK_h _ _ ?_) | ((with_reducible refine blkK_x _ _ _ ?_ ?_); (decide)) | ((with_reducible refine hC _ _ ?_); clear hC C) | (clear hC C; (with_reducible refine hC _ _ ?_); clear hC C) | (clear hC C; clear hC C; (with_reducible refine hC _ _ ?_); clear hC C))
          refine ⟨(by first | exact .inl rfl | exact .inr rfl), _, _, (by (try simp only [retPL, retPV, retP, undef, ob_tt, ob_ff, ob_tf, ob_ft, ob_nt, ob_nf, cond_true, cond_false, opS, evL, look, dstB, putE, effC, setC, hatL, pickS, unS, nilS, binS, intS, fieldS, loadS, indexS, extrS, partsS, buildS, allLen, bslS, convS, lenS, appS, storeS, callS, tabT, tabQ, okP, cellsP, PV.one, D.one, Value.oneCell', dsOf, intsD, fillD, setAt, seqK_nor, seqK_normal, seqK_ret, seqK_exit, blkK_nor, blkK_normal, blkK_ret, blkK_exit, List.map_cons, List.map_nil, List.length_cons, List.length_nil, List.all_cons, List.all_nil, List.take_succ_cons, List.take_zero, List.drop_succ_cons, List.drop_zero, List.take_nil, List.drop_nil, List.cons_append, List.nil_append, List.append_nil, List.append_assoc, List.reverse_cons, List.reverse_nil, List.getElem?_cons_zero, List.getElem?_cons_succ, List.getElem?_nil, List.getElem?_toArray, List.getElem?_map, Option.map_some, Option.map_none, Option.getD_some, Option.getD_none, Option.bind_some, Option.bind_none, Nat.zero_add, Nat.add_zero, decide_true, decide_false, decide_eq_true_eq, Bool.and_true, Bool.true_and, Bool.and_false, Bool.false_and, Bool.and_self, Bool.not_true, Bool.not_false, Bool.true_eq_false, Bool.false_eq_true, beq_self_eq_true, ne_eq, not_true_eq_false, not_false_eq_true, and_true, true_and, and_self, or_self, or_false, false_or, or_true, true_or, eq_self, forall_const, false_implies, implies_true, Int.toNat_natCast, Int.natCast_nonneg, Nat.lt_irrefl, Nat.le_refl, List.length_map, List.length_append, Option.some.injEq, Prod.mk.injEq, Nat.not_lt_zero, Nat.zero_le, Nat.zero_lt_succ, Nat.lt_add_one, grdO_t, grdO_f, runO_res, guardD, yieldD, aggP, tupP, dsR, rowsS, srcS, effM, heapM, rid, ren, renL, renR, renC, mids, dRows_get, dRows_len, dRows_app, renL_d, renR_d, renR_set, List.getD_cons_zero, List.getD_cons_succ, List.getD_nil, List.range_succ, List.range_zero, List.length_set, List.set_cons_zero, List.set_cons_succ, Nat.reduceAdd, Nat.reduceMul, Nat.reduceSub, Nat.reduceLeDiff, Nat.reduceLT, Nat.reduceEqDiff, reduceIte, reduceCtorEq, Int.reduceLE, Int.reduceToNat, IntKind.bits, encS]); exact rfl), (by (try simp only [retP, undef, ob_tt, ob_ff, ob_tf, ob_ft, ob_nt, ob_nf, cond_true, cond_false, opS, evL, look, dstB, putE, effC, setC, hatL, pickS, unS, nilS, binS, intS, fieldS, loadS, indexS, extrS, partsS, buildS, allLen, bslS, convS, lenS, appS, storeS, callS, tabT, tabQ, okP, cellsP, PV.one, D.one, Value.oneCell', dsOf, intsD, fillD, setAt, seqK_nor, seqK_normal, seqK_ret, seqK_exit, blkK_nor, blkK_normal, blkK_ret, blkK_exit, List.map_cons, List.map_nil, List.length_cons, List.length_nil, List.all_cons, List.all_nil, List.take_succ_cons, List.take_zero, List.drop_succ_cons, List.drop_zero, List.take_nil, List.drop_nil, List.cons_append, List.nil_append, List.append_nil, List.append_assoc, List.reverse_cons, List.reverse_nil, List.getElem?_cons_zero, List.getElem?_cons_succ, List.getElem?_nil, List.getElem?_toArray, List.getElem?_map, Option.map_some, Option.map_none, Option.getD_some, Option.getD_none, Option.bind_some, Option.bind_none, Nat.zero_add, Nat.add_zero, decide_true, decide_false, decide_eq_true_eq, Bool.and_true, Bool.true_and, Bool.and_false, Bool.false_and, Bool.and_self, Bool.not_true, Bool.not_false, Bool.true_eq_false, Bool.false_eq_true, beq_self_eq_true, ne_eq, not_true_eq_false, not_false_eq_true, and_true, true_and, and_self, or_self, or_false, false_or, or_true, true_or, eq_self, forall_const, false_implies, implies_true, Int.toNat_natCast, Int.natCast_nonneg, Nat.lt_irrefl, Nat.le_refl, List.length_map, List.length_append, Option.some.injEq, Prod.mk.injEq, Nat.not_lt_zero, Nat.zero_le, Nat.zero_lt_succ, Nat.lt_add_one, grdO_t, grdO_f, runO_res, guardD, yieldD, aggP, tupP, dsR, rowsS, srcS, effM, heapM, rid, ren, renL, renR, renC, mids, dRows_get, dRows_len, dRows_app, renL_d, renR_d, renR_set, List.getD_cons_zero, List.getD_cons_succ, List.getD_nil, List.range_succ, List.range_zero, List.length_set, List.set_cons_zero, List.set_cons_succ, Nat.reduceAdd, Nat.reduceMul, Nat.reduceSub, Nat.reduceLeDiff, Nat.reduceLT, Nat.reduceEqDiff, reduceIte, reduceCtorEq, Int.reduceLE, Int.reduceToNat, IntKind.bits, vw, viewL, viewR, viewF, viewR_d, viewL_d, encS]); exact rfl), ?_⟩
          repeat (first | exact DLe.refl _ | exact DLe.nil _ | (refine DLe.tup ?_) | (refine DLe.agg ?_ rfl) | exact trivial | (refine And.intro ?_ ?_))
        · repeat (first | ((with_reducible refine sOps_cons ?_ (fun R hR => ?_)); (exact rfl); (simp only [undef, ob_tt, ob_ff, ob_tf, ob_ft, ob_nt, ob_nf, cond_true, cond_false, opS, evL, look, dstB, putE, effC, setC, hatL, pickS, unS, nilS, binS, intS, fieldS, loadS, indexS, extrS, partsS, buildS, allLen, bslS, convS, lenS, appS, storeS, callS, tabT, tabQ, okP, cellsP, PV.one, D.one, Value.oneCell', dsOf, intsD, fillD, setAt, seqK_nor, seqK_normal, seqK_ret, seqK_exit, blkK_nor, blkK_normal, blkK_ret, blkK_exit, List.map_cons, List.map_nil, List.length_cons, List.length_nil, List.all_cons, List.all_nil, List.take_succ_cons, List.take_zero, List.drop_succ_cons, List.drop_zero, List.take_nil, List.drop_nil, List.cons_append, List.nil_append, List.append_nil, List.append_assoc, List.reverse_cons, List.reverse_nil, List.getElem?_cons_zero, List.getElem?_cons_succ, List.getElem?_nil, List.getElem?_toArray, List.getElem?_map, Option.map_some, Option.map_none, Option.getD_some, Option.getD_none, Option.bind_some, Option.bind_none, Nat.zero_add, Nat.add_zero, decide_true, decide_false, decide_eq_true_eq, Bool.and_true, Bool.true_and, Bool.and_false, Bool.false_and, Bool.and_self, Bool.not_true, Bool.not_false, Bool.true_eq_false, Bool.false_eq_true, beq_self_eq_true, ne_eq, not_true_eq_false, not_false_eq_true, and_true, true_and, and_self, or_self, or_false, false_or, or_true, true_or, eq_self, forall_const, false_implies, implies_true, Int.toNat_natCast, Int.natCast_nonneg, Nat.lt_irrefl, Nat.le_refl, List.length_map, List.length_append, Option.some.injEq, Prod.mk.injEq, Nat.not_lt_zero, Nat.zero_le, Nat.zero_lt_succ, Nat.lt_add_one, grdO_t, grdO_f, runO_res, guardD, yieldD, aggP, tupP, dsR, rowsS, srcS, effM, heapM, rid, ren, renL, renR, renC, mids, dRows_get, dRows_len, dRows_app, renL_d, renR_d, renR_set, List.getD_cons_zero, List.getD_cons_succ, List.getD_nil, List.range_succ, List.range_zero, List.length_set, List.set_cons_zero, List.set_cons_succ, Nat.reduceAdd, Nat.reduceMul, Nat.reduceSub, Nat.reduceLeDiff, Nat.reduceLT, Nat.reduceEqDiff, reduceIte, reduceCtorEq, Int.reduceLE, Int.reduceToNat, IntKind.bits, encS, encP, spRes, hc', hce, hpl, Int.lt_irrefl, bne_self_eq_false]); (first | ((repeat (with_reducible refine And.intro (by first | omega | assumption) ?_)); (with_reducible refine hR _ _ _ ?_); clear hR R) | (refine runO_P (by (try simp only [undef, ob_tt, ob_ff, ob_tf, ob_ft, ob_nt, ob_nf, cond_true, cond_false, opS, evL, look, dstB, putE, effC, setC, hatL, pickS, unS, nilS, binS, intS, fieldS, loadS, indexS, extrS, partsS, buildS, allLen, bslS, convS, lenS, appS, storeS, callS, tabT, tabQ, okP, cellsP, PV.one, D.one, Value.oneCell', dsOf, intsD, fillD, setAt, seqK_nor, seqK_normal, seqK_ret, seqK_exit, blkK_nor, blkK_normal, blkK_ret, blkK_exit, List.map_cons, List.map_nil, List.length_cons, List.length_nil, List.all_cons, List.all_nil, List.take_succ_cons, List.take_zero, List.drop_succ_cons, List.drop_zero, List.take_nil, List.drop_nil, List.cons_append, List.nil_append, List.append_nil, List.append_assoc, List.reverse_cons, List.reverse_nil, List.getElem?_cons_zero, List.getElem?_cons_succ, List.getElem?_nil, List.getElem?_toArray, List.getElem?_map, Option.map_some, Option.map_none, Option.getD_some, Option.getD_none, Option.bind_some, Option.bind_none, Nat.zero_add, Nat.add_zero, decide_true, decide_false, decide_eq_true_eq, Bool.and_true, Bool.true_and, Bool.and_false, Bool.false_and, Bool.and_self, Bool.not_true, Bool.not_false, Bool.true_eq_false, Bool.false_eq_true, beq_self_eq_true, ne_eq, not_true_eq_false, not_false_eq_true, and_true, true_and, and_self, or_self, or_false, false_or, or_true, true_or, eq_self, forall_const, false_implies, implies_true, Int.toNat_natCast, Int.natCast_nonneg, Nat.lt_irrefl, Nat.le_refl, List.length_map, List.length_append, Option.some.injEq, Prod.mk.injEq, Nat.not_lt_zero, Nat.zero_le, Nat.zero_lt_succ, Nat.lt_add_one, grdO_t, grdO_f, runO_res, guardD, yieldD, aggP, tupP, dsR, rowsS, srcS, effM, heapM, rid, ren, renL, renR, renC, mids, dRows_get, dRows_len, dRows_app, renL_d, renR_d, renR_set, List.getD_cons_zero, List.getD_cons_succ, List.getD_nil, List.range_succ, List.range_zero, List.length_set, List.set_cons_zero, List.set_cons_succ, Nat.reduceAdd, Nat.reduceMul, Nat.reduceSub, Nat.reduceLeDiff, Nat.reduceLT, Nat.reduceEqDiff, reduceIte, reduceCtorEq, Int.reduceLE, Int.reduceToNat, IntKind.bits, vwL, viewL_v, vw, viewL, viewR, viewF, viewR_d, viewL_d, encS, encP, spRes, hc', hce, hpl, Int.lt_irrefl, bne_self_eq_false]); exact rfl) (by first | exact spClaim_p root us p | exact hfp | exact spaceBegun_p) (by first | exact .inl rfl | exact .inr rfl | exact .inl (by simp only [tcL, tchL_t, tc, tchL, tchF, List.append_nil])) ?_; (try simp only [putE, tcL, tchL_t, tc, tchL, tchF, tchR, tchR_d, tchL_d, hatL, List.append_nil, List.nil_append, List.cons_append, encS, encP, spRes, hc', hce, hpl, Int.lt_irrefl, bne_self_eq_false]); (with_reducible refine hR _ _ _ ?_); clear hR R) | (fail; (with_reducible refine hR _ _ _ ?_); clear hR R))) | ((with_reducible refine sOps_nil ?_); (try simp only [seqK_nor, blkK_nor])) | ((with_reducible refine sOps_nild hops ?_ ?_); (kernel_rfl); (try simp only [seqK_nor, blkK_nor])) | (with_reducible refine pwp_seq fun C hC => ?_) | (with_reducible refine pwp_block fun C hC => ?_) | ((with_reducible refine swp_region_id ?_); (with_reducible refine swp_prune (rg 22) ?_); simp only [tabE, rg, look, Nat.reduceEqDiff, reduceIte, Nat.reduceAdd, reduceCtorEq, Nat.succ_ne_self]; (with_reducible refine swp_region tab_ok mixed (by simp) rfl fun ops' hops => ?_); simp only [List.map_cons, List.map_nil]) | ((with_reducible refine pwp_cond_t ?_ ?_); (exact rfl)) | ((with_reducible refine pwp_cond_f ?_ ?_); (exact rfl)) | (with_reducible refine pwp_skip ?_) | (with_reducible refine pwp_exit ?_) | (with_reducible refine pwp_ret ?_) | (with_reducible refine pwp_label ?_) | (with_reducible refine seqK_x _ _ ?_) | (with_reducible refine seqK_r _ ?_) | (with_reducible refine seqK_n _ ?_) | (with_reducible refine blkK_n _ _ ?_) | (with_reducible refine blkK_r _ _ ?_) | (with_reducible refine blkK_h _ _ ?_) | ((with_reducible refine blkK_x _ _ _ ?_ ?_); (decide)) | ((with_reducible refine hC _ _ ?_); clear hC C) | (clear hC C; (with_reducible refine hC _ _ ?_); clear hC C) | (clear hC C; clear hC C; (with_reducible refine hC _ _ ?_); clear hC C))
          refine ⟨(by first | exact .inl rfl | exact .inr rfl), _, _, (by (try simp only [retPL, retPV, retP, undef, ob_tt, ob_ff, ob_tf, ob_ft, ob_nt, ob_nf, cond_true, cond_false, opS, evL, look, dstB, putE, effC, setC, hatL, pickS, unS, nilS, binS, intS, fieldS, loadS, indexS, extrS, partsS, buildS, allLen, bslS, convS, lenS, appS, storeS, callS, tabT, tabQ, okP, cellsP, PV.one, D.one, Value.oneCell', dsOf, intsD, fillD, setAt, seqK_nor, seqK_normal, seqK_ret, seqK_exit, blkK_nor, blkK_normal, blkK_ret, blkK_exit, List.map_cons, List.map_nil, List.length_cons, List.length_nil, List.all_cons, List.all_nil, List.take_succ_cons, List.take_zero, List.drop_succ_cons, List.drop_zero, List.take_nil, List.drop_nil, List.cons_append, List.nil_append, List.append_nil, List.append_assoc, List.reverse_cons, List.reverse_nil, List.getElem?_cons_zero, List.getElem?_cons_succ, List.getElem?_nil, List.getElem?_toArray, List.getElem?_map, Option.map_some, Option.map_none, Option.getD_some, Option.getD_none, Option.bind_some, Option.bind_none, Nat.zero_add, Nat.add_zero, decide_true, decide_false, decide_eq_true_eq, Bool.and_true, Bool.true_and, Bool.and_false, Bool.false_and, Bool.and_self, Bool.not_true, Bool.not_false, Bool.true_eq_false, Bool.false_eq_true, beq_self_eq_true, ne_eq, not_true_eq_false, not_false_eq_true, and_true, true_and, and_self, or_self, or_false, false_or, or_true, true_or, eq_self, forall_const, false_implies, implies_true, Int.toNat_natCast, Int.natCast_nonneg, Nat.lt_irrefl, Nat.le_refl, List.length_map, List.length_append, Option.some.injEq, Prod.mk.injEq, Nat.not_lt_zero, Nat.zero_le, Nat.zero_lt_succ, Nat.lt_add_one, grdO_t, grdO_f, runO_res, guardD, yieldD, aggP, tupP, dsR, rowsS, srcS, effM, heapM, rid, ren, renL, renR, renC, mids, dRows_get, dRows_len, dRows_app, renL_d, renR_d, renR_set, List.getD_cons_zero, List.getD_cons_succ, List.getD_nil, List.range_succ, List.range_zero, List.length_set, List.set_cons_zero, List.set_cons_succ, Nat.reduceAdd, Nat.reduceMul, Nat.reduceSub, Nat.reduceLeDiff, Nat.reduceLT, Nat.reduceEqDiff, reduceIte, reduceCtorEq, Int.reduceLE, Int.reduceToNat, IntKind.bits, encS]); exact rfl), (by (try simp only [retP, undef, ob_tt, ob_ff, ob_tf, ob_ft, ob_nt, ob_nf, cond_true, cond_false, opS, evL, look, dstB, putE, effC, setC, hatL, pickS, unS, nilS, binS, intS, fieldS, loadS, indexS, extrS, partsS, buildS, allLen, bslS, convS, lenS, appS, storeS, callS, tabT, tabQ, okP, cellsP, PV.one, D.one, Value.oneCell', dsOf, intsD, fillD, setAt, seqK_nor, seqK_normal, seqK_ret, seqK_exit, blkK_nor, blkK_normal, blkK_ret, blkK_exit, List.map_cons, List.map_nil, List.length_cons, List.length_nil, List.all_cons, List.all_nil, List.take_succ_cons, List.take_zero, List.drop_succ_cons, List.drop_zero, List.take_nil, List.drop_nil, List.cons_append, List.nil_append, List.append_nil, List.append_assoc, List.reverse_cons, List.reverse_nil, List.getElem?_cons_zero, List.getElem?_cons_succ, List.getElem?_nil, List.getElem?_toArray, List.getElem?_map, Option.map_some, Option.map_none, Option.getD_some, Option.getD_none, Option.bind_some, Option.bind_none, Nat.zero_add, Nat.add_zero, decide_true, decide_false, decide_eq_true_eq, Bool.and_true, Bool.true_and, Bool.and_false, Bool.false_and, Bool.and_self, Bool.not_true, Bool.not_false, Bool.true_eq_false, Bool.false_eq_true, beq_self_eq_true, ne_eq, not_true_eq_false, not_false_eq_true, and_true, true_and, and_self, or_self, or_false, false_or, or_true, true_or, eq_self, forall_const, false_implies, implies_true, Int.toNat_natCast, Int.natCast_nonneg, Nat.lt_irrefl, Nat.le_refl, List.length_map, List.length_append, Option.some.injEq, Prod.mk.injEq, Nat.not_lt_zero, Nat.zero_le, Nat.zero_lt_succ, Nat.lt_add_one, grdO_t, grdO_f, runO_res, guardD, yieldD, aggP, tupP, dsR, rowsS, srcS, effM, heapM, rid, ren, renL, renR, renC, mids, dRows_get, dRows_len, dRows_app, renL_d, renR_d, renR_set, List.getD_cons_zero, List.getD_cons_succ, List.getD_nil, List.range_succ, List.range_zero, List.length_set, List.set_cons_zero, List.set_cons_succ, Nat.reduceAdd, Nat.reduceMul, Nat.reduceSub, Nat.reduceLeDiff, Nat.reduceLT, Nat.reduceEqDiff, reduceIte, reduceCtorEq, Int.reduceLE, Int.reduceToNat, IntKind.bits, vw, viewL, viewR, viewF, viewR_d, viewL_d, encS]); exact rfl), ?_⟩
          repeat (first | exact DLe.refl _ | exact DLe.nil _ | (refine DLe.tup ?_) | (refine DLe.agg ?_ rfl) | exact trivial | (refine And.intro ?_ ?_))
      · rw [hqc] at hq
        have hql' : (ql == size) = true := by simpa using hql
        rcases hpls with hpl | hpl
        · repeat (first | ((with_reducible refine sOps_cons ?_ (fun R hR => ?_)); (exact rfl); (simp only [undef, ob_tt, ob_ff, ob_tf, ob_ft, ob_nt, ob_nf, cond_true, cond_false, opS, evL, look, dstB, putE, effC, setC, hatL, pickS, unS, nilS, binS, intS, fieldS, loadS, indexS, extrS, partsS, buildS, allLen, bslS, convS, lenS, appS, storeS, callS, tabT, tabQ, okP, cellsP, PV.one, D.one, Value.oneCell', dsOf, intsD, fillD, setAt, seqK_nor, seqK_normal, seqK_ret, seqK_exit, blkK_nor, blkK_normal, blkK_ret, blkK_exit, List.map_cons, List.map_nil, List.length_cons, List.length_nil, List.all_cons, List.all_nil, List.take_succ_cons, List.take_zero, List.drop_succ_cons, List.drop_zero, List.take_nil, List.drop_nil, List.cons_append, List.nil_append, List.append_nil, List.append_assoc, List.reverse_cons, List.reverse_nil, List.getElem?_cons_zero, List.getElem?_cons_succ, List.getElem?_nil, List.getElem?_toArray, List.getElem?_map, Option.map_some, Option.map_none, Option.getD_some, Option.getD_none, Option.bind_some, Option.bind_none, Nat.zero_add, Nat.add_zero, decide_true, decide_false, decide_eq_true_eq, Bool.and_true, Bool.true_and, Bool.and_false, Bool.false_and, Bool.and_self, Bool.not_true, Bool.not_false, Bool.true_eq_false, Bool.false_eq_true, beq_self_eq_true, ne_eq, not_true_eq_false, not_false_eq_true, and_true, true_and, and_self, or_self, or_false, false_or, or_true, true_or, eq_self, forall_const, false_implies, implies_true, Int.toNat_natCast, Int.natCast_nonneg, Nat.lt_irrefl, Nat.le_refl, List.length_map, List.length_append, Option.some.injEq, Prod.mk.injEq, Nat.not_lt_zero, Nat.zero_le, Nat.zero_lt_succ, Nat.lt_add_one, grdO_t, grdO_f, runO_res, guardD, yieldD, aggP, tupP, dsR, rowsS, srcS, effM, heapM, rid, ren, renL, renR, renC, mids, dRows_get, dRows_len, dRows_app, renL_d, renR_d, renR_set, List.getD_cons_zero, List.getD_cons_succ, List.getD_nil, List.range_succ, List.range_zero, List.length_set, List.set_cons_zero, List.set_cons_succ, Nat.reduceAdd, Nat.reduceMul, Nat.reduceSub, Nat.reduceLeDiff, Nat.reduceLT, Nat.reduceEqDiff, reduceIte, reduceCtorEq, Int.reduceLE, Int.reduceToNat, IntKind.bits, encS, encP, spRes, hc', hce, hpl, hql', Int.lt_irrefl, bne_self_eq_false]); (first | ((repeat (with_reducible refine And.intro (by first | omega | assumption) ?_)); (with_reducible refine hR _ _ _ ?_); clear hR R) | (refine runO_P (by (try simp only [undef, ob_tt, ob_ff, ob_tf, ob_ft, ob_nt, ob_nf, cond_true, cond_false, opS, evL, look, dstB, putE, effC, setC, hatL, pickS, unS, nilS, binS, intS, fieldS, loadS, indexS, extrS, partsS, buildS, allLen, bslS, convS, lenS, appS, storeS, callS, tabT, tabQ, okP, cellsP, PV.one, D.one, Value.oneCell', dsOf, intsD, fillD, setAt, seqK_nor, seqK_normal, seqK_ret, seqK_exit, blkK_nor, blkK_normal, blkK_ret, blkK_exit, List.map_cons, List.map_nil, List.length_cons, List.length_nil, List.all_cons, List.all_nil, List.take_succ_cons, List.take_zero, List.drop_succ_cons, List.drop_zero, List.take_nil, List.drop_nil, List.cons_append, List.nil_append, List.append_nil, List.append_assoc, List.reverse_cons, List.reverse_nil, List.getElem?_cons_zero, List.getElem?_cons_succ, List.getElem?_nil, List.getElem?_toArray, List.getElem?_map, Option.map_some, Option.map_none, Option.getD_some, Option.getD_none, Option.bind_some, Option.bind_none, Nat.zero_add, Nat.add_zero, decide_true, decide_false, decide_eq_true_eq, Bool.and_true, Bool.true_and, Bool.and_false, Bool.false_and, Bool.and_self, Bool.not_true, Bool.not_false, Bool.true_eq_false, Bool.false_eq_true, beq_self_eq_true, ne_eq, not_true_eq_false, not_false_eq_true, and_true, true_and, and_self, or_self, or_false, false_or, or_true, true_or, eq_self, forall_const, false_implies, implies_true, Int.toNat_natCast, Int.natCast_nonneg, Nat.lt_irrefl, Nat.le_refl, List.length_map, List.length_append, Option.some.injEq, Prod.mk.injEq, Nat.not_lt_zero, Nat.zero_le, Nat.zero_lt_succ, Nat.lt_add_one, grdO_t, grdO_f, runO_res, guardD, yieldD, aggP, tupP, dsR, rowsS, srcS, effM, heapM, rid, ren, renL, renR, renC, mids, dRows_get, dRows_len, dRows_app, renL_d, renR_d, renR_set, List.getD_cons_zero, List.getD_cons_succ, List.getD_nil, List.range_succ, List.range_zero, List.length_set, List.set_cons_zero, List.set_cons_succ, Nat.reduceAdd, Nat.reduceMul, Nat.reduceSub, Nat.reduceLeDiff, Nat.reduceLT, Nat.reduceEqDiff, reduceIte, reduceCtorEq, Int.reduceLE, Int.reduceToNat, IntKind.bits, vwL, viewL_v, vw, viewL, viewR, viewF, viewR_d, viewL_d, encS, encP, spRes, hc', hce, hpl, hql', Int.lt_irrefl, bne_self_eq_false]); exact rfl) (by first | exact spClaim_p root us p | exact hfp | exact spaceBegun_p | exact hq) (by first | exact .inl rfl | exact .inr rfl | exact .inl (by simp only [tcL, tchL_t, tc, tchL, tchF, List.append_nil])) ?_; (try simp only [putE, tcL, tchL_t, tc, tchL, tchF, tchR, tchR_d, tchL_d, hatL, List.append_nil, List.nil_append, List.cons_append, encS, encP, spRes, hc', hce, hpl, hql', Int.lt_irrefl, bne_self_eq_false]); (with_reducible refine hR _ _ _ ?_); clear hR R) | (fail; (with_reducible refine hR _ _ _ ?_); clear hR R))) | ((with_reducible refine sOps_nil ?_); (try simp only [seqK_nor, blkK_nor])) | ((with_reducible refine sOps_nild hops ?_ ?_); (kernel_rfl); (try simp only [seqK_nor, blkK_nor])) | (with_reducible refine pwp_seq fun C hC => ?_) | (with_reducible refine pwp_block fun C hC => ?_) | ((with_reducible refine swp_region_id ?_); (with_reducible refine swp_prune (rg 22) ?_); simp only [tabE, rg, look, Nat.reduceEqDiff, reduceIte, Nat.reduceAdd, reduceCtorEq, Nat.succ_ne_self]; (with_reducible refine swp_region tab_ok mixed (by simp) rfl fun ops' hops => ?_); simp only [List.map_cons, List.map_nil]) | ((with_reducible refine pwp_cond_t ?_ ?_); (exact rfl)) | ((with_reducible refine pwp_cond_f ?_ ?_); (exact rfl)) | (with_reducible refine pwp_skip ?_) | (with_reducible refine pwp_exit ?_) | (with_reducible refine pwp_ret ?_) | (with_reducible refine pwp_label ?_) | (with_reducible refine seqK_x _ _ ?_) | (with_reducible refine seqK_r _ ?_) | (with_reducible refine seqK_n _ ?_) | (with_reducible refine blkK_n _ _ ?_) | (with_reducible refine blkK_r _ _ ?_) | (with_reducible refine blkK_h _ _ ?_) | ((with_reducible refine blkK_x _ _ _ ?_ ?_); (decide)) | ((with_reducible refine hC _ _ ?_); clear hC C) | (clear hC C; (with_reducible refine hC _ _ ?_); clear hC C) | (clear hC C; clear hC C; (with_reducible refine hC _ _ ?_); clear hC C))
          refine ⟨(by first | exact .inl rfl | exact .inr rfl), _, _, (by (try simp only [retPL, retPV, retP, undef, ob_tt, ob_ff, ob_tf, ob_ft, ob_nt, ob_nf, cond_true, cond_false, opS, evL, look, dstB, putE, effC, setC, hatL, pickS, unS, nilS, binS, intS, fieldS, loadS, indexS, extrS, partsS, buildS, allLen, bslS, convS, lenS, appS, storeS, callS, tabT, tabQ, okP, cellsP, PV.one, D.one, Value.oneCell', dsOf, intsD, fillD, setAt, seqK_nor, seqK_normal, seqK_ret, seqK_exit, blkK_nor, blkK_normal, blkK_ret, blkK_exit, List.map_cons, List.map_nil, List.length_cons, List.length_nil, List.all_cons, List.all_nil, List.take_succ_cons, List.take_zero, List.drop_succ_cons, List.drop_zero, List.take_nil, List.drop_nil, List.cons_append, List.nil_append, List.append_nil, List.append_assoc, List.reverse_cons, List.reverse_nil, List.getElem?_cons_zero, List.getElem?_cons_succ, List.getElem?_nil, List.getElem?_toArray, List.getElem?_map, Option.map_some, Option.map_none, Option.getD_some, Option.getD_none, Option.bind_some, Option.bind_none, Nat.zero_add, Nat.add_zero, decide_true, decide_false, decide_eq_true_eq, Bool.and_true, Bool.true_and, Bool.and_false, Bool.false_and, Bool.and_self, Bool.not_true, Bool.not_false, Bool.true_eq_false, Bool.false_eq_true, beq_self_eq_true, ne_eq, not_true_eq_false, not_false_eq_true, and_true, true_and, and_self, or_self, or_false, false_or, or_true, true_or, eq_self, forall_const, false_implies, implies_true, Int.toNat_natCast, Int.natCast_nonneg, Nat.lt_irrefl, Nat.le_refl, List.length_map, List.length_append, Option.some.injEq, Prod.mk.injEq, Nat.not_lt_zero, Nat.zero_le, Nat.zero_lt_succ, Nat.lt_add_one, grdO_t, grdO_f, runO_res, guardD, yieldD, aggP, tupP, dsR, rowsS, srcS, effM, heapM, rid, ren, renL, renR, renC, mids, dRows_get, dRows_len, dRows_app, renL_d, renR_d, renR_set, List.getD_cons_zero, List.getD_cons_succ, List.getD_nil, List.range_succ, List.range_zero, List.length_set, List.set_cons_zero, List.set_cons_succ, Nat.reduceAdd, Nat.reduceMul, Nat.reduceSub, Nat.reduceLeDiff, Nat.reduceLT, Nat.reduceEqDiff, reduceIte, reduceCtorEq, Int.reduceLE, Int.reduceToNat, IntKind.bits, encS]); exact rfl), (by (try simp only [retP, undef, ob_tt, ob_ff, ob_tf, ob_ft, ob_nt, ob_nf, cond_true, cond_false, opS, evL, look, dstB, putE, effC, setC, hatL, pickS, unS, nilS, binS, intS, fieldS, loadS, indexS, extrS, partsS, buildS, allLen, bslS, convS, lenS, appS, storeS, callS, tabT, tabQ, okP, cellsP, PV.one, D.one, Value.oneCell', dsOf, intsD, fillD, setAt, seqK_nor, seqK_normal, seqK_ret, seqK_exit, blkK_nor, blkK_normal, blkK_ret, blkK_exit, List.map_cons, List.map_nil, List.length_cons, List.length_nil, List.all_cons, List.all_nil, List.take_succ_cons, List.take_zero, List.drop_succ_cons, List.drop_zero, List.take_nil, List.drop_nil, List.cons_append, List.nil_append, List.append_nil, List.append_assoc, List.reverse_cons, List.reverse_nil, List.getElem?_cons_zero, List.getElem?_cons_succ, List.getElem?_nil, List.getElem?_toArray, List.getElem?_map, Option.map_some, Option.map_none, Option.getD_some, Option.getD_none, Option.bind_some, Option.bind_none, Nat.zero_add, Nat.add_zero, decide_true, decide_false, decide_eq_true_eq, Bool.and_true, Bool.true_and, Bool.and_false, Bool.false_and, Bool.and_self, Bool.not_true, Bool.not_false, Bool.true_eq_false, Bool.false_eq_true, beq_self_eq_true, ne_eq, not_true_eq_false, not_false_eq_true, and_true, true_and, and_self, or_self, or_false, false_or, or_true, true_or, eq_self, forall_const, false_implies, implies_true, Int.toNat_natCast, Int.natCast_nonneg, Nat.lt_irrefl, Nat.le_refl, List.length_map, List.length_append, Option.some.injEq, Prod.mk.injEq, Nat.not_lt_zero, Nat.zero_le, Nat.zero_lt_succ, Nat.lt_add_one, grdO_t, grdO_f, runO_res, guardD, yieldD, aggP, tupP, dsR, rowsS, srcS, effM, heapM, rid, ren, renL, renR, renC, mids, dRows_get, dRows_len, dRows_app, renL_d, renR_d, renR_set, List.getD_cons_zero, List.getD_cons_succ, List.getD_nil, List.range_succ, List.range_zero, List.length_set, List.set_cons_zero, List.set_cons_succ, Nat.reduceAdd, Nat.reduceMul, Nat.reduceSub, Nat.reduceLeDiff, Nat.reduceLT, Nat.reduceEqDiff, reduceIte, reduceCtorEq, Int.reduceLE, Int.reduceToNat, IntKind.bits, vw, viewL, viewR, viewF, viewR_d, viewL_d, encS]); exact rfl), ?_⟩
          repeat (first | exact DLe.refl _ | exact DLe.nil _ | (refine DLe.tup ?_) | (refine DLe.agg ?_ rfl) | exact trivial | (refine And.intro ?_ ?_))
        · repeat (first | ((with_reducible refine sOps_cons ?_ (fun R hR => ?_)); (exact rfl); (simp only [undef, ob_tt, ob_ff, ob_tf, ob_ft, ob_nt, ob_nf, cond_true, cond_false, opS, evL, look, dstB, putE, effC, setC, hatL, pickS, unS, nilS, binS, intS, fieldS, loadS, indexS, extrS, partsS, buildS, allLen, bslS, convS, lenS, appS, storeS, callS, tabT, tabQ, okP, cellsP, PV.one, D.one, Value.oneCell', dsOf, intsD, fillD, setAt, seqK_nor, seqK_normal, seqK_ret, seqK_exit, blkK_nor, blkK_normal, blkK_ret, blkK_exit, List.map_cons, List.map_nil, List.length_cons, List.length_nil, List.all_cons, List.all_nil, List.take_succ_cons, List.take_zero, List.drop_succ_cons, List.drop_zero, List.take_nil, List.drop_nil, List.cons_append, List.nil_append, List.append_nil, List.append_assoc, List.reverse_cons, List.reverse_nil, List.getElem?_cons_zero, List.getElem?_cons_succ, List.getElem?_nil, List.getElem?_toArray, List.getElem?_map, Option.map_some, Option.map_none, Option.getD_some, Option.getD_none, Option.bind_some, Option.bind_none, Nat.zero_add, Nat.add_zero, decide_true, decide_false, decide_eq_true_eq, Bool.and_true, Bool.true_and, Bool.and_false, Bool.false_and, Bool.and_self, Bool.not_true, Bool.not_false, Bool.true_eq_false, Bool.false_eq_true, beq_self_eq_true, ne_eq, not_true_eq_false, not_false_eq_true, and_true, true_and, and_self, or_self, or_false, false_or, or_true, true_or, eq_self, forall_const, false_implies, implies_true, Int.toNat_natCast, Int.natCast_nonneg, Nat.lt_irrefl, Nat.le_refl, List.length_map, List.length_append, Option.some.injEq, Prod.mk.injEq, Nat.not_lt_zero, Nat.zero_le, Nat.zero_lt_succ, Nat.lt_add_one, grdO_t, grdO_f, runO_res, guardD, yieldD, aggP, tupP, dsR, rowsS, srcS, effM, heapM, rid, ren, renL, renR, renC, mids, dRows_get, dRows_len, dRows_app, renL_d, renR_d, renR_set, List.getD_cons_zero, List.getD_cons_succ, List.getD_nil, List.range_succ, List.range_zero, List.length_set, List.set_cons_zero, List.set_cons_succ, Nat.reduceAdd, Nat.reduceMul, Nat.reduceSub, Nat.reduceLeDiff, Nat.reduceLT, Nat.reduceEqDiff, reduceIte, reduceCtorEq, Int.reduceLE, Int.reduceToNat, IntKind.bits, encS, encP, spRes, hc', hce, hpl, hql', Int.lt_irrefl, bne_self_eq_false]); (first | ((repeat (with_reducible refine And.intro (by first | omega | assumption) ?_)); (with_reducible refine hR _ _ _ ?_); clear hR R) | (refine runO_P (by (try simp only [undef, ob_tt, ob_ff, ob_tf, ob_ft, ob_nt, ob_nf, cond_true, cond_false, opS, evL, look, dstB, putE, effC, setC, hatL, pickS, unS, nilS, binS, intS, fieldS, loadS, indexS, extrS, partsS, buildS, allLen, bslS, convS, lenS, appS, storeS, callS, tabT, tabQ, okP, cellsP, PV.one, D.one, Value.oneCell', dsOf, intsD, fillD, setAt, seqK_nor, seqK_normal, seqK_ret, seqK_exit, blkK_nor, blkK_normal, blkK_ret, blkK_exit, List.map_cons, List.map_nil, List.length_cons, List.length_nil, List.all_cons, List.all_nil, List.take_succ_cons, List.take_zero, List.drop_succ_cons, List.drop_zero, List.take_nil, List.drop_nil, List.cons_append, List.nil_append, List.append_nil, List.append_assoc, List.reverse_cons, List.reverse_nil, List.getElem?_cons_zero, List.getElem?_cons_succ, List.getElem?_nil, List.getElem?_toArray, List.getElem?_map, Option.map_some, Option.map_none, Option.getD_some, Option.getD_none, Option.bind_some, Option.bind_none, Nat.zero_add, Nat.add_zero, decide_true, decide_false, decide_eq_true_eq, Bool.and_true, Bool.true_and, Bool.and_false, Bool.false_and, Bool.and_self, Bool.not_true, Bool.not_false, Bool.true_eq_false, Bool.false_eq_true, beq_self_eq_true, ne_eq, not_true_eq_false, not_false_eq_true, and_true, true_and, and_self, or_self, or_false, false_or, or_true, true_or, eq_self, forall_const, false_implies, implies_true, Int.toNat_natCast, Int.natCast_nonneg, Nat.lt_irrefl, Nat.le_refl, List.length_map, List.length_append, Option.some.injEq, Prod.mk.injEq, Nat.not_lt_zero, Nat.zero_le, Nat.zero_lt_succ, Nat.lt_add_one, grdO_t, grdO_f, runO_res, guardD, yieldD, aggP, tupP, dsR, rowsS, srcS, effM, heapM, rid, ren, renL, renR, renC, mids, dRows_get, dRows_len, dRows_app, renL_d, renR_d, renR_set, List.getD_cons_zero, List.getD_cons_succ, List.getD_nil, List.range_succ, List.range_zero, List.length_set, List.set_cons_zero, List.set_cons_succ, Nat.reduceAdd, Nat.reduceMul, Nat.reduceSub, Nat.reduceLeDiff, Nat.reduceLT, Nat.reduceEqDiff, reduceIte, reduceCtorEq, Int.reduceLE, Int.reduceToNat, IntKind.bits, vwL, viewL_v, vw, viewL, viewR, viewF, viewR_d, viewL_d, encS, encP, spRes, hc', hce, hpl, hql', Int.lt_irrefl, bne_self_eq_false]); exact rfl) (by first | exact spClaim_p root us p | exact hfp | exact spaceBegun_p | exact hq) (by first | exact .inl rfl | exact .inr rfl | exact .inl (by simp only [tcL, tchL_t, tc, tchL, tchF, List.append_nil])) ?_; (try simp only [putE, tcL, tchL_t, tc, tchL, tchF, tchR, tchR_d, tchL_d, hatL, List.append_nil, List.nil_append, List.cons_append, encS, encP, spRes, hc', hce, hpl, hql', Int.lt_irrefl, bne_self_eq_false]); (with_reducible refine hR _ _ _ ?_); clear hR R) | (fail; (with_reducible refine hR _ _ _ ?_); clear hR R))) | ((with_reducible refine sOps_nil ?_); (try simp only [seqK_nor, blkK_nor])) | ((with_reducible refine sOps_nild hops ?_ ?_); (kernel_rfl); (try simp only [seqK_nor, blkK_nor])) | (with_reducible refine pwp_seq fun C hC => ?_) | (with_reducible refine pwp_block fun C hC => ?_) | ((with_reducible refine swp_region_id ?_); (with_reducible refine swp_prune (rg 22) ?_); simp only [tabE, rg, look, Nat.reduceEqDiff, reduceIte, Nat.reduceAdd, reduceCtorEq, Nat.succ_ne_self]; (with_reducible refine swp_region tab_ok mixed (by simp) rfl fun ops' hops => ?_); simp only [List.map_cons, List.map_nil]) | ((with_reducible refine pwp_cond_t ?_ ?_); (exact rfl)) | ((with_reducible refine pwp_cond_f ?_ ?_); (exact rfl)) | (with_reducible refine pwp_skip ?_) | (with_reducible refine pwp_exit ?_) | (with_reducible refine pwp_ret ?_) | (with_reducible refine pwp_label ?_) | (with_reducible refine seqK_x _ _ ?_) | (with_reducible refine seqK_r _ ?_) | (with_reducible refine seqK_n _ ?_) | (with_reducible refine blkK_n _ _ ?_) | (with_reducible refine blkK_r _ _ ?_) | (with_reducible refine blkK_h _ _ ?_) | ((with_reducible refine blkK_x _ _ _ ?_ ?_); (decide)) | ((with_reducible refine hC _ _ ?_); clear hC C) | (clear hC C; (with_reducible refine hC _ _ ?_); clear hC C) | (clear hC C; clear hC C; (with_reducible refine hC _ _ ?_); clear hC C))
          refine ⟨(by first | exact .inl rfl | exact .inr rfl), _, _, (by (try simp only [retPL, retPV, retP, undef, ob_tt, ob_ff, ob_tf, ob_ft, ob_nt, ob_nf, cond_true, cond_false, opS, evL, look, dstB, putE, effC, setC, hatL, pickS, unS, nilS, binS, intS, fieldS, loadS, indexS, extrS, partsS, buildS, allLen, bslS, convS, lenS, appS, storeS, callS, tabT, tabQ, okP, cellsP, PV.one, D.one, Value.oneCell', dsOf, intsD, fillD, setAt, seqK_nor, seqK_normal, seqK_ret, seqK_exit, blkK_nor, blkK_normal, blkK_ret, blkK_exit, List.map_cons, List.map_nil, List.length_cons, List.length_nil, List.all_cons, List.all_nil, List.take_succ_cons, List.take_zero, List.drop_succ_cons, List.drop_zero, List.take_nil, List.drop_nil, List.cons_append, List.nil_append, List.append_nil, List.append_assoc, List.reverse_cons, List.reverse_nil, List.getElem?_cons_zero, List.getElem?_cons_succ, List.getElem?_nil, List.getElem?_toArray, List.getElem?_map, Option.map_some, Option.map_none, Option.getD_some, Option.getD_none, Option.bind_some, Option.bind_none, Nat.zero_add, Nat.add_zero, decide_true, decide_false, decide_eq_true_eq, Bool.and_true, Bool.true_and, Bool.and_false, Bool.false_and, Bool.and_self, Bool.not_true, Bool.not_false, Bool.true_eq_false, Bool.false_eq_true, beq_self_eq_true, ne_eq, not_true_eq_false, not_false_eq_true, and_true, true_and, and_self, or_self, or_false, false_or, or_true, true_or, eq_self, forall_const, false_implies, implies_true, Int.toNat_natCast, Int.natCast_nonneg, Nat.lt_irrefl, Nat.le_refl, List.length_map, List.length_append, Option.some.injEq, Prod.mk.injEq, Nat.not_lt_zero, Nat.zero_le, Nat.zero_lt_succ, Nat.lt_add_one, grdO_t, grdO_f, runO_res, guardD, yieldD, aggP, tupP, dsR, rowsS, srcS, effM, heapM, rid, ren, renL, renR, renC, mids, dRows_get, dRows_len, dRows_app, renL_d, renR_d, renR_set, List.getD_cons_zero, List.getD_cons_succ, List.getD_nil, List.range_succ, List.range_zero, List.length_set, List.set_cons_zero, List.set_cons_succ, Nat.reduceAdd, Nat.reduceMul, Nat.reduceSub, Nat.reduceLeDiff, Nat.reduceLT, Nat.reduceEqDiff, reduceIte, reduceCtorEq, Int.reduceLE, Int.reduceToNat, IntKind.bits, encS]); exact rfl), (by (try simp only [retP, undef, ob_tt, ob_ff, ob_tf, ob_ft, ob_nt, ob_nf, cond_true, cond_false, opS, evL, look, dstB, putE, effC, setC, hatL, pickS, unS, nilS, binS, intS, fieldS, loadS, indexS, extrS, partsS, buildS, allLen, bslS, convS, lenS, appS, storeS, callS, tabT, tabQ, okP, cellsP, PV.one, D.one, Value.oneCell', dsOf, intsD, fillD, setAt, seqK_nor, seqK_normal, seqK_ret, seqK_exit, blkK_nor, blkK_normal, blkK_ret, blkK_exit, List.map_cons, List.map_nil, List.length_cons, List.length_nil, List.all_cons, List.all_nil, List.take_succ_cons, List.take_zero, List.drop_succ_cons, List.drop_zero, List.take_nil, List.drop_nil, List.cons_append, List.nil_append, List.append_nil, List.append_assoc, List.reverse_cons, List.reverse_nil, List.getElem?_cons_zero, List.getElem?_cons_succ, List.getElem?_nil, List.getElem?_toArray, List.getElem?_map, Option.map_some, Option.map_none, Option.getD_some, Option.getD_none, Option.bind_some, Option.bind_none, Nat.zero_add, Nat.add_zero, decide_true, decide_false, decide_eq_true_eq, Bool.and_true, Bool.true_and, Bool.and_false, Bool.false_and, Bool.and_self, Bool.not_true, Bool.not_false, Bool.true_eq_false, Bool.false_eq_true, beq_self_eq_true, ne_eq, not_true_eq_false, not_false_eq_true, and_true, true_and, and_self, or_self, or_false, false_or, or_true, true_or, eq_self, forall_const, false_implies, implies_true, Int.toNat_natCast, Int.natCast_nonneg, Nat.lt_irrefl, Nat.le_refl, List.length_map, List.length_append, Option.some.injEq, Prod.mk.injEq, Nat.not_lt_zero, Nat.zero_le, Nat.zero_lt_succ, Nat.lt_add_one, grdO_t, grdO_f, runO_res, guardD, yieldD, aggP, tupP, dsR, rowsS, srcS, effM, heapM, rid, ren, renL, renR, renC, mids, dRows_get, dRows_len, dRows_app, renL_d, renR_d, renR_set, List.getD_cons_zero, List.getD_cons_succ, List.getD_nil, List.range_succ, List.range_zero, List.length_set, List.set_cons_zero, List.set_cons_succ, Nat.reduceAdd, Nat.reduceMul, Nat.reduceSub, Nat.reduceLeDiff, Nat.reduceLT, Nat.reduceEqDiff, reduceIte, reduceCtorEq, Int.reduceLE, Int.reduceToNat, IntKind.bits, vw, viewL, viewR, viewF, viewR_d, viewL_d, encS]); exact rfl), ?_⟩
          repeat (first | exact DLe.refl _ | exact DLe.nil _ | (refine DLe.tup ?_) | (refine DLe.agg ?_ rfl) | exact trivial | (refine And.intro ?_ ?_))
    · have he' : (err != 0) = true := by simpa using he
      repeat (first | ((with_reducible refine sOps_cons ?_ (fun R hR => ?_)); (exact rfl); (simp only [undef, ob_tt, ob_ff, ob_tf, ob_ft, ob_nt, ob_nf, cond_true, cond_false, opS, evL, look, dstB, putE, effC, setC, hatL, pickS, unS, nilS, binS, intS, fieldS, loadS, indexS, extrS, partsS, buildS, allLen, bslS, convS, lenS, appS, storeS, callS, tabT, tabQ, okP, cellsP, PV.one, D.one, Value.oneCell', dsOf, intsD, fillD, setAt, seqK_nor, seqK_normal, seqK_ret, seqK_exit, blkK_nor, blkK_normal, blkK_ret, blkK_exit, List.map_cons, List.map_nil, List.length_cons, List.length_nil, List.all_cons, List.all_nil, List.take_succ_cons, List.take_zero, List.drop_succ_cons, List.drop_zero, List.take_nil, List.drop_nil, List.cons_append, List.nil_append, List.append_nil, List.append_assoc, List.reverse_cons, List.reverse_nil, List.getElem?_cons_zero, List.getElem?_cons_succ, List.getElem?_nil, List.getElem?_toArray, List.getElem?_map, Option.map_some, Option.map_none, Option.getD_some, Option.getD_none, Option.bind_some, Option.bind_none, Nat.zero_add, Nat.add_zero, decide_true, decide_false, decide_eq_true_eq, Bool.and_true, Bool.true_and, Bool.and_false, Bool.false_and, Bool.and_self, Bool.not_true, Bool.not_false, Bool.true_eq_false, Bool.false_eq_true, beq_self_eq_true, ne_eq, not_true_eq_false, not_false_eq_true, and_true, true_and, and_self, or_self, or_false, false_or, or_true, true_or, eq_self, forall_const, false_implies, implies_true, Int.toNat_natCast, Int.natCast_nonneg, Nat.lt_irrefl, Nat.le_refl, List.length_map, List.length_append, Option.some.injEq, Prod.mk.injEq, Nat.not_lt_zero, Nat.zero_le, Nat.zero_lt_succ, Nat.lt_add_one, grdO_t, grdO_f, runO_res, guardD, yieldD, aggP, tupP, dsR, rowsS, srcS, effM, heapM, rid, ren, renL, renR, renC, mids, dRows_get, dRows_len, dRows_app, renL_d, renR_d, renR_set, List.getD_cons_zero, List.getD_cons_succ, List.getD_nil, List.range_succ, List.range_zero, List.length_set, List.set_cons_zero, List.set_cons_succ, Nat.reduceAdd, Nat.reduceMul, Nat.reduceSub, Nat.reduceLeDiff, Nat.reduceLT, Nat.reduceEqDiff, reduceIte, reduceCtorEq, Int.reduceLE, Int.reduceToNat, IntKind.bits, encS, encP, spRes, hc', hce, he', Int.lt_irrefl, bne_self_eq_false]); (first | ((repeat (with_reducible refine And.intro (by first | omega | assumption) ?_)); (with_reducible refine hR _ _ _ ?_); clear hR R) | (refine runO_P (by (try simp only [undef, ob_tt, ob_ff, ob_tf, ob_ft, ob_nt, ob_nf, cond_true, cond_false, opS, evL, look, dstB, putE, effC, setC, hatL, pickS, unS, nilS, binS, intS, fieldS, loadS, indexS, extrS, partsS, buildS, allLen, bslS, convS, lenS, appS, storeS, callS, tabT, tabQ, okP, cellsP, PV.one, D.one, Value.oneCell', dsOf, intsD, fillD, setAt, seqK_nor, seqK_normal, seqK_ret, seqK_exit, blkK_nor, blkK_normal, blkK_ret, blkK_exit, List.map_cons, List.map_nil, List.length_cons, List.length_nil, List.all_cons, List.all_nil, List.take_succ_cons, List.take_zero, List.drop_succ_cons, List.drop_zero, List.take_nil, List.drop_nil, List.cons_append, List.nil_append, List.append_nil, List.append_assoc, List.reverse_cons, List.reverse_nil, List.getElem?_cons_zero, List.getElem?_cons_succ, List.getElem?_nil, List.getElem?_toArray, List.getElem?_map, Option.map_some, Option.map_none, Option.getD_some, Option.getD_none, Option.bind_some, Option.bind_none, Nat.zero_add, Nat.add_zero, decide_true, decide_false, decide_eq_true_eq, Bool.and_true, Bool.true_and, Bool.and_false, Bool.false_and, Bool.and_self, Bool.not_true, Bool.not_false, Bool.true_eq_false, Bool.false_eq_true, beq_self_eq_true, ne_eq, not_true_eq_false, not_false_eq_true, and_true, true_and, and_self, or_self, or_false, false_or, or_true, true_or, eq_self, forall_const, false_implies, implies_true, Int.toNat_natCast, Int.natCast_nonneg, Nat.lt_irrefl, Nat.le_refl, List.length_map, List.length_append, Option.some.injEq, Prod.mk.injEq, Nat.not_lt_zero, Nat.zero_le, Nat.zero_lt_succ, Nat.lt_add_one, grdO_t, grdO_f, runO_res, guardD, yieldD, aggP, tupP, dsR, rowsS, srcS, effM, heapM, rid, ren, renL, renR, renC, mids, dRows_get, dRows_len, dRows_app, renL_d, renR_d, renR_set, List.getD_cons_zero, List.getD_cons_succ, List.getD_nil, List.range_succ, List.range_zero, List.length_set, List.set_cons_zero, List.set_cons_succ, Nat.reduceAdd, Nat.reduceMul, Nat.reduceSub, Nat.reduceLeDiff, Nat.reduceLT, Nat.reduceEqDiff, reduceIte, reduceCtorEq, Int.reduceLE, Int.reduceToNat, IntKind.bits, vwL, viewL_v, vw, viewL, viewR, viewF, viewR_d, viewL_d, encS, encP, spRes, hc', hce, he', Int.lt_irrefl, bne_self_eq_false]); exact rfl) (by first | exact spClaim_p root us p | exact hfp | exact spaceBegun_p) (by first | exact .inl rfl | exact .inr rfl | exact .inl (by simp only [tcL, tchL_t, tc, tchL, tchF, List.append_nil])) ?_; (try simp only [putE, tcL, tchL_t, tc, tchL, tchF, tchR, tchR_d, tchL_d, hatL, List.append_nil, List.nil_append, List.cons_append, encS, encP, spRes, hc', hce, he', Int.lt_irrefl, bne_self_eq_false]); (with_reducible refine hR _ _ _ ?_); clear hR R) | (fail; (with_reducible refine hR _ _ _ ?_); clear hR R))) | ((with_reducible refine sOps_nil ?_); (try simp only [seqK_nor, blkK_nor])) | ((with_reducible refine sOps_nild hops ?_ ?_); (kernel_rfl); (try simp only [seqK_nor, blkK_nor])) | (with_reducible refine pwp_seq fun C hC => ?_) | (with_reducible refine pwp_block fun C hC => ?_) | ((with_reducible refine swp_region_id ?_); (with_reducible refine swp_prune (rg 22) ?_); simp only [tabE, rg, look, Nat.reduceEqDiff, reduceIte, Nat.reduceAdd, reduceCtorEq, Nat.succ_ne_self]; (with_reducible refine swp_region tab_ok mixed (by simp) rfl fun ops' hops => ?_); simp only [List.map_cons, List.map_nil]) | ((with_reducible refine pwp_cond_t ?_ ?_); (exact rfl)) | ((with_reducible refine pwp_cond_f ?_ ?_); (exact rfl)) | (with_reducible refine pwp_skip ?_) | (with_reducible refine pwp_exit ?_) | (with_reducible refine pwp_ret ?_) | (with_reducible refine pwp_label ?_) | (with_reducible refine seqK_x _ _ ?_) | (with_reducible refine seqK_r _ ?_) | (with_reducible refine seqK_n _ ?_) | (with_reducible refine blkK_n _ _ ?_) | (with_reducible refine blkK_r _ _ ?_) | (with_reducible refine blkK_h _ _ ?_) | ((with_reducible refine blkK_x _ _ _ ?_ ?_); (decide)) | ((with_reducible refine hC _ _ ?_); clear hC C) | (clear hC C; (with_reducible refine hC _ _ ?_); clear hC C) | (clear hC C; clear hC C; (with_reducible refine hC _ _ ?_); clear hC C))
      refine ⟨(by first | exact .inl rfl | exact .inr rfl), _, _, (by (try simp only [retPL, retPV, retP, undef, ob_tt, ob_ff, ob_tf, ob_ft, ob_nt, ob_nf, cond_true, cond_false, opS, evL, look, dstB, putE, effC, setC, hatL, pickS, unS, nilS, binS, intS, fieldS, loadS, indexS, extrS, partsS, buildS, allLen, bslS, convS, lenS, appS, storeS, callS, tabT, tabQ, okP, cellsP, PV.one, D.one, Value.oneCell', dsOf, intsD, fillD, setAt, seqK_nor, seqK_normal, seqK_ret, seqK_exit, blkK_nor, blkK_normal, blkK_ret, blkK_exit, List.map_cons, List.map_nil, List.length_cons, List.length_nil, List.all_cons, List.all_nil, List.take_succ_cons, List.take_zero, List.drop_succ_cons, List.drop_zero, List.take_nil, List.drop_nil, List.cons_append, List.nil_append, List.append_nil, List.append_assoc, List.reverse_cons, List.reverse_nil, List.getElem?_cons_zero, List.getElem?_cons_succ, List.getElem?_nil, List.getElem?_toArray, List.getElem?_map, Option.map_some, Option.map_none, Option.getD_some, Option.getD_none, Option.bind_some, Option.bind_none, Nat.zero_add, Nat.add_zero, decide_true, decide_false, decide_eq_true_eq, Bool.and_true, Bool.true_and, Bool.and_false, Bool.false_and, Bool.and_self, Bool.not_true, Bool.not_false, Bool.true_eq_false, Bool.false_eq_true, beq_self_eq_true, ne_eq, not_true_eq_false, not_false_eq_true, and_true, true_and, and_self, or_self, or_false, false_or, or_true, true_or, eq_self, forall_const, false_implies, implies_true, Int.toNat_natCast, Int.natCast_nonneg, Nat.lt_irrefl, Nat.le_refl, List.length_map, List.length_append, Option.some.injEq, Prod.mk.injEq, Nat.not_lt_zero, Nat.zero_le, Nat.zero_lt_succ, Nat.lt_add_one, grdO_t, grdO_f, runO_res, guardD, yieldD, aggP, tupP, dsR, rowsS, srcS, effM, heapM, rid, ren, renL, renR, renC, mids, dRows_get, dRows_len, dRows_app, renL_d, renR_d, renR_set, List.getD_cons_zero, List.getD_cons_succ, List.getD_nil, List.range_succ, List.range_zero, List.length_set, List.set_cons_zero, List.set_cons_succ, Nat.reduceAdd, Nat.reduceMul, Nat.reduceSub, Nat.reduceLeDiff, Nat.reduceLT, Nat.reduceEqDiff, reduceIte, reduceCtorEq, Int.reduceLE, Int.reduceToNat, IntKind.bits, encS]); exact rfl), (by (try simp only [retP, undef, ob_tt, ob_ff, ob_tf, ob_ft, ob_nt, ob_nf, cond_true, cond_false, opS, evL, look, dstB, putE, effC, setC, hatL, pickS, unS, nilS, binS, intS, fieldS, loadS, indexS, extrS, partsS, buildS, allLen, bslS, convS, lenS, appS, storeS, callS, tabT, tabQ, okP, cellsP, PV.one, D.one, Value.oneCell', dsOf, intsD, fillD, setAt, seqK_nor, seqK_normal, seqK_ret, seqK_exit, blkK_nor, blkK_normal, blkK_ret, blkK_exit, List.map_cons, List.map_nil, List.length_cons, List.length_nil, List.all_cons, List.all_nil, List.take_succ_cons, List.take_zero, List.drop_succ_cons, List.drop_zero, List.take_nil, List.drop_nil, List.cons_append, List.nil_append, List.append_nil, List.append_assoc, List.reverse_cons, List.reverse_nil, List.getElem?_cons_zero, List.getElem?_cons_succ, List.getElem?_nil, List.getElem?_toArray, List.getElem?_map, Option.map_some, Option.map_none, Option.getD_some, Option.getD_none, Option.bind_some, Option.bind_none, Nat.zero_add, Nat.add_zero, decide_true, decide_false, decide_eq_true_eq, Bool.and_true, Bool.true_and, Bool.and_false, Bool.false_and, Bool.and_self, Bool.not_true, Bool.not_false, Bool.true_eq_false, Bool.false_eq_true, beq_self_eq_true, ne_eq, not_true_eq_false, not_false_eq_true, and_true, true_and, and_self, or_self, or_false, false_or, or_true, true_or, eq_self, forall_const, false_implies, implies_true, Int.toNat_natCast, Int.natCast_nonneg, Nat.lt_irrefl, Nat.le_refl, List.length_map, List.length_append, Option.some.injEq, Prod.mk.injEq, Nat.not_lt_zero, Nat.zero_le, Nat.zero_lt_succ, Nat.lt_add_one, grdO_t, grdO_f, runO_res, guardD, yieldD, aggP, tupP, dsR, rowsS, srcS, effM, heapM, rid, ren, renL, renR, renC, mids, dRows_get, dRows_len, dRows_app, renL_d, renR_d, renR_set, List.getD_cons_zero, List.getD_cons_succ, List.getD_nil, List.range_succ, List.range_zero, List.length_set, List.set_cons_zero, List.set_cons_succ, Nat.reduceAdd, Nat.reduceMul, Nat.reduceSub, Nat.reduceLeDiff, Nat.reduceLT, Nat.reduceEqDiff, reduceIte, reduceCtorEq, Int.reduceLE, Int.reduceToNat, IntKind.bits, vw, viewL, viewR, viewF, viewR_d, viewL_d, encS]); exact rfl), ?_⟩
      repeat (first | exact DLe.refl _ | exact DLe.nil _ | (refine DLe.tup ?_) | (refine DLe.agg ?_ rfl) | exact trivial | (refine And.intro ?_ ?_))
theorem spaceTrue_any {A : Area} (root : Pfx) (us : List Pfx) (uo : Option Addr) (ucap : Nat) (p : Pfx) (size : Int) (w : World) (h : Sl A w 2 Pfx.R uo ucap us) :
    Calls Try.prog 5 #[.agg #[.int .i64 root.at_, .int .i64 root.len, .slice uo us.length ucap], .agg #[.int .i64 p.at_, .int .i64 p.len], .int .i64 size] w fun e w' => e = .returned (.bool true) ∧ Ext w w' := by
  refine ((spaceTrue_p root us p size).2 (fun _ => False) w [_, _, _] (fun _ h => h.elim) ⟨rfl, fun j d x hj hx => ?_⟩).mono fun e w' ⟨v, he, hv, hx⟩ => ⟨by rw [he, repD_v hv], hx⟩
  match j with
  | 0 => cases hj; cases hx; exact rep_S h (fun _ _ h => h)
  | 1 => cases hj; cases hx; exact flat_mk rfl rfl
  | 2 => cases hj; cases hx; exact .v _
  | j + 3 => simp at hj
end Go.Proofs.Ytflbpkgnadjokaa
namespace Go.Proofs.Ytflbpkgnadjokaa
open Go Go.RowKit Go.Proofs Go.ChangeShapes Go.WideShapes Go.Deep
section
variable {H : Type} {enc : TypeId × Value → H} {P : Program} {w : World} {base : Nat} {spare : Nat → Bool} {held : Bool}
/-- Whatever is read as of type t is an R. -/
def Rd {α : Type} (enc : TypeId × Value → H) (P : Program) (w : World) (base : Nat) (spare : Nat → Bool) (held : Bool) (t : TypeId) (R : List Value → α → Prop) : Prop :=
  ∀ fuel cs x, DataW.trod enc P w base spare held fuel t cs = some x → ∃ a, R cs a
theorem Rd.map {α β : Type} {t : TypeId} {R : List Value → α → Prop} {R' : List Value → β → Prop} (h : Rd enc P w base spare held t R) (f : α → β) (hf : ∀ cs a, R cs a → R' cs (f a)) : Rd enc P w base spare held t R' := by
  intro fuel cs x hx
  obtain ⟨a, ha⟩ := h fuel cs x hx
  exact ⟨f a, hf _ _ ha⟩
def in64 (n : Int) : Prop := -9223372036854775808 ≤ n ∧ n ≤ 9223372036854775807
def IntR (cs : List Value) (n : Int) : Prop := cs = [.int .i64 n] ∧ in64 n
theorem in64_wf {n : Int} (h : (Lit.int .i64 n).wf = true) : in64 n := by
  simp only [Lit.wf, Bool.and_eq_true, decide_eq_true_eq] at h
  have h1 : IntKind.i64.min = -9223372036854775808 := rfl
  have h2 : IntKind.i64.max = 9223372036854775807 := rfl
  rw [h1, h2] at h
  exact h
theorem rd_int {t : TypeId} (ht : P.underlying t = some (.int .i64)) : Rd enc P w base spare held t IntR := by
  intro fuel cs x hx
  obtain ⟨n, h, _, hw⟩ := DataW.trod_int ht hx
  exact ⟨n, h, in64_wf hw⟩
theorem rd_field {α : Type} {t : TypeId} {fs : Array Field} {fuel : Nat} {cs : List Value} {x : DataW H × List MemPlace} (ht : P.underlying t = some (.struct fs)) (h : DataW.trod enc P w base spare held fuel t cs = some x)
    (j : Nat) {f : Field} (hf : fs[j]? = some f) {R : List Value → α → Prop} (hr : Rd enc P w base spare held f.type R) : ∃ a, R ((cs.drop f.offset).take (P.cellsOf f.type)) a := by
  obtain ⟨xs, n, _, _, _, hlen, hg⟩ := DataW.trod_struct ht h
  have h1 := hg j f hf
  have hj : j < xs.length := by rw [hlen]; exact (Array.getElem?_eq_some_iff.1 hf).1
  rw [List.getElem?_eq_getElem hj] at h1
  exact hr _ _ _ h1
theorem rd_len {t : TypeId} {fs : Array Field} {fuel : Nat} {cs : List Value} {x : DataW H × List MemPlace} (ht : P.underlying t = some (.struct fs)) (h : DataW.trod enc P w base spare held fuel t cs = some x) : cs.length = P.cellsOf t := by
  obtain ⟨_, _, _, _, h, _⟩ := DataW.trod_struct ht h
  exact h
theorem pick_list {α : Type} {Q : Nat → α → Prop} : ∀ (n : Nat), (∀ i, i < n → ∃ a, Q i a) → ∃ l : List α, l.length = n ∧ ∀ i (h : i < l.length), Q i l[i]
  | 0, _ => ⟨[], rfl, fun i h => by simp at h⟩
  | n + 1, h => by
    obtain ⟨l, hl, hq⟩ := pick_list n fun i hi => h i (by omega)
    obtain ⟨a, ha⟩ := h n (by omega)
    refine ⟨l ++ [a], by simp [hl], fun i hi => ?_⟩
    rcases Nat.lt_or_ge i l.length with h1 | h1
    · rw [List.getElem_append_left h1]; exact hq i h1
    · have : i = n := by simp at hi; omega
      subst this
      rw [List.getElem_append_right h1]
      simpa using ha
/-- What came in lies below the heap's size. -/
def inW (w : World) : Area := fun b => b < w.heap.size
theorem rd_slice {α : Type} {t e : TypeId} {k : Nat} {R : List Value → α → Prop} (ht : P.underlying t = some (.slice e)) (hc : P.cellsOf e = k + 1) (he : Rd enc P w base spare held e R) :
    Rd enc P w base spare held t fun cs (l : List α) => ∃ v, cs = [v] ∧ IsSl (inW w) w (k + 1) R v l := by
  intro fuel cs x hx
  rcases open_slice ht hx with ⟨rfl, _⟩ | ⟨a, len, cap, m, n, D, Pl, rfl, hb, hl, hm, hmm, _, hi⟩
  · exact ⟨[], _, rfl, none, 0, rfl, ⟨Nat.le_refl _, by decide, fun i h => by simp at h⟩⟩
  · have hlm : len ≤ m := by rw [hmm]; split <;> omega
    obtain ⟨l, hll, hq⟩ := pick_list (Q := fun i y => ∃ cs', w.cells? base (a.add (i * P.cellsOf e)) (P.cellsOf e) = some cs' ∧ R cs' y) len fun i h => by
      obtain ⟨cs', h1, h2⟩ := hi i (by omega)
      obtain ⟨y, hy⟩ := he _ _ _ h2
      exact ⟨y, cs', h1, hy⟩
    refine ⟨l, _, rfl, some a, cap, by rw [hll], ⟨by omega, by unfold maxLen at hm; omega, fun i h => ?_⟩⟩
    obtain ⟨cs', h1, h2⟩ := hq i h
    rw [hc] at h1
    obtain ⟨_, hcl, hat⟩ := World.cells?_some h1
    obtain ⟨b, off, spot⟩ := a
    have hspot : spot = none := by
      obtain ⟨cs0, g1, _⟩ := hq 0 (by omega)
      rw [hc] at g1
      obtain ⟨_, gcl, gat⟩ := World.cells?_some g1
      have g0 := gat (i := 0) (by omega)
      have g0' : w.cell? ⟨b, off, spot⟩ = some (cs0[0]'(by omega)) := by
        have : ((⟨b, off, spot⟩ : Addr).add (0 * (k + 1))).add 0 = ⟨b, off, spot⟩ := by simp [Addr.add]
        rw [this] at g0
        rw [g0]; exact List.getElem?_eq_getElem (by omega)
      exact World.cell?_spot g0'
    subst hspot
    have hadd : ∀ o j, ((⟨b, o, none⟩ : Addr).add j) = ⟨b, o + j, none⟩ := by
      intro o j; unfold Addr.add; split <;> simp_all
    refine ⟨b, off, cs', rfl, ?_, hcl, h2, fun j hj => ?_⟩
    · have := hat (i := 0) (by omega)
      rw [hadd, hadd] at this
      exact lt_of_cell (this.trans (List.getElem?_eq_getElem (by omega)))
    · have := hat (i := j) (by omega)
      rw [hadd, hadd] at this
      rw [this]
      exact List.getElem?_eq_getElem hj
theorem arg_int {r : Reach} {b0 : Nat} {t : TypeId} {v : Value} {d : DataW H} {p : List MemPlace} (ht : P.underlying t = some (.int .i64)) (hval : Value.okWide P w r b0 t v) (hd : DataW.Trod enc P w base spare held t v d p) : ∃ n, v = .int .i64 n ∧ in64 n := by
  obtain ⟨n, h, _, _, hw⟩ := open_int ht hval hd
  exact ⟨n, h, in64_wf hw⟩
theorem arg_string {r : Reach} {b0 : Nat} {t : TypeId} {v : Value} {d : DataW H} {p : List MemPlace} (ht : P.underlying t = some .string) (hval : Value.okWide P w r b0 t v) (hd : DataW.Trod enc P w base spare held t v d p) : ∃ s : ByteArray, v = .string s ∧ s.size ≤ 9223372036854775807 := by
  obtain ⟨s, h, _, _, hw⟩ := Go.ChangeMaps.open_string ht hval hd
  exact ⟨s, h, by unfold maxLen at hw; omega⟩
theorem arg_slice {α : Type} {A : Area} {k : Nat} {R : List Value → α → Prop} {r : Reach} {b0 : Nat} {t e : TypeId} {v : Value} {d : DataW H} {p : List MemPlace} (ht : P.underlying t = some (.slice e)) (hval : Value.okWide P w r b0 t v) (hd : DataW.Trod enc P w base spare held t v d p)
    (hr : Rd enc P w base spare held t fun cs (l : List α) => ∃ v, cs = [v] ∧ IsSl A w k R v l) : ∃ l ao cap, v = .slice ao l.length cap ∧ Sl A w k R ao cap l := by
  obtain ⟨a, len, cap, rfl⟩ := okWide_slice ht hval
  obtain ⟨fuel, hf⟩ := hd
  obtain ⟨l, v, hv, ao, cap', rfl, hs⟩ := hr _ _ _ hf
  simp [Value.cells] at hv
  obtain ⟨rfl, rfl, rfl⟩ := hv
  exact ⟨l, _, _, rfl, hs⟩
theorem arg_agg {α : Type} {R : List Value → α → Prop} {r : Reach} {b0 : Nat} {t : TypeId} {fs : Array Field} {v : Value} {d : DataW H} {p : List MemPlace} (ht : P.underlying t = some (.struct fs)) (hval : Value.okWide P w r b0 t v) (hd : DataW.Trod enc P w base spare held t v d p)
    (hr : Rd enc P w base spare held t R) : ∃ cs a, v = .agg cs ∧ R cs.toList a := by
  obtain ⟨cs, rfl, _⟩ := okWide_struct ht hval
  obtain ⟨fuel, hf⟩ := hd
  obtain ⟨a, ha⟩ := hr _ _ _ hf
  exact ⟨cs, a, rfl, by simpa [Value.cells] using ha⟩
theorem trod_lts {t : TypeId} {v : Value} {d : DataW H} {p : List MemPlace} (h : DataW.Trod enc P w base spare held t v d p) : ∀ x ∈ p, x.block < w.heap.size := by
  obtain ⟨m, hm⟩ := h
  exact DataW.trod_lt m _ _ _ hm
end
end Go.Proofs.Ytflbpkgnadjokaa
namespace Go.Proofs.Ytflbpkgnadjokaa
open Go Go.RowKit Go.Proofs Go.ChangeShapes Go.WideShapes Go.Deep
section
variable {H : Type} {enc : TypeId × Value → H} {w : World} {base : Nat} {spare : Nat → Bool} {held : Bool}
theorem Try.sizePfx : Try.prog.cellsOf 23 = 2 := by kernel_rfl
theorem Try.sizeSpace : Try.prog.cellsOf 26 = 3 := by kernel_rfl
theorem Try.sizeInt1 : Try.prog.cellsOf 3 = 1 := by kernel_rfl
theorem Try.sizePfxs : Try.prog.cellsOf 24 = 1 := by kernel_rfl
theorem rd_pfx : Rd enc Try.prog w base spare held 23 Pfx.R := by
  intro fuel cs x hx
  have hl := rd_len Try.underlying23 hx
  rw [Try.sizePfx] at hl
  obtain ⟨a, ha⟩ := rd_field Try.underlying23 hx 0 rfl (rd_int Try.underlying3)
  obtain ⟨b, hb⟩ := rd_field Try.underlying23 hx 1 rfl (rd_int Try.underlying3)
  match cs, hl with
  | [c0, c1], _ =>
    simp [Try.sizeInt1, IntR] at ha hb
    exact ⟨⟨a, b⟩, by simp [Pfx.R, ha.1, hb.1]⟩
theorem rd_pfxs : Rd enc Try.prog w base spare held 24 fun cs (l : List Pfx) => ∃ v, cs = [v] ∧ IsSl (inW w) w 2 Pfx.R v l :=
  rd_slice Try.underlying24 Try.sizePfx rd_pfx
def SpaceR (w : World) (cs : List Value) (s : Pfx × List Pfx) : Prop := ∃ ao cap, cs = [.int .i64 s.1.at_, .int .i64 s.1.len, .slice ao s.2.length cap] ∧ Sl (inW w) w 2 Pfx.R ao cap s.2
theorem rd_space : Rd enc Try.prog w base spare held 26 (SpaceR w) := by
  intro fuel cs x hx
  have hl := rd_len Try.underlying26 hx
  rw [Try.sizeSpace] at hl
  obtain ⟨p, hp⟩ := rd_field Try.underlying26 hx 0 rfl rd_pfx
  obtain ⟨l, hu⟩ := rd_field Try.underlying26 hx 1 rfl rd_pfxs
  match cs, hl with
  | [c0, c1, c2], _ =>
    simp [Try.sizePfx, Try.sizePfxs, Pfx.R] at hp hu
    obtain ⟨ao, cap, rfl, hs⟩ := hu
    exact ⟨(p, l), ao, cap, by simp [hp.1, hp.2], hs⟩
end
end Go.Proofs.Ytflbpkgnadjokaa
namespace Go.Proofs.Ytflbpkgnadjokaa
open Go Go.RowKit Go.Proofs Go.ChangeShapes Go.WideShapes Go.ChangeAt
set_option linter.unusedVariables false
theorem spaceTrue_own : ownKnob Try.prog.godebug = Option.none := by kernel_rfl
theorem spaceTrue_laidOut : laidOutB Try.prog = true := by kernel_rfl
set_option maxRecDepth 100000 in
theorem spaceTrue_lifted (os : Os) (started : os.Started) (H : Type) (enc : TypeId × Value → H) :
    ReturnsInHanded {} Try.checked os 5 .any (Rows.spaceTrueSpec.pre6 enc Try.prog Try.f5 Rows.spaceTrueRow.domain false) (Rows.spaceTrueSpec.post enc Try.prog Try.f5 false true false false) := by
  refine returnsInHanded_of_change (C := Try.checked) spaceTrue_own started (by kernel_rfl) Try.func5
    (ChangeSpec.witness6 (enc := enc) (C := Try.checked) false ⟨#[], #[.agg #[.int .i64 0, .int .i64 0, .slice none 0 0], .agg #[.int .i64 0, .int .i64 0], .int .i64 0], []⟩ 8 (by kernel_rfl) (by kernel_rfl) (by kernel_rfl) (by kernel_rfl)) ?_
  intro W base args ds gs before hval0 hW hcnd _
  have hval : ∀ (j : Nat) t v, Try.f5.params[j]? = some t → args[j]? = some v → Value.okWide Try.prog W .any base t v := hval0
  have hW' := hW
  obtain ⟨p, q, hA0, hV, rfl, hfz, hnd⟩ := hW
  have hA : DataW.TrodAll enc Try.prog W 0 (fun _ => true) true Try.f5.params.toList args.toList ds p := hA0
  rw [Try.params5] at hA hval
  obtain ⟨v0, vs0, d0, ds0, p0, q0, hargs, rfl, rfl, h0, r0⟩ := trodAll_cons hA
  obtain ⟨v1, vs1, d1, ds1, p1, q1, rfl, rfl, rfl, h1, r1⟩ := trodAll_cons r0
  obtain ⟨v2, vs2, d2, ds2, p2, q2, rfl, rfl, rfl, h2, r2⟩ := trodAll_cons r1
  obtain ⟨rfl, rfl, rfl⟩ := trodAll_nil r2
  obtain rfl : args = #[v0, v1, v2] := by cases args; simp_all
  obtain ⟨rfl, rfl⟩ := trodVars_none hV
  obtain ⟨cs0, a0, rfl, w0⟩ := arg_agg Try.underlying26 (hval 0 26 v0 rfl rfl) h0 rd_space
  obtain ⟨ao0, cap0, hcs0, w0⟩ := w0; obtain rfl : cs0 = #[.int .i64 a0.1.at_, .int .i64 a0.1.len, .slice ao0 a0.2.length cap0] := Array.toList_inj.1 hcs0
  obtain ⟨cs1, a1, rfl, w1⟩ := arg_agg Try.underlying23 (hval 1 23 v1 rfl rfl) h1 rd_pfx
  obtain rfl : cs1 = #[.int .i64 a1.at_, .int .i64 a1.len] := Array.toList_inj.1 w1
  obtain ⟨a2, rfl, w2⟩ := arg_int Try.underlying3 (hval 2 3 v2 rfl rfl) h2
  clear hA0 hval0
  refine (spaceTrue_any a0.1 a0.2 ao0 cap0 a1 a2 W w0).mono fun e W' ⟨he, bel⟩ => ?_
  subst he
  exact ⟨_, rfl, _, _, _, [], _, [], hW', trodAll_mk1 (shut_bool Try.underlying4 _), (trodAll_cons_mk (Below.trod spaceTrue_laidOut (by kernel_rfl) (of_decide_eq_true (by kernel_rfl)) h0 bel (trod_lts h0)) (trodAll_cons_mk (Below.trod spaceTrue_laidOut (by kernel_rfl) (of_decide_eq_true (by kernel_rfl)) h1 bel (trod_lts h1)) (trodAll_cons_mk (Below.trod spaceTrue_laidOut (by kernel_rfl) (of_decide_eq_true (by kernel_rfl)) h2 bel (trod_lts h2)) trodAll_mk0))), rfl, bel.frame _, fun h => by cases h⟩
theorem spaceTrue_over : Rows.spaceTrueRow.holds Try.pinned (OpenSpec.ofChange Rows.spaceTrueSpec) :=
  OpenClaim.holds_of_wide 5 Try.f5 rfl rfl rfl rfl rfl rfl rfl ⟨rfl, rfl, rfl, rfl, rfl⟩ rfl rfl rfl rfl rfl (by kernel_rfl) Try.func5 (by kernel_rfl)
    (of_decide_eq_true (by kernel_rfl)) (by unfold Func.isWrapper; first | (rw [if_pos (by decide +kernel)]; kernel_rfl) | (rw [if_neg (by decide +kernel)]; exact ⟨rfl, rfl⟩))
    (fun os started H enc _ => spaceTrue_lifted os started H enc)
theorem spaceTrue_holds : Rows.SpaceTrueSaid := spaceTrue_over
#print axioms spaceTrue_holds
end Go.Proofs.Ytflbpkgnadjokaa
