/- wire: Log. -/
import Derived.Test.YtbebjifnhjlkiaaWire6
import Derived.Test.YtbebjifnhjlkiaaBuild
namespace Go.Proofs.Ytbebjifnhjlkiaa
open Go Go.RowKit Go.Proofs
def cmdS (c : Cmd) : ByteArray := strOfNums (c.op :: c.nums.flatMap be4)
def writeV (c : Cmd) : Value := if c.ok then .tuple #[.string (cmdS c), .int .i64 0] else .tuple #[.string ⟨#[]⟩, .int .i64 3]
set_option maxHeartbeats 400000 in
theorem write_any (c : Cmd) (w : World) :
    Calls Try.prog 6 #[.agg c.cs] w fun e w' => e = .returned (writeV c) ∧ Ext w w' := by
  by_cases h : 0 ≤ c.op ∧ c.op ≤ 255
  · have hv : writeV c = writeRes c := by
      have : within c.op 0 255 = true := by simp [within, h]
      simp [writeV, writeRes, Cmd.ok, this, cmdS]
    rw [hv]
    exact write_in c w h.1 h.2
  · have hv : writeV c = .tuple #[.string ⟨#[]⟩, .int .i64 3] := by
      have : within c.op 0 255 = false := by simp [within]; omega
      simp [writeV, Cmd.ok, this]
    rw [hv]
    clear hv
    by_cases h0 : c.op < 0
    · unfold Cmd.cs
      clear h
      go_enter Try.func6, Try.ntmps6
      go_wp2_with fail
      go_ret2
      exact ⟨rfl, ((Bel.refl w).alloc _).bel⟩
    · have h1 : 255 < c.op := by omega
      unfold Cmd.cs
      clear h
      go_enter Try.func6, Try.ntmps6
      go_wp2_with fail
      go_ret2
      exact ⟨rfl, ((Bel.refl w).alloc _).bel⟩
theorem cmdS_size (c : Cmd) : (cmdS c).size = 37 := by
  unfold cmdS
  rw [strOfNums_size]
  simp [Cmd.nums, be4]
def frameC (c : Cmd) : ByteArray := frameS (cmdS c)
theorem frameC_size (c : Cmd) : (frameC c).size = 42 := by
  unfold frameC frameS
  rw [strOfNums_size]
  simp [frm, numsOf_length, cmdS_size, le4]
def logBytes (l : List Cmd) : List UInt8 := l.flatMap fun c => (frameC c).data.toList
def logS (l : List Cmd) : ByteArray := ⟨(logBytes l).toArray⟩
theorem logBytes_snoc (l : List Cmd) (c : Cmd) : logBytes (l ++ [c]) = logBytes l ++ (frameC c).data.toList := by simp [logBytes]
theorem logBytes_length (l : List Cmd) : (logBytes l).length = 42 * l.length := by
  induction l with
  | nil => rfl
  | cons c l ih =>
    have : (frameC c).data.toList.length = 42 := by rw [Array.length_toList]; exact frameC_size c
    simp only [logBytes, List.flatMap_cons, List.length_append, List.length_cons, this] at ih ⊢
    omega
def Cmd.R (cs : List Value) (c : Cmd) : Prop := cs = c.cs.toList
theorem Sl.cmd {A : Area} {w : World} {ao : Option Addr} {cap : Nat} {l : List Cmd} (h : Sl A w 10 Cmd.R ao cap l) (k : Nat) (hk : k < l.length) :
    ∃ b off, ao = some ⟨b, off, none⟩ ∧ A b ∧ b < w.heap.size ∧ ∀ i v, l[k].cs[i]? = some v → w.cell? ⟨b, off + k * 10 + i, none⟩ = some v := by
  obtain ⟨b, off, cs, hao, hA, hl, hR, hc⟩ := h.elem k hk
  unfold Cmd.R at hR
  subst hR
  have hlt := lt_of_cell (hc 0 (by simp [Cmd.cs]))
  refine ⟨b, off, hao, hA, hlt, fun i v hv => ?_⟩
  obtain ⟨hi, rfl⟩ := Array.getElem?_eq_some_iff.1 hv
  rw [hc i (by simpa using hi)]
  simp
theorem isBuilder_ext {T e : TypeId} {B b : Nat} {bs : List Value} {w w' : World} (hx : Ext w w') (h : Lib.IsBuilder T e B b bs w) : Lib.IsBuilder T e B b bs w' := by
  have key : ∀ p, Lib.BuilderAt T e B b p bs w → Lib.BuilderAt T e B b p bs w' := fun p ⟨hB, v, hb, ho, hn⟩ => ⟨hB, v, block_ext hx hb, ownsRow_ext hx ho, hn⟩
  exact h.elim (fun x => .inl (key _ x)) (fun x => .inr (key _ x))
def logV (l : List Cmd) : Value := if l.all Cmd.ok then (if l.length ≤ 200 then .tuple #[.string (logS l), .int .i64 0] else .tuple #[.string ⟨#[]⟩, .int .i64 2]) else .tuple #[.string ⟨#[]⟩, .int .i64 3]
def LRel (l : List Cmd) (w : World) (k : Nat) (wr : World) : Prop :=
  ∃ bs : List UInt8, Lib.IsBuilder 63 5 w.heap.size w.heap.size (Lib.byteCells bs) wr ∧ bs.length ≤ 16426 ∧ (k ≤ 200 → bs = logBytes (l.take k)) ∧ Bel w.heap.size w wr
set_option maxHeartbeats 1000000 in
set_option maxRecDepth 100000 in
theorem log_any {A : Area} (l : List Cmd) (ao : Option Addr) (cap : Nat) (w : World) (h : Sl A w 10 Cmd.R ao cap l) :
    Calls Try.prog 14 #[.slice ao l.length cap] w fun e w' => e = .returned (logV l) ∧ Ext w w' := by
  have hcl := h.cap_le
  have hcm := h.cap_max
  obtain ⟨r, hr⟩ : ∃ r, r = logV l := ⟨_, rfl⟩
  rw [← hr]
  replace hr := Lib.hid hr
  have hstart : LRel l w 0 (w.alloc (.cells #[.pointer none, .slice none 0 0] 63)) :=
    ⟨[], .inl ⟨Nat.le_refl _, _, block_new _ _, World.ownsRow_nil _ _ _ _, by simp [Value.ownBlock]⟩, by simp, fun _ => rfl, (Bel.refl w).alloc _⟩
  replace hstart := Lib.hid hstart
  go_enter Try.func14, Try.ntmps14
  go_wp2_with fail
  go_loopw [13] (fun i wr => ∃ k : Nat, k ≤ l.length ∧ i = .int .i64 k ∧ (∀ c ∈ l.take k, c.ok = true) ∧ LRel l w k wr) (fun i _ => l.length - (intOf i).toNat)
  case atStart => exact ⟨0, by omega, rfl, by simp, hstart.out⟩
  case round =>
    obtain ⟨k, hk, rfl, hall, bs, hbld, hbl, hbs, hbel⟩ := hrel
    clear hstart
    have hle := hbel.le
    by_cases hlt : k < l.length
    · have hltI : (k : Int) < l.length := by omega
      obtain ⟨b, off, hao, -, hbw, hcells⟩ := h.cmd k hlt
      subst hao
      obtain ⟨c, hc⟩ : ∃ c, c = l[k] := ⟨_, rfl⟩
      rw [← hc] at hcells
      have k0 : wr.cell? ⟨b, off + k * 10, none⟩ = some (.int .i64 c.op) := hbel.cell hbw (hcells 0 _ rfl)
      have k1 : wr.cell? ⟨b, off + k * 10 + 1, none⟩ = some (.int .i64 c.a) := hbel.cell hbw (hcells 1 _ rfl)
      have k2 : wr.cell? ⟨b, off + k * 10 + 2, none⟩ = some (.int .i64 c.b) := hbel.cell hbw (hcells 2 _ rfl)
      have k3 : wr.cell? ⟨b, off + k * 10 + 3, none⟩ = some (.int .i64 c.c) := hbel.cell hbw (hcells 3 _ rfl)
      have k4 : wr.cell? ⟨b, off + k * 10 + 4, none⟩ = some (.int .i64 c.at_) := hbel.cell hbw (hcells 4 _ rfl)
      have k5 : wr.cell? ⟨b, off + k * 10 + 5, none⟩ = some (.int .i64 c.len) := hbel.cell hbw (hcells 5 _ rfl)
      have k6 : wr.cell? ⟨b, off + k * 10 + 6, none⟩ = some (.int .i64 c.min) := hbel.cell hbw (hcells 6 _ rfl)
      have k7 : wr.cell? ⟨b, off + k * 10 + 7, none⟩ = some (.int .i64 c.max) := hbel.cell hbw (hcells 7 _ rfl)
      have k8 : wr.cell? ⟨b, off + k * 10 + 8, none⟩ = some (.int .i64 c.usual) := hbel.cell hbw (hcells 8 _ rfl)
      have k9 : wr.cell? ⟨b, off + k * 10 + 9, none⟩ = some (.int .i64 c.cool) := hbel.cell hbw (hcells 9 _ rfl)
      have hcmem : c ∈ l := by rw [hc]; exact List.getElem_mem hlt
      have htk : l.take (k + 1) = l.take k ++ [c] := by rw [List.take_succ_eq_append_getElem hlt, ← hc]
      replace hc := Lib.hid hc
      replace hcells := Lib.hid hcells
      replace hall := Lib.hid hall
      replace hbld := Lib.hid hbld
      replace hbs := Lib.hid hbs
      replace htk := Lib.hid htk
      replace hcmem := Lib.hid hcmem
      go_wp2_with fail
      have hwany := write_any c (wr.alloc (.cells c.cs 27))
      cases hok : c.ok
      case false =>
        have hv : writeV c = .tuple #[.string ⟨#[]⟩, .int .i64 3] := by simp [writeV, hok]
        have h3 : r = .tuple #[.string ⟨#[]⟩, .int .i64 3] := by
          have : l.all Cmd.ok = false := by
            rw [List.all_eq_false]; exact ⟨c, hcmem.out, by simp [hok]⟩
          rw [hr.out]; simp [logV, this]
        rw [hv] at hwany
        subst h3
        refine hwany.mono ?_
        rintro e w1 ⟨rfl, hw1⟩
        clear hwany hv
        go_wp2_with fail
        go_ret2
        refine ⟨rfl, Bel.bel (B := _) ?_⟩
        (repeat (first | with_reducible assumption | with_reducible exact Bel.refl _ | with_reducible refine Bel.alloc ?_ _ | with_reducible refine Bel.drewN ?_ _ | with_reducible refine Bel.drew ?_ | (with_reducible refine Bel.setCell ?_ (p := _) ?_ _; rotate_left; (first | exact Nat.le_refl _ | (simp; done) | omega | (simp; omega))) | refine Bel.call ?_ (by assumption)))
      case true =>
        have hv : writeV c = .tuple #[.string (cmdS c), .int .i64 0] := by simp [writeV, hok]
        rw [hv] at hwany
        refine hwany.mono ?_
        rintro e w1 ⟨rfl, hw1⟩
        have hx1 : Ext wr w1 := ext_trans (ext_alloc _ _) hw1
        have hb1 : Bel w.heap.size w w1 := hbel.call hx1
        have hbld1 := isBuilder_ext hx1 hbld.out
        clear hwany hv hw1
        replace hx1 := Lib.hid hx1
        replace hbld1 := Lib.hid hbld1
        go_wp2_with fail
        refine (Try.Builder_Len w.heap.size w.heap.size (Lib.byteCells bs) w1 hbld1.out).mono ?_
        rintro e w2 ⟨rfl, rfl⟩
        have hbc : (Lib.byteCells bs).length = bs.length := by simp [Lib.byteCells]
        rw [hbc]
        clear hbc
        by_cases hlen : bs.length ≤ 16384
        · go_wp2_with fail
          refine (frame_any (cmdS c) w2 (by rw [cmdS_size]; omega)).mono ?_
          rintro e w3 ⟨rfl, hw3⟩
          have hb3 : Bel w.heap.size w w3 := hb1.call hw3
          have hbld3 := isBuilder_ext hw3 hbld1.out
          clear hw3 hb1
          replace hbld3 := Lib.hid hbld3
          go_wp2_with fail
          refine (writeString_any w.heap.size w.heap.size (Lib.byteCells bs) (frameS (cmdS c)) w3 hbld3.out (by have := frameC_size c; unfold frameC at this; simp [Lib.byteCells]; omega) hb3.le).mono ?_
          rintro e w4 ⟨rfl, hbld4, hbe4⟩
          have R : LRel l w (k + 1) w4 := by
            refine ⟨bs ++ (frameC c).data.toList, .inr ?_, ?_, ?_, ⟨hb3.bel.trans hbe4, Nat.le_trans hb3.le hbe4.size⟩⟩
            · have he : Lib.byteCells (bs ++ (frameC c).data.toList) = Lib.byteCells bs ++ Lib.strCells (frameS (cmdS c)) := by
                simp [Lib.byteCells, Lib.strCells, frameC]
              rw [he]; exact hbld4
            · have : (frameC c).data.toList.length = 42 := by rw [Array.length_toList]; exact frameC_size c
              rw [List.length_append, this]; omega
            · intro hk2
              rw [htk.out, logBytes_snoc, ← hbs.out (by omega)]
          clear hbld4 hbe4 hb3
          replace R := Lib.hid R
          go_wp2_with fail
          go_roundw
          case rel => exact ⟨k + 1, by omega, by go_num, (by
            intro d hd
            rw [htk.out] at hd
            rcases List.mem_append.1 hd with hd | hd
            · exact hall.out d hd
            · rw [List.mem_singleton.1 hd]; exact hok), R.out⟩
          case measure => simp [intOf]; omega
        · have R : LRel l w (k + 1) w2 := ⟨bs, hbld1.out, hbl, (by
            intro hk2
            have h1 := hbs.out (by omega)
            have h2 := logBytes_length (l.take k)
            rw [← h1] at h2
            have h3 : (l.take k).length = k := by simp; omega
            omega), hb1⟩
          clear hb1
          replace R := Lib.hid R
          go_wp2_with fail
          go_roundw
          case rel => exact ⟨k + 1, by omega, by go_num, (by
            intro d hd
            rw [htk.out] at hd
            rcases List.mem_append.1 hd with hd | hd
            · exact hall.out d hd
            · rw [List.mem_singleton.1 hd]; exact hok), R.out⟩
          case measure => simp [intOf]; omega
    · obtain rfl : k = l.length := by omega
      rw [List.take_length] at hall hbs
      have hallb : l.all Cmd.ok = true := by rw [List.all_eq_true]; exact hall
      clear hall hlt
      by_cases h200 : l.length ≤ 200
      · have h3 : r = .tuple #[.string (logS l), .int .i64 0] := by rw [hr.out]; simp [logV, hallb, h200]
        have hb : bs = logBytes l := hbs h200
        subst h3
        clear hbs hallb
        replace hbld := Lib.hid hbld
        go_wp2_with fail
        refine (Try.Builder_String_any w.heap.size w.heap.size bs wr hbld.out hle).mono ?_
        rintro e w1 ⟨rfl, hw1⟩
        have hs : (⟨bs.toArray⟩ : ByteArray) = logS l := by rw [hb]; rfl
        rw [hs]
        clear hs hb
        go_wp2_with fail
        go_ret2
        exact ⟨rfl, hbel.bel.trans hw1⟩
      · have h3 : r = .tuple #[.string ⟨#[]⟩, .int .i64 2] := by rw [hr.out]; simp [logV, hallb, h200]
        subst h3
        clear hbs hallb
        replace hbld := Lib.hid hbld
        go_wp2_with fail
        go_ret2
        exact ⟨rfl, hbel.bel⟩
end Go.Proofs.Ytbebjifnhjlkiaa
