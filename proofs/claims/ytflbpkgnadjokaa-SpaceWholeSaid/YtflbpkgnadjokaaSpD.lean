/- slices.Clone, slices.Delete at prefixes. -/
import Derived.Test.YtflbpkgnadjokaaSpS
import Derived.Deep.RegionLaw
import Derived.Lib.SliceRun
namespace Go.Proofs.Ytflbpkgnadjokaa
open Go Go.RowKit Go.Proofs
def CloneOut (w : World) (l : List Pfx) (e : Ending) (w' : World) : Prop :=
  ∃ v, e = .returned v ∧ w'.ownsRow w.heap.size 23 2 v l.length (l.flatMap pcells) ∧ Ext w w'
theorem flat_len : ∀ (l : List Pfx), (l.flatMap pcells).length = l.length * 2
  | [] => rfl
  | x :: t => by rw [List.flatMap_cons, List.length_append, flat_len t, List.length_cons]; simp only [pcells, List.length_cons, List.length_nil]; omega
theorem pcells_at {l : List Pfx} {j : Nat} {u : Value} (h : (l.flatMap pcells)[j]? = some u) : ∃ (h' : j / 2 < l.length), (pcells l[j / 2])[j % 2]? = some u := by
  have hlen := flat_len l
  have hj : j < l.length * 2 := by
    rw [← hlen]; exact (List.getElem?_eq_some_iff.1 h).1
  have h2 : j / 2 < l.length := by omega
  refine ⟨h2, ?_⟩
  have := flatMap_at (f := pcells) (k := 2) l (fun _ _ => rfl) (j / 2) h2 (j % 2) (by omega)
  rw [← this, ← h]
  congr 1
  omega
theorem slice_cells {A : Area} {w : World} {a : Addr} {cap : Nat} {l : List Pfx} (h : Sl A w 2 Pfx.R (some a) cap l) : ∀ j u, (l.flatMap pcells)[j]? = some u → w.cell? (a.add j) = some u := by
  intro j u hj
  obtain ⟨h1, h2⟩ := pcells_at hj
  obtain ⟨b, off, cs, e1, -, -, e2, e3⟩ := h.elem (j / 2) h1
  cases e1
  subst e2
  have h3 := e3 (j % 2) (by simp; omega)
  rw [Addr.add_lit]
  have e4 : off + j = off + j / 2 * 2 + j % 2 := by omega
  rw [e4, h3]
  rcases Nat.mod_two_eq_zero_or_one j with e | e <;> simp [e, pcells] at h2 ⊢ <;> exact h2
set_option maxHeartbeats 1000000 in
set_option maxRecDepth 100000 in
theorem clone_any {A : Area} (l : List Pfx) (ao : Option Addr) (cap : Nat) (w : World) (h : Sl A w 2 Pfx.R ao cap l) (hl : l.length ≤ 65536) :
    Calls Try.prog 36 #[.slice ao l.length cap] w (CloneOut w l) := by
  obtain ⟨i0, hi, hz0, hz1, hz2⟩ := info_parts Try.infoPrefix
  have q : ∀ (w : World) (a : Option Addr) (n c n' c' : Nat), (binOp .eql 24 (.slice a n c) (.slice none n' c')).run Try.prog w = .ok (.bool a.isNone) w := fun w a n c n' c' => Lib.run_eql_slice_nil w _ _ a n c n' c' Try.underlying24
  cases ao with
  | none =>
    have h0 : l = [] := by
      cases l with
      | nil => rfl
      | cons x t => obtain ⟨b, off, cs, e, _⟩ := h.elem 0 (by simp); cases e
    subst h0
    clear h
    go_enter Try.func36, Try.ntmps36
    go_wp2_with fail
    go_ret
    exact ⟨_, rfl, World.ownsRow_nil _ _ _ _, Below.refl _ _⟩
  | some a =>
    have hc := Lib.hid (slice_cells h)
    have h1 : Hid (∀ u ∈ l.flatMap pcells, u.oneCell' = true) := by
      intro u hu
      obtain ⟨x, -, hx⟩ := List.mem_flatMap.1 hu
      simp [pcells] at hx; rcases hx with rfl | rfl <;> rfl
    have hlen := Lib.hid (flat_len l)
    clear h
    go_enter Try.func36, Try.ntmps36
    go_wp2_with (at_builtin; refine wpList_append_own _ rfl _ _ 24 rfl w.heap.size 23 i0 (.agg #[.int .i64 0, .int .i64 0]) 2 16 Try.underlying24 hi hz0 hz1 hz2 rfl (by decide) _ _ _ rfl (World.ownsRow_made w #[] 0 (Nat.le_refl _) (Nat.zero_le _) (by simp)) a l.length cap (l.flatMap pcells) rfl hlen.out ?c1 h1.out (by unfold maxLen; omega) (by omega) (by simp) ?_; rotate_right; intro v' w1 hown hgrow hnil)
    case c1 =>
      intro j u hj
      exact Lib.cell?_alloc_some _ (hc.out j u hj)
    go_ret
    exact ⟨_, rfl, by simpa using hown, ((Below.refl _ w).alloc (Nat.le_refl _) _).grown hgrow (by simp) (by intro k hk; cases hk; exact Nat.le_refl _)⟩
def DelOut (w : World) (g cap : Nat) (l : List Pfx) (i : Nat) (e : Ending) (w' : World) : Prop :=
  e = .returned (.slice (some ⟨g, 0, none⟩) (l.length - 1) cap) ∧ Fl w' g cap (l.eraseIdx i) ∧ w.grownBy w' (some g)
theorem zero_prefix : ∀ w, (zeroValue 23).run Try.prog w = .ok (.agg #[.int .i64 0, .int .i64 0]) w := Try.zeroValue23
theorem run_clear_one (w : World) (ty : TypeId) (b o c : Nat)
    (hc : ∀ j, j < 2 → (w.cell? ⟨b, o + j, none⟩).isSome = true) (hf : ∀ j, j < 2 → w.frozen? ⟨b, o + j, none⟩ = false) :
    (Builtin.clear_ #[24] ty #[.slice (some ⟨b, o, none⟩) 1 c]).run Try.prog w = .ok (.tuple #[]) (w.setCells b o [.int .i64 0, .int .i64 0]) := by
  have hst := run_storeCells_cells (P := Try.prog) b o [.int .i64 0, .int .i64 0] 0 w (by simpa using hc) (by simpa using hf) (by intro v hv; simp at hv; rcases hv with rfl | rfl <;> rfl)
  simp only [Nat.add_zero] at hst
  have hzc : Builtin.zeroCells (Value.agg #[.int .i64 0, .int .i64 0]).cells 1 = #[.int .i64 0, .int .i64 0] := by simp [Builtin.zeroCells, Value.cells, show Array.range 2 = #[0, 1] from rfl]
  simp [Builtin.clear_, run_underlying Try.underlying24, zero_prefix, hzc, hst]
theorem gr_set (w : World) (b o : Nat) (u : Value) : w.grownBy (w.setCell ⟨b, o, none⟩ u) (some b) :=
  ⟨rfl, rfl, rfl, by rw [World.size_setCell]; exact Nat.le_refl _, fun k _ hne => block_setCell_ne u (fun e => hne (by rw [← e]))⟩
theorem gr_trans {a b c : World} {r : Option Nat} (h : a.grownBy b r) (k : b.grownBy c r) : a.grownBy c r :=
  ⟨k.os.trans h.os, k.tape.trans h.tape, k.output.trans h.output, Nat.le_trans h.size k.size, fun i hi hne => (k.block i (Nat.lt_of_lt_of_le hi h.size) hne).trans (h.block i hi hne)⟩
theorem grownBy_setCells (b : Nat) : ∀ (vs : List Value) (o : Nat) (w : World), w.grownBy (w.setCells b o vs) (some b)
  | [], _, w => ⟨rfl, rfl, rfl, Nat.le_refl _, fun _ _ _ => rfl⟩
  | v :: r, o, w => gr_trans (gr_set w b o v) (grownBy_setCells b r (o + 1) _)
set_option maxHeartbeats 1000000 in
set_option maxRecDepth 100000 in
theorem delete_any (l : List Pfx) (g cap i : Nat) (w : World) (h : Fl w g cap l) (hi : i < l.length) :
    Calls Try.prog 40 #[.slice (some ⟨g, 0, none⟩) l.length cap, .int .i64 i, .int .i64 ((i : Int) + 1)] w (DelOut w g cap l i) := by
  obtain ⟨i0, hi0, hz0, hz1, hz2⟩ := info_parts Try.infoPrefix
  have hcl := h.cap_le
  have hcm := h.cap_max
  obtain ⟨j, hj⟩ : ∃ j, j = i + 1 := ⟨_, rfl⟩
  obtain ⟨n, hn⟩ : ∃ n, n = l.length := ⟨_, rfl⟩
  obtain ⟨news, hnews⟩ : ∃ news, news = (l.drop j).flatMap pcells := ⟨_, rfl⟩
  have hnl : Hid (news.length = (n - j) * 2) := by
    show news.length = _
    rw [hnews, flat_len, List.length_drop, hn]
  have hget : ∀ t u, news[t]? = some u → w.cell? ⟨g, j * 2 + t, none⟩ = some u := by
    intro t u ht
    rw [hnews] at ht
    obtain ⟨h1, h2⟩ := pcells_at ht
    rw [List.getElem_drop] at h2
    have h3 : j + t / 2 < l.length := by simp at h1; omega
    rcases Nat.mod_two_eq_zero_or_one t with e | e
    · rw [show j * 2 + t = (j + t / 2) * 2 from by omega, h.at_ _ h3]
      rw [e] at h2; simpa [pcells] using h2
    · rw [show j * 2 + t = (j + t / 2) * 2 + 1 from by omega, h.len _ h3]
      rw [e] at h2; simpa [pcells] using h2
  have hone : Hid (∀ u ∈ news, u.oneCell' = true) := by
    intro u hu
    rw [hnews] at hu
    obtain ⟨x, -, hx⟩ := List.mem_flatMap.1 hu
    simp [pcells] at hx; rcases hx with rfl | rfl <;> rfl
  have hthere : ∀ t, t < n * 2 → (w.cell? ⟨g, t, none⟩).isSome = true := by
    intro t ht
    rcases Nat.mod_two_eq_zero_or_one t with e | e
    · rw [show t = t / 2 * 2 from by omega, h.at_ (t / 2) (by omega)]; rfl
    · rw [show t = t / 2 * 2 + 1 from by omega, h.len (t / 2) (by omega)]; rfl
  obtain ⟨A, hA, hsrc⟩ : ∃ A : Addr, (if cap = j then some (⟨g, 0, none⟩ : Addr) else some ⟨g, 0 + j * 2, none⟩) = some A ∧ Hid (∀ t u, news[t]? = some u → w.drew.cell? (A.add t) = some u) := by
    by_cases hc : cap = j
    · refine ⟨⟨g, 0, none⟩, by simp [hc], fun t u hu => ?_⟩
      have h0 : news.length = 0 := by rw [hnl.out]; omega
      rw [List.length_eq_zero_iff.1 h0] at hu
      simp at hu
    · refine ⟨⟨g, 0 + j * 2, none⟩, by simp [hc], fun t u hu => ?_⟩
      rw [Addr.add_lit, Nat.zero_add]
      exact hget t u hu
  have hsp : Hid (∀ t, t < news.length → (w.drew.cell? ⟨g, 0 + i * 2 + t, none⟩).isSome = true ∧ w.drew.frozen? ⟨g, 0 + i * 2 + t, none⟩ = false) := by
    intro t ht
    rw [hnl.out] at ht
    exact ⟨hthere _ (by omega), h.free _⟩
  obtain ⟨W1, hW1⟩ : ∃ W1, W1 = w.drew.setCells g (0 + i * 2) news := ⟨_, rfl⟩
  have hcl1 : ∀ ty, (Builtin.clear_ #[24] ty #[.slice (some ⟨g, 0 + (i + (n - j)) * 2, none⟩) (n - (i + (n - j))) (cap - (i + (n - j)))]).run Try.prog W1 = .ok (.tuple #[]) (W1.setCells g (0 + (i + (n - j)) * 2) [.int .i64 0, .int .i64 0]) := by
    intro ty
    rw [show n - (i + (n - j)) = 1 from by omega]
    exact run_clear_one W1 ty g _ _ (fun t ht => by rw [hW1]; exact World.isSome_setCells g _ _ _ _ (hthere _ (by omega))) (fun t ht => by rw [hW1, World.frozen?_setCells]; exact h.free _)
  have hW : Hid (W1 = w.drew.setCells g (0 + i * 2) news) := hW1
  have hfin : Hid (DelOut w g cap l i (.returned (.slice (some ⟨g, 0, none⟩) (n - 1) cap)) (W1.setCells g (0 + (i + (n - j)) * 2) [.int .i64 0, .int .i64 0])) := by
    have key : ∀ k (hk : k < (l.eraseIdx i).length) c, c < 2 → (W1.setCells g (0 + (i + (n - j)) * 2) [.int .i64 0, .int .i64 0]).cell? ⟨g, k * 2 + c, none⟩ = (pcells (l.eraseIdx i)[k])[c]? := by
      intro k hk c hc
      have hk' : k < n - 1 := by rw [List.length_eraseIdx_of_lt hi] at hk; omega
      rw [World.cell?_setCells_out g _ _ _ _ (fun _ _ => .inl (by show k * 2 + c < _; omega)), hW1]
      by_cases hki : k < i
      · rw [World.cell?_setCells_out g _ _ _ _ (fun _ _ => .inl (by show k * 2 + c < _; omega))]
        have e : (l.eraseIdx i)[k] = l[k]'(by omega) := by rw [List.getElem_eraseIdx, dif_pos hki]
        rw [e]
        show w.cell? _ = _
        match c, hc with
        | 0, _ => have := h.at_ k (by omega); simpa [pcells] using this
        | 1, _ => have := h.len k (by omega); simpa [pcells] using this
      · have e : (l.eraseIdx i)[k] = l[k + 1]'(by omega) := by rw [List.getElem_eraseIdx, dif_neg hki]
        rw [e]
        have hin := World.cell?_setCells_in g news (0 + i * 2) w.drew (fun t ht => (hsp.out t ht).1) ((k - i) * 2 + c) (by rw [hnl.out]; omega)
        rw [show 0 + i * 2 + ((k - i) * 2 + c) = k * 2 + c from by omega] at hin
        rw [hin, ← List.getElem?_eq_getElem]
        have hf := flatMap_at (f := pcells) (k := 2) (l.drop j) (fun _ _ => rfl) (k - i) (by simp; omega) c hc
        rw [← hnews, List.getElem_drop] at hf
        rw [hf]
        congr 3
        omega
    refine ⟨by rw [hn], ⟨by rw [List.length_eraseIdx_of_lt hi]; omega, hcm, fun k hk => ?_, fun k hk => ?_, fun o => ?_⟩, ?_⟩
    · have := key k hk 0 (by omega); simpa [pcells] using this
    · have := key k hk 1 (by omega); simpa [pcells] using this
    · rw [World.frozen?_setCells, hW1, World.frozen?_setCells]; exact h.free o
    · rw [hW1]
      have g0 : w.grownBy w.drew (some g) := ⟨rfl, rfl, rfl, Nat.le_refl _, fun _ _ _ => rfl⟩
      exact gr_trans (gr_trans g0 (grownBy_setCells g _ _ _)) (grownBy_setCells g _ _ _)
  have hic : i ≤ cap := by omega
  have hjc : j ≤ cap := by omega
  have hjn : j ≤ n := by omega
  have hjI : ((i : Int) + 1) = (j : Int) := by omega
  rw [hjI, ← hn]
  have hnc : n ≤ cap := by omega
  have hin : i < n := by omega
  have hie : i + (n - j) = n - 1 := by omega
  have hij : ¬ i = j := by omega
  replace hj := Lib.hid hj
  replace hie := Lib.hid hie
  clear hget hthere hW1 hnews h hn hcl hi
  rw [Nat.zero_add] at hA hcl1 hfin
  have hne1 : ¬ cap = i + (n - j) := by omega
  have hle1 : i + (n - j) ≤ n := by omega
  have hle2 : i + (n - j) ≤ cap := by omega
  have mixed : Try.prog.follows .mixedOrders = true := by kernel_rfl
  go_enter Try.func40, Try.ntmps40
  go_wp2_with fail
  go_region_law_o (refine step_append_room rfl (.tmp 22) (.tmp 25) 24 rfl 23 i0 2 Try.underlying24 hi0 hz1 g 0 i cap (by simp [Act.eval, Act.put]) A (n - j) (cap - j) news (by simp [Act.eval, Act.put]) hnl.out hsrc.out hone.out (by omega) hsp.out ?_; rw [← hW.out])
  go_wp2_with fail
  go_ret
  rw [hie.out]
  rw [hie.out] at hfin
  exact hfin.out
end Go.Proofs.Ytflbpkgnadjokaa
