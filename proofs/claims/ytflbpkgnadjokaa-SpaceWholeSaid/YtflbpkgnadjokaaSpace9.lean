/- space.Claim, where it does claim. -/
import Derived.Test.YtflbpkgnadjokaaSpace8
namespace Go.Proofs.Ytflbpkgnadjokaa
open Go Go.RowKit Go.Proofs
/-- Behind the append: a row of one's own, of all. -/
theorem claim_row {w W w' : World} {v v' : Value} {l : List Pfx} {p : Pfx} {base : Nat} (hb : w.heap.size ≤ base) (hown : w'.ownsRow base 23 2 v' (l.length + 1) (l.flatMap pcells ++ pcells p)) :
    ∃ g cap, v' = .slice (some ⟨g, 0, none⟩) (l.length + 1) cap ∧ base ≤ g ∧ g < w'.heap.size ∧ Fl w' g cap (l ++ [p]) := by
  obtain ⟨g, cap, rfl⟩ := ownsRow_succ hown
  have hl := hown.lt g rfl
  refine ⟨g, cap, rfl, hl.1, hl.2, fl_own (base := base) (n := l.length + 1) (by simpa using hown) (by simp)⟩
theorem Fl.of_block {w w' : World} {g cap : Nat} {l : List Pfx} (h : Fl w g cap l) (hb : w'.heap[g]? = w.heap[g]?) : Fl w' g cap l :=
  ⟨h.cap_le, h.cap_max, fun i hi => (World.cell?_of_block (a := ⟨g, i * 2, none⟩) hb).trans (h.at_ i hi), fun i hi => (World.cell?_of_block (a := ⟨g, i * 2 + 1, none⟩) hb).trans (h.len i hi), fun o => (World.frozen?_of_block (a := ⟨g, o, none⟩) hb).trans (h.free o)⟩
theorem SX.fr {lo : Nat} {w w' : World} (h : SX lo w w') (hl : lo ≤ w.heap.size) : ∀ b o, b < lo → w'.frozen? ⟨b, o, none⟩ = w.frozen? ⟨b, o, none⟩ := fun b o hb => World.frozen?_of_block (w := w) (h.block b (Nat.lt_of_lt_of_le hb hl) hb)
theorem SX.ext {w w' : World} (h : SX w.heap.size w w') : Ext w w' := ⟨h.os, h.tape, h.output, h.size, fun b hb => h.block b hb hb⟩
theorem SX.mono {lo lo' : Nat} {w w' : World} (hl : lo' ≤ lo) (h : SX lo w w') : SX lo' w w' := ⟨h.os, h.tape, h.output, h.size, fun b hb hx => h.block b hb (by omega)⟩
theorem keepAdd {X w1 : World} (h : Ext X w1) {b o j : Nat} {v : Value} (hc : X.cell? ((⟨b, o, none⟩ : Addr).add j) = some v) : w1.cell? ((⟨b, o, none⟩ : Addr).add j) = some v := by
  rw [Addr.add_lit] at *
  exact keepCell h hc
theorem step_own {P : Program} {o : Oper} {a : Act} {w : World} {K : Act → World → Prop} {Q : Exit → Act → World → Prop} (s x : Operand) (t : TypeId)
    (ho : o.op = .call { callee := .builtin .append, args := #[s, x], argTypes := #[t, t] })
    (base : Nat) (e : TypeId) (i : TypeInfo) (z : Value) (size bytes : Nat) (ht : P.underlying t = some (.slice e)) (hi : P.info? e = some i) (hz : i.zero = some z)
    (hsize : i.size = size) (hby : i.bytes = bytes) (hzs : z.cells.size = size) (hsz : 0 < size)
    (v : Value) (n : Nat) (xs : List Value) (hs : a.eval s = v) (hown : w.ownsRow base e size v n xs)
    (ad : Addr) (m c : Nat) (news : List Value) (hx : a.eval x = .slice (some ad) m c) (hl : news.length = m * size) (hnews : ∀ j u, news[j]? = some u → w.cell? (ad.add j) = some u) (h1 : ∀ u ∈ news, u.oneCell' = true)
    (h63 : n + m ≤ maxLen) (hbytes : (n + m) * bytes ≤ 140737488355328) (hbase : base ≤ w.heap.size)
    (hK : ∀ v' w', w'.ownsRow base e size v' (n + m) (xs ++ news) → w.grownBy w' v.ownBlock → K (a.put o.dst v') w') : Oper.wp P o a w K Q := by
  obtain ⟨v', w', hr, h2, h3, h4⟩ := run_append_own (P := P) w base t o.type e i z size bytes ht hi hz hsize hby hzs hsz v n xs hown ad m c news hl hnews h1 h63 hbytes hbase
  unfold Oper.wp execOp
  simp only [ho, resolve, invoke, builtin, Sem.run_bind, Sem.run_pure, Result.andThen_ok, List.map_toArray, List.map_cons, List.map_nil, hs, hx, hr]
  exact hK _ _ h2 h3
set_option maxHeartbeats 1500000 in
set_option maxRecDepth 100000 in
theorem claim_ok {A : Area} (root : Pfx) (us : List Pfx) (uo : Option Addr) (ucap : Nat) (p : Pfx) (w : World) (h : Sl A w 2 Pfx.R uo ucap us) (hc : claimE root us p = 0) :
    Calls Try.prog 15 #[.agg #[.int .i64 root.at_, .int .i64 root.len, .slice uo us.length ucap], .agg #[.int .i64 p.at_, .int .i64 p.len]] w (SpOut w 0 root (insU p us)) := by
  obtain ⟨i0, hi0, hz0, hz1, hz2⟩ := info_parts Try.infoPrefix
  have hck := fun W (h : Sl A W 2 Pfx.R uo ucap us) => spaceCheck_any root us uo ucap W h
  have hx3 : Ext w (((w.alloc (.cells #[.int .i64 root.at_, .int .i64 root.len, .slice uo us.length ucap] 26)).alloc (.cells #[.int .i64 p.at_, .int .i64 p.len] 23)).alloc (.cells #[.int .i64 0, .int .i64 0, .slice none 0 0] 26)) := ext_trans (ext_alloc _ _) (ext_trans (ext_alloc _ _) (ext_alloc _ _))
  have hin := inside_any p.at_ p.len root.at_ root.len
  have hme := fun W (h : Sl A W 2 Pfx.R uo ucap us) => spaceMeets_any us uo ucap p W h
  have hq : (us.any fun q => p.meets q) = us.any p.meets := rfl
  have hq2 : insP p.at_ p.len root.at_ root.len = insQ p root := rfl
  rw [hq] at hme
  rw [hq2] at hin
  clear hq hq2
  unfold claimE at hc
  have h0 : chkS root us = 0 := by
    by_cases h0 : chkS root us = 0
    · exact h0
    · rw [if_neg h0] at hc; exact hc
  rw [if_pos h0] at hc
  have hi : insQ p root = true := by
    by_cases hi : insQ p root = true
    · exact hi
    · rw [if_neg hi] at hc; cases hc
  rw [if_pos hi] at hc
  have hm : us.any p.meets = false := by
    by_cases hm : us.any p.meets = true
    · rw [if_pos hm] at hc; cases hc
    · simpa using hm
  rw [hm, if_neg (by simp)] at hc
  have h32 : us.length ≠ 32 := by
    intro h32
    rw [if_pos h32] at hc; cases hc
  have hok := chkS_ok.1 h0
  have hmany := hok.many
  rw [h0] at hck
  rw [hi] at hin
  rw [hm] at hme
  have h32I : ((us.length : Int) == 32) = false := by simp; omega
  have hfin := fun (l : List Pfx) (h1 : l.Perm (us ++ [p])) (h2 : l.Pairwise (fun x y => x.at_ ≤ y.at_)) => sorted_is hok (insQ_hi.1 hi).1 hm h1 h2
  have hrr : ∀ q ∈ us ++ [p], q.right = true := by
    intro q hq
    rcases List.mem_append.1 hq with hq | hq
    · exact (insQ_hi.1 (hok.ins q hq)).1
    · rw [List.mem_singleton] at hq; rw [hq]; exact (insQ_hi.1 hi).1
  have hcl := fun W (h : Sl A W 2 Pfx.R uo ucap us) => clone_any us uo ucap W h (by omega)
  replace hck := Lib.hid hck
  replace hin := Lib.hid hin
  replace hme := Lib.hid hme
  replace hfin := Lib.hid hfin
  replace hrr := Lib.hid hrr
  replace hcl := Lib.hid hcl
  clear hc h0 hi hm hok h32
  go_enter Try.func15, Try.ntmps15
  go_wp2_with fail
  refine (hck.out _ (h.ext hx3)).mono ?_
  rintro e w1 ⟨rfl, hw1⟩
  obtain ⟨hcw1, hfw1⟩ := bcell hw1
  have hzw1 := bsize hw1
  (try simp only [World.size_alloc, World.size_setCell, World.size_drew, World.heap_drewN] at hcw1 hfw1 hzw1)
  have l0w1 : w.heap.size < w1.heap.size := by omega
  have l1w1 : w.heap.size + 1 < w1.heap.size := by omega
  have l2w1 : w.heap.size + 1 + 1 < w1.heap.size := by omega
  have hx1 := ext_trans hx3 hw1
  go_wp2_with fail
  refine (hin.out _).mono ?_
  rintro e w2 ⟨rfl, hw2⟩
  obtain ⟨hcw2, hfw2⟩ := bcell hw2
  have hzw2 := bsize hw2
  (try simp only [World.size_alloc, World.size_setCell, World.size_drew, World.heap_drewN] at hcw2 hfw2 hzw2)
  have l0w2 : w.heap.size < w2.heap.size := by omega
  have l1w2 : w.heap.size + 1 < w2.heap.size := by omega
  have l2w2 : w.heap.size + 1 + 1 < w2.heap.size := by omega
  have hx2 := ext_trans hx1 hw2
  go_wp2_with fail
  refine (hme.out _ (h.ext hx2)).mono ?_
  rintro e w4 ⟨rfl, hw4⟩
  obtain ⟨hcw4, hfw4⟩ := bcell hw4
  have hzw4 := bsize hw4
  (try simp only [World.size_alloc, World.size_setCell, World.size_drew, World.heap_drewN] at hcw4 hfw4 hzw4)
  have l0w4 : w.heap.size < w4.heap.size := by omega
  have l1w4 : w.heap.size + 1 < w4.heap.size := by omega
  have l2w4 : w.heap.size + 1 + 1 < w4.heap.size := by omega
  have hx4 := ext_trans hx2 hw4
  go_wp2_with fail
  refine region_miz (w4.heap.size) (7) (by kernel_rfl) (by rfl) ?_
  apply miz_take (i := 0)
  · (simp only [List.getElem?_toArray, List.getElem?_cons_succ, List.getElem?_cons_zero] <;> rfl)
  · kernel_rfl
  · exact fun _ _ d _ _ h => by cases d <;> exact h
  · kernel_rfl
  · first | exact want_0 rfl | exact want_b rfl rfl rfl (by with_reducible rfl)
  · intro wq hwq R hR; ((have hcc := SX.lo hwq (by first | omega | (simp; omega) | (simp; done)); (try simp only [World.size_alloc, World.size_setCell, World.size_drew, World.heap_drewN] at hcc)); go_simp; first | exact hR | (fail))
  simp only [Act.put, List.setIfInBounds_toArray, List.set_cons_zero, List.set_cons_succ]
  apply miz_take (i := 1)
  · (simp only [List.getElem?_toArray, List.getElem?_cons_succ, List.getElem?_cons_zero] <;> rfl)
  · kernel_rfl
  · exact fun _ _ d _ _ h => by cases d <;> exact h
  · kernel_rfl
  · first | exact want_0 rfl | exact want_b rfl rfl rfl (by with_reducible rfl)
  · intro wq hwq R hR; ((have hcc := SX.lo hwq (by first | omega | (simp; omega) | (simp; done)); (try simp only [World.size_alloc, World.size_setCell, World.size_drew, World.heap_drewN] at hcc)); go_simp; first | exact hR | (fail))
  simp only [Act.put, List.setIfInBounds_toArray, List.set_cons_zero, List.set_cons_succ]
  apply miz_take (i := 3)
  · (simp only [List.getElem?_toArray, List.getElem?_cons_succ, List.getElem?_cons_zero] <;> rfl)
  · kernel_rfl
  · exact fun _ _ d _ _ h => by cases d <;> exact h
  · kernel_rfl
  · first | exact want_0 rfl | exact want_b rfl rfl rfl (by with_reducible rfl)
  · intro wq hwq R hR; ((have hcc := SX.lo hwq (by first | omega | (simp; omega) | (simp; done)); (try simp only [World.size_alloc, World.size_setCell, World.size_drew, World.heap_drewN] at hcc)); go_simp; first | exact hR | (fail))
  simp only [Act.put, List.setIfInBounds_toArray, List.set_cons_zero, List.set_cons_succ]
  refine miz_two (i := 2) (k := 4) (by kernel_rfl) (by (simp only [List.getElem?_toArray, List.getElem?_cons_succ, List.getElem?_cons_zero] <;> rfl)) (by (simp only [List.getElem?_toArray, List.getElem?_cons_succ, List.getElem?_cons_zero] <;> rfl)) (by exact want_0 rfl) (by exact want_0 rfl) (fun w5 hw5 K hK => ?_) (fun w5 hw5 K hK => ?_)
  · obtain ⟨hcw5, hfw5⟩ := bcell hw5
    have hzw5 := bsize hw5
    have hx5 := ext_trans hx4 hw5
    go_simp
    refine (hcl.out w5 (h.ext hx5)).mono ?_
    rintro e w6 ⟨v, rfl, hown6, hw6⟩
    have hz6 := bsize hw6
    refine hK _ _ (SX.of hw6) ?_
    clear hK K
    (try simp only [Act.put, List.setIfInBounds_toArray, List.set_cons_zero, List.set_cons_succ])
    refine miz_one (i := 4) (by kernel_rfl) (by (simp only [List.getElem?_toArray, List.getElem?_cons_succ, List.getElem?_cons_zero] <;> rfl)) (by first | exact want_0 rfl | exact want_b rfl rfl rfl (by with_reducible rfl)) (fun w7 hw7 K hK => ?_)
    obtain ⟨hcw7, hfw7⟩ := bcell hw7
    have hzw7 := bsize hw7
    (try simp only [World.size_alloc, World.size_setCell, World.size_drew, World.heap_drewN] at hcw7 hfw7 hzw7)
    go_simp
    refine hK _ _ (SX.of (ext_alloc _ _)) ?_
    clear hK K
    (try simp only [Act.put, List.setIfInBounds_toArray, List.set_cons_zero, List.set_cons_succ])
    obtain ⟨BS, hBS⟩ : ∃ BS, BS = w7.heap.size := ⟨_, rfl⟩
    have hbs : ∀ j u, (pcells p)[j]? = some u → (w7.alloc (.cells #[.int .i64 p.at_, .int .i64 p.len] 23)).cell? ((⟨BS, 0, none⟩ : Addr).add j) = some u := by rw [hBS]; exact cells_new _ _ _
    have HW : Ext w4 (w7.alloc (.cells #[.int .i64 p.at_, .int .i64 p.len] 23)) := ext_trans (ext_trans (ext_trans hw5 hw6) hw7) (ext_alloc _ _)
    rw [← hBS]
    replace hBS := Lib.hid hBS
    refine miz_one (i := 5) (by kernel_rfl) (by (simp only [List.getElem?_toArray, List.getElem?_cons_succ, List.getElem?_cons_zero] <;> rfl)) (by exact want_0 rfl) (fun w9 hw9 K hK => ?_)
    have hown9 := ownsRow_ext hw9 ((ownsRow_ext hw7 hown6).alloc _)
    have hz9 := bsize hw9
    have hle9 : w5.heap.size ≤ w9.heap.size := Nat.le_trans hw6.size (Nat.le_trans hw7.size (Nat.le_trans (ext_alloc _ _).size hw9.size))
    refine step_own (.tmp 35) (.tmp 37) 24 rfl w5.heap.size 23 i0 (.agg #[.int .i64 0, .int .i64 0]) 2 16 Try.underlying24 hi0 hz0 hz1 hz2 rfl (by decide) v us.length (us.flatMap pcells) rfl hown9 ⟨BS, 0, none⟩ 1 1 (pcells p) rfl rfl ?c1 ?c2 (by unfold maxLen; omega) (by omega) hle9 ?_
    case c1 => exact fun j u hu => keepAdd hw9 (hbs j u hu)
    case c2 => intro u hu; simp [pcells] at hu; rcases hu with rfl | rfl <;> rfl
    intro v' w10 hown10 hg10
    have hSX : SX w4.heap.size w9 w10 := SX.grown hg10 (fun r e => by have := (hown9.lt r e).1; omega)
    refine hK _ _ hSX ?_
    clear hK K
    obtain ⟨g, cap, rfl, hg1, hg2, hfl⟩ := claim_row (w := w) (W := w) (v := v) (l := us) (by omega) hown10
    apply miz_take (i := 6)
    · (simp only [List.getElem?_toArray, List.getElem?_cons_succ, List.getElem?_cons_zero] <;> rfl)
    · kernel_rfl
    · exact fun _ _ d _ _ h => by cases d <;> exact h
    · kernel_rfl
    · first | exact want_0 rfl | exact want_b rfl rfl rfl (by with_reducible rfl)
    · intro wq hwq R hR; ((have hcc := SX.lo hwq (by first | omega | (simp; omega) | (simp; done)); (try simp only [World.size_alloc, World.size_setCell, World.size_drew, World.heap_drewN] at hcc)); go_simp; first | exact hR | (fail))
    simp only [Act.put, List.setIfInBounds_toArray, List.set_cons_zero, List.set_cons_succ]
    refine miz_nil (by kernel_rfl) ?_
    intro w11 hw11
    obtain ⟨hcw11, hfw11⟩ := bcell hw11
    have hzw11 := bsize hw11
    (try simp only [World.size_alloc, World.size_setCell, World.size_drew, World.heap_drewN] at hcw11 hfw11 hzw11)
    have hS11 : SX w4.heap.size w4 w11 := ((SX.of HW).trans (SX.of hw9)).trans (hSX.trans (SX.of hw11))
    have hfl11 := hfl.of_block (hw11.block g hg2)
    have hg11 : g < w11.heap.size := by omega
    obtain ⟨L, hL⟩ : ∃ L, L = us ++ [p] := ⟨_, rfl⟩
    rw [← hL] at hfl11
    have hLu : L.length = us.length + 1 := by rw [hL]; simp
    have hLl : L.length ≤ 65536 := by rw [hL]; simp; omega
    have hso := sort_any L g cap w11 (by rw [hL]; exact hrr.out) hfl11 hg11 hLl
    rw [hLu] at hso
    have hcc11 := hS11.lo (Nat.le_refl _)
    have hff11 := hS11.fr (Nat.le_refl _)
    replace hso := Lib.hid hso
    replace hL := Lib.hid hL
    replace hLu := Lib.hid hLu
    clear hfl11 hbs hfl hown10 hg10 hown9 hcw11 hfw11 hown6 hcw5 hfw5 hle9 hz9 hLl
    (try clear hcw7 hfw7)
    (try clear hcw6 hfw6)
    go_wp2_with fail
    refine hso.out.mono ?_
    rintro e w12 ⟨rfl, L', hp, hs, hfl12, hg12⟩
    have hS12 : SX w4.heap.size w4 w12 := hS11.trans (SX.grown hg12 (fun r e => by cases e; omega))
    have hcc12 := hS12.lo (Nat.le_refl _)
    have hff12 := hS12.fr (Nat.le_refl _)
    have hLe : L' = insU p us := hfin.out L' (by rw [← hL.out]; exact hp) hs
    have hLn : Hid (us.length + 1 = (insU p us).length) := by rw [← hLe, hp.length_eq]; exact hLu.out.symm
    have hsz12 := hS12.size
    replace hp := Lib.hid hp
    replace hs := Lib.hid hs
    replace hLe := Lib.hid hLe
    clear hcc11 hff11
    go_wp2_with fail
    refine bodyPost_ret (v := .tuple #[.agg #[.int .i64 root.at_, .int .i64 root.len, .slice (some ⟨g, 0, none⟩) (us.length + 1) cap], .int .i64 0]) ?_ rfl (.inl ⟨rfl, some ⟨g, 0, none⟩, cap, by rw [hLn.out], ?_, ?_⟩)
    · simp [results, Try.results15, go_sem, hcw1, hcw2, hcw4, hcc12, l2w1, l2w2, l2w4]
    · rw [← hLe.out]
      refine Fl.sl (hfl12.of_block ?_) (by show w.heap.size ≤ g; omega)
      rw [block_setCell_ne _ (by show w.heap.size + 1 + 1 ≠ g; omega), block_setCell_ne _ (by show w.heap.size + 1 + 1 ≠ g; omega), block_setCell_ne _ (by show w.heap.size + 1 + 1 ≠ g; omega)]
    · refine Bel.bel (B := w.heap.size) ?_
      have hb4 : Bel w.heap.size w w4 := ⟨hx4, by omega⟩
      have hb12 : Bel w.heap.size w w12 := SX.bel hb4 hS12 (by omega)
      exact ((hb12.setCell0 (by omega) _).setCell0 (by omega) _).setCell0 (by omega) _
  · obtain ⟨hcw5, hfw5⟩ := bcell hw5
    have hzw5 := bsize hw5
    have hx5 := ext_trans hx4 hw5
    go_simp
    refine hK _ _ (SX.of (ext_alloc _ _)) ?_
    clear hK K
    (try simp only [Act.put, List.setIfInBounds_toArray, List.set_cons_zero, List.set_cons_succ])
    obtain ⟨BS, hBS⟩ : ∃ BS, BS = w5.heap.size := ⟨_, rfl⟩
    have hbs5 : ∀ j u, (pcells p)[j]? = some u → (w5.alloc (.cells #[.int .i64 p.at_, .int .i64 p.len] 23)).cell? ((⟨BS, 0, none⟩ : Addr).add j) = some u := by rw [hBS]; exact cells_new _ _ _
    rw [← hBS]
    replace hBS := Lib.hid hBS
    refine miz_one (i := 2) (by kernel_rfl) (by (simp only [List.getElem?_toArray, List.getElem?_cons_succ, List.getElem?_cons_zero] <;> rfl)) (by first | exact want_0 rfl | exact want_b rfl rfl rfl (by with_reducible rfl)) (fun w6 hw6 K hK => ?_)
    obtain ⟨hcw6, hfw6⟩ := bcell hw6
    have hzw6 := bsize hw6
    (try simp only [World.size_alloc, World.size_setCell, World.size_drew, World.heap_drewN] at hcw6 hfw6 hzw6)
    go_simp
    have hx6 := ext_trans hx5 (ext_trans (ext_alloc _ _) hw6)
    refine (hcl.out w6 (h.ext hx6)).mono ?_
    rintro e w7 ⟨v, rfl, hown6, hw7⟩
    have hz7 := bsize hw7
    refine hK _ _ (SX.of hw7) ?_
    clear hK K
    (try simp only [Act.put, List.setIfInBounds_toArray, List.set_cons_zero, List.set_cons_succ])
    have hbs : ∀ j u, (pcells p)[j]? = some u → w7.cell? ((⟨BS, 0, none⟩ : Addr).add j) = some u := fun j u hu => keepAdd (ext_trans hw6 hw7) (hbs5 j u hu)
    have HW : Ext w4 w7 := ext_trans (ext_trans hw5 (ext_alloc _ _)) (ext_trans hw6 hw7)
    refine miz_one (i := 5) (by kernel_rfl) (by (simp only [List.getElem?_toArray, List.getElem?_cons_succ, List.getElem?_cons_zero] <;> rfl)) (by exact want_0 rfl) (fun w9 hw9 K hK => ?_)
    have hown9 := ownsRow_ext hw9 hown6
    have hz9 := bsize hw9
    have hle9 : w6.heap.size ≤ w9.heap.size := Nat.le_trans hw7.size hw9.size
    refine step_own (.tmp 35) (.tmp 37) 24 rfl w6.heap.size 23 i0 (.agg #[.int .i64 0, .int .i64 0]) 2 16 Try.underlying24 hi0 hz0 hz1 hz2 rfl (by decide) v us.length (us.flatMap pcells) rfl hown9 ⟨BS, 0, none⟩ 1 1 (pcells p) rfl rfl ?c1 ?c2 (by unfold maxLen; omega) (by omega) hle9 ?_
    case c1 => exact fun j u hu => keepAdd hw9 (hbs j u hu)
    case c2 => intro u hu; simp [pcells] at hu; rcases hu with rfl | rfl <;> rfl
    intro v' w10 hown10 hg10
    have hSX : SX w4.heap.size w9 w10 := SX.grown hg10 (fun r e => by have := (hown9.lt r e).1; omega)
    refine hK _ _ hSX ?_
    clear hK K
    obtain ⟨g, cap, rfl, hg1, hg2, hfl⟩ := claim_row (w := w) (W := w) (v := v) (l := us) (by omega) hown10
    apply miz_take (i := 6)
    · (simp only [List.getElem?_toArray, List.getElem?_cons_succ, List.getElem?_cons_zero] <;> rfl)
    · kernel_rfl
    · exact fun _ _ d _ _ h => by cases d <;> exact h
    · kernel_rfl
    · first | exact want_0 rfl | exact want_b rfl rfl rfl (by with_reducible rfl)
    · intro wq hwq R hR; ((have hcc := SX.lo hwq (by first | omega | (simp; omega) | (simp; done)); (try simp only [World.size_alloc, World.size_setCell, World.size_drew, World.heap_drewN] at hcc)); go_simp; first | exact hR | (fail))
    simp only [Act.put, List.setIfInBounds_toArray, List.set_cons_zero, List.set_cons_succ]
    refine miz_nil (by kernel_rfl) ?_
    intro w11 hw11
    obtain ⟨hcw11, hfw11⟩ := bcell hw11
    have hzw11 := bsize hw11
    (try simp only [World.size_alloc, World.size_setCell, World.size_drew, World.heap_drewN] at hcw11 hfw11 hzw11)
    have hS11 : SX w4.heap.size w4 w11 := ((SX.of HW).trans (SX.of hw9)).trans (hSX.trans (SX.of hw11))
    have hfl11 := hfl.of_block (hw11.block g hg2)
    have hg11 : g < w11.heap.size := by omega
    obtain ⟨L, hL⟩ : ∃ L, L = us ++ [p] := ⟨_, rfl⟩
    rw [← hL] at hfl11
    have hLu : L.length = us.length + 1 := by rw [hL]; simp
    have hLl : L.length ≤ 65536 := by rw [hL]; simp; omega
    have hso := sort_any L g cap w11 (by rw [hL]; exact hrr.out) hfl11 hg11 hLl
    rw [hLu] at hso
    have hcc11 := hS11.lo (Nat.le_refl _)
    have hff11 := hS11.fr (Nat.le_refl _)
    replace hso := Lib.hid hso
    replace hL := Lib.hid hL
    replace hLu := Lib.hid hLu
    clear hfl11 hbs hfl hown10 hg10 hown9 hcw11 hfw11 hown6 hcw5 hfw5 hle9 hz9 hLl
    (try clear hcw7 hfw7)
    (try clear hcw6 hfw6)
    go_wp2_with fail
    refine hso.out.mono ?_
    rintro e w12 ⟨rfl, L', hp, hs, hfl12, hg12⟩
    have hS12 : SX w4.heap.size w4 w12 := hS11.trans (SX.grown hg12 (fun r e => by cases e; omega))
    have hcc12 := hS12.lo (Nat.le_refl _)
    have hff12 := hS12.fr (Nat.le_refl _)
    have hLe : L' = insU p us := hfin.out L' (by rw [← hL.out]; exact hp) hs
    have hLn : Hid (us.length + 1 = (insU p us).length) := by rw [← hLe, hp.length_eq]; exact hLu.out.symm
    have hsz12 := hS12.size
    replace hp := Lib.hid hp
    replace hs := Lib.hid hs
    replace hLe := Lib.hid hLe
    clear hcc11 hff11
    go_wp2_with fail
    refine bodyPost_ret (v := .tuple #[.agg #[.int .i64 root.at_, .int .i64 root.len, .slice (some ⟨g, 0, none⟩) (us.length + 1) cap], .int .i64 0]) ?_ rfl (.inl ⟨rfl, some ⟨g, 0, none⟩, cap, by rw [hLn.out], ?_, ?_⟩)
    · simp [results, Try.results15, go_sem, hcw1, hcw2, hcw4, hcc12, l2w1, l2w2, l2w4]
    · rw [← hLe.out]
      refine Fl.sl (hfl12.of_block ?_) (by show w.heap.size ≤ g; omega)
      rw [block_setCell_ne _ (by show w.heap.size + 1 + 1 ≠ g; omega), block_setCell_ne _ (by show w.heap.size + 1 + 1 ≠ g; omega), block_setCell_ne _ (by show w.heap.size + 1 + 1 ≠ g; omega)]
    · refine Bel.bel (B := w.heap.size) ?_
      have hb4 : Bel w.heap.size w w4 := ⟨hx4, by omega⟩
      have hb12 : Bel w.heap.size w w12 := SX.bel hb4 hS12 (by omega)
      exact ((hb12.setCell0 (by omega) _).setCell0 (by omega) _).setCell0 (by omega) _
end Go.Proofs.Ytflbpkgnadjokaa
