/- NetPeace: its statement, for every input, out of its walk. (texts of this work, joined) -/
import Derived.Test.YtgmbhaclogabeaaGreatZHNetPeace4
import Derived.SizedLaws
import Derived.Test.YtgmbhaclogabeaaGreatRows
import Derived.WalkKit
import Derived.ProofKit
import Derived.OpenShut
import Derived.ShutString
import Derived.ChangeOld
import Derived.Below
set_option linter.unusedSimpArgs false
set_option linter.unusedVariables false
namespace Go.Proofs.YtgmbhaclogabeaaGreat
open Go Go.RowKit
def nb1 : Net := ⟨[⟨3, [], []⟩], []⟩
def nb2 : Net := ⟨[⟨1, [], []⟩, ⟨3, [], []⟩], []⟩
def nb3 : Net := ⟨[⟨1, [], []⟩, ⟨3, [⟨⟨256, 10⟩, 7⟩], []⟩], []⟩
def nb4 : Net := ⟨[⟨1, [], []⟩, ⟨3, [⟨⟨256, 10⟩, 7⟩], []⟩], [⟨1, 3⟩]⟩
set_option maxRecDepth 100000 in
theorem nb_1 : makeN Net.zero 3 = (nb1, 0) := by kernel_rfl
set_option maxRecDepth 100000 in
theorem nb_2 : makeN nb1 1 = (nb2, 0) := by kernel_rfl
set_option maxRecDepth 100000 in
theorem nb_3 : growN nb2 3 ⟨⟨256, 10⟩, 7⟩ = (nb3, 0) := by kernel_rfl
set_option maxRecDepth 100000 in
theorem nb_4 : joinN nb3 3 1 = (nb4, 0) := by kernel_rfl
set_option maxRecDepth 100000 in
theorem nb_5 : groupN nb4 1 = ([1, 3], 0) := by kernel_rfl
set_option maxRecDepth 100000 in
theorem nb_6 : growN nb4 1 ⟨⟨256, 16⟩, 7⟩ = (Net.zero, 9) := by kernel_rfl
set_option maxRecDepth 100000 in
theorem nb_7 : partN nb4 1 3 = (nb3, 0) := by kernel_rfl
set_option maxRecDepth 100000 in
set_option maxHeartbeats 1000000 in
theorem netBegun_p : PSpec Tryz.prog 14 [] (.v (.bool true)) := by
  have h1 := nmake_p Net.zero 3
  have h2 := nmake_p nb1 1
  have h3 := ngrow_p nb2 3 ⟨⟨256, 10⟩, 7⟩
  have h4 := njoin_p nb3 3 1
  have h5 := ngroup_p nb4 1
  have h6 := ngrow_p nb4 1 ⟨⟨256, 16⟩, 7⟩
  have h7 := npart_p nb4 1 3
  have h8 := sameInts_p [1, 3] [1, 3] (by simp) (by simp)
  rw [nb_1] at h1
  rw [nb_2] at h2
  rw [nb_3] at h3
  rw [nb_4] at h4
  rw [nb_5] at h5
  rw [nb_6] at h6
  rw [nb_7] at h7
  rw [decide_eq_true rfl] at h8
  simp only [encT, encV, encG, encN, encF, encA, encP, encK, nb1, nb2, nb3, nb4, Net.zero, List.map_nil, List.map_cons] at h1 h2 h3 h4 h5 h6 h7 h8
  have h1 := h1.args (ds := [.agg [.v (.slice none 0 0), .v (.slice none 0 0)], .v (.int .i64 3)]) ⟨(by repeat (first | exact DLe.refl _ | exact DLe.nil _ | (refine DLe.tup ?_) | (refine DLe.agg ?_ rfl) | exact trivial | (refine And.intro ?_ ?_))), DLe.refl _, trivial⟩
  refine ps_i tab_ok mixed Tryz.func14 rfl Tryz.ntmps14 Tryz.results14 (by kernel_rfl) ?_
  repeat' (first | (with_reducible refine And.intro ?_ ?_) | (with_reducible refine gK_i (fun _ => ?_) (fun _ => ?_)) | (with_reducible refine condS_i (fun _ => ?_) (fun _ => ?_)) | (with_reducible refine drw_i (by kernel_rfl)) | simp -dsimp only [go_sem, seval, *, undef] | ((with_reducible refine opK_c ?_); simp -dsimp only [go_sem, seval, undef]; first | refine callK_r (by first | assumption | exact h1 | exact h2 | exact h3 | exact h4 | exact h5 | exact h6 | exact h7 | exact h8) (by first | exact .inl rfl | exact .inr rfl) ?_ | (refine callK_i (by assumption) ?_ ?_ ?_; (solve | (repeat (first | exact DLe.refl _ | exact DLe.nil _ | (refine DLe.tup ?_) | (refine DLe.agg ?_ rfl) | exact trivial | (refine And.intro ?_ ?_)))); (solve | exact .inl rfl | exact .inr rfl))) | fail | omega | exact decide_eq_true (by omega) | exact DLe.refl _)
theorem smallVp_ok {v : Vpc} (h : VpcOK v) : SmallVp v := ⟨by have := h.n4; omega, by have := h.n6; omega, fun s hs => ⟨by have := (h.n8 s hs).1; omega, fun f hf => by have := (h.n8 s hs).2 f hf; omega⟩⟩
theorem smallN_ok {n : Net} (h : NetOK n) : SmallN n := ⟨by have := h.n6; omega, by have := h.n12; omega, fun v hv => smallVp_ok (vpcOK_of (h.vp v hv))⟩
end Go.Proofs.YtgmbhaclogabeaaGreat
namespace Go.Proofs.YtgmbhaclogabeaaGreat
open Go Go.RowKit
theorem any_snoc2 {l : List Int} {k : Nat} {x b : Int} (h : l[k]? = some x) : ((l.take (k + 1)).any fun y => y == b) = (((l.take k).any fun y => y == b) || (x == b)) := by rw [take_snoc h, List.any_append]; simp
theorem grp_has {n : Net} (hr : n.vpcs.Pairwise fun a b => a.id < b.id) {a b : Int} {j : Nat} (hb : vpcIx n b = some j) : ((grpN n a).any fun y => y == b) = (headN n b == headN n a) := by
  obtain ⟨w, hw, he, -, -⟩ := vpcIx_some hb
  rw [Bool.eq_iff_iff, beq_iff_eq, List.any_eq_true]
  constructor
  · rintro ⟨y, hy, h⟩
    rw [beq_iff_eq] at h
    subst h
    obtain ⟨k, hk⟩ := List.mem_iff_getElem?.1 hy
    obtain ⟨-, -, -, -, -, h⟩ := grp_at hr hk
    exact h
  · intro h
    exact ⟨b, by rw [← he]; exact grp_mem (List.mem_of_getElem? hw) (by rw [he]; exact h), by simp⟩
theorem grp_same {n : Net} {a b : Int} (h : headN n a = headN n b) : grpN n a = grpN n b := by unfold grpN; rw [h]
/-- A net that was joined. -/
theorem join_ok {n : Net} {a b : Int} (hok : NetOK n) (h : joinErr n a b = 0) : NetOK { n with links := insK lkey (lnk a b) n.links } ∧ lnk a b ∉ n.links ∧ (findN n a).isSome = true ∧ (findN n b).isSome = true ∧ a ≠ b := by
  have h0 := h
  unfold joinErr at h
  by_cases hab : a = b
  · rw [if_pos hab] at h; cases h
  rw [if_neg hab] at h
  by_cases hf : findN n a = none ∨ findN n b = none
  · rw [if_pos hf] at h; cases h
  rw [if_neg hf] at h
  by_cases hin : lnk a b ∈ n.links
  · rw [if_pos hin] at h; cases h
  rw [if_neg hin] at h
  cases hp : peaceN { n with links := insK lkey (lnk a b) n.links } with
  | false => rw [if_pos hp] at h; cases h
  | true =>
  rw [if_neg (by simp [hp])] at h
  by_cases h12 : n.links.length + 1 > 12
  · rw [if_pos h12] at h; cases h
  have hfa : (findN n a).isSome = true := by rw [Option.isSome_iff_ne_none]; exact fun e => hf (.inl e)
  have hfb : (findN n b).isSome = true := by rw [Option.isSome_iff_ne_none]; exact fun e => hf (.inr e)
  have hlk : lnkB n (lnk a b) = true := by
    unfold lnkB
    rcases lnk_cases a b with ⟨e, h⟩ | ⟨e, h⟩
    · rw [e]; simp only [hfa, hfb, Bool.true_and, decide_eq_true_eq]; omega
    · rw [e]; simp only [hfa, hfb, Bool.true_and, decide_eq_true_eq]; omega
  have hlb : ∀ l ∈ n.links, 1 ≤ l.b ∧ l.b ≤ 65536 := fun l hl => hok.bd (hok.ids l hl).2
  have hlkb : 1 ≤ (lnk a b).b ∧ (lnk a b).b ≤ 65536 := by
    unfold lnkB at hlk
    simp only [Bool.and_eq_true] at hlk
    exact hok.bd (find_ids hlk.2.1)
  have hso := insK_sorted (key := lkey) hok.lsort (x := lnk a b) fun y hy e => hin (by rw [← lkey_inj (hlb y hy) hlkb e]; exact hy)
  refine ⟨⟨hok.n6, by show (insK _ _ n.links).length ≤ 12; rw [insK_len]; omega, hok.vp, hok.rise, fun l hl => ?_, ?_, hp⟩, hin, hfa, hfb, hab⟩
  · rcases insK_mem.1 hl with rfl | hl
    · exact hlk
    · exact hok.lk l hl
  · show risK (insK lkey (lnk a b) n.links) = true
    have hb2 : ∀ l ∈ insK lkey (lnk a b) n.links, 1 ≤ l.b ∧ l.b ≤ 65536 := fun l hl => by
      rcases insK_mem.1 hl with rfl | hl
      · exact hlkb
      · exact hlb l hl
    rw [risK_at]
    intro j hj
    have := List.pairwise_iff_getElem.1 hso j (j + 1) (by omega) hj (by omega)
    rw [ordK_key (hb2 _ (List.getElem_mem _)) (hb2 _ (List.getElem_mem _))]
    unfold cmpI
    rw [if_pos this]
    decide
theorem part_back {n : Net} {a b : Int} (hok : NetOK n) (hok2 : NetOK { n with links := insK lkey (lnk a b) n.links }) (hin : lnk a b ∉ n.links) : partN { n with links := insK lkey (lnk a b) n.links } b a = (n, 0) := by
  unfold partN
  rw [if_neg (by simpa using netOK.2 hok2), lnk_comm b a]
  simp only
  have hmem : lnk a b ∈ insK lkey (lnk a b) n.links := insK_mem.2 (.inl rfl)
  cases hf : (insK lkey (lnk a b) n.links).findIdx? (fun l => decide (lnk a b = l)) with
  | none =>
    have := List.findIdx?_eq_none_iff.1 hf _ hmem
    simp at this
  | some i =>
    simp only
    have h1 := erase_filter (links_nodup hok2) hf
    simp only at h1
    rw [← h1]
    have : (insK lkey (lnk a b) n.links).filter (fun y => !decide (y = lnk a b)) = n.links := by
      unfold insK
      rw [List.filter_append, List.filter_cons]
      simp only [decide_true, Bool.not_true, Bool.false_eq_true, if_false]
      rw [List.filter_eq_self.2 (fun y hy => by simpa using fun e => hin (by rw [← e]; exact List.mem_of_mem_take hy)), List.filter_eq_self.2 (fun y hy => by simpa using fun e => hin (by rw [← e]; exact List.mem_of_mem_drop hy)), List.take_append_drop]
    rw [this]
set_option maxRecDepth 100000 in
set_option maxHeartbeats 2000000 in
theorem netPeace_p (n : Net) (a b : Int) (hz : NetZ n) : PSpec Tryz.prog 5 [.agg (encT n), .v (.int .i64 a), .v (.int .i64 b)] (.v (.bool true)) := by
  have h1 := ngroup_p n a
  have h2 := ngroup_p n b
  have h3 := netBegun_p
  clear hz
  by_cases hc : chkT n = 0
  · have hok := netOK.1 hc
    have hg : ∀ x, groupN n x = if findN n x = none then ([], 5) else (grpN n x, 0) := fun x => by unfold groupN; rw [if_neg (by simpa using hc)]
    rw [hg] at h1 h2
    cases hxa : vpcIx n a with
    | none =>
      rw [if_pos (vpcIx_none hxa)] at h1
      generalize (if findN n b = none then (([] : List Int), (5 : Int)) else (grpN n b, 0)) = X at *
      clear hok hc hg hxa
      refine ps_i tab_ok mixed Tryz.func5 rfl Tryz.ntmps5 Tryz.results5 (by kernel_rfl) ?_
      repeat' (first | (with_reducible refine And.intro ?_ ?_) | (with_reducible refine gK_i (fun _ => ?_) (fun _ => ?_)) | (with_reducible refine condS_i (fun _ => ?_) (fun _ => ?_)) | (with_reducible refine drw_i (by kernel_rfl)) | simp -dsimp only [go_sem, seval, *, encT, undef] | ((with_reducible refine opK_c ?_); simp -dsimp only [go_sem, seval, encT, undef]; first | refine callK_r (by first | assumption | exact h1 | exact h2 | exact h3) (by first | exact .inl rfl | exact .inr rfl) ?_ | (refine callK_i (by assumption) ?_ ?_ ?_; (solve | (repeat (first | exact DLe.refl _ | exact DLe.nil _ | (refine DLe.tup ?_) | (refine DLe.agg ?_ rfl) | exact trivial | (refine And.intro ?_ ?_)))); (solve | exact .inl rfl | exact .inr rfl))) | fail | omega | exact decide_eq_true (by omega) | exact DLe.refl _)
    | some ia =>
    obtain ⟨va, hva, hea, hia, hfsa⟩ := vpcIx_some hxa
    rw [if_neg (by rw [hfsa]; simp)] at h1
    cases hxb : vpcIx n b with
    | none =>
      rw [if_pos (vpcIx_none hxb)] at h2
      clear hok hc hg hxa hxb hva hea hfsa
      generalize grpN n a = G at *
      refine ps_i tab_ok mixed Tryz.func5 rfl Tryz.ntmps5 Tryz.results5 (by kernel_rfl) ?_
      repeat' (first | (with_reducible refine And.intro ?_ ?_) | (with_reducible refine gK_i (fun _ => ?_) (fun _ => ?_)) | (with_reducible refine condS_i (fun _ => ?_) (fun _ => ?_)) | (with_reducible refine drw_i (by kernel_rfl)) | simp -dsimp only [go_sem, seval, *, encT, undef] | ((with_reducible refine opK_c ?_); simp -dsimp only [go_sem, seval, encT, undef]; first | refine callK_r (by first | assumption | exact h1 | exact h2 | exact h3) (by first | exact .inl rfl | exact .inr rfl) ?_ | (refine callK_i (by assumption) ?_ ?_ ?_; (solve | (repeat (first | exact DLe.refl _ | exact DLe.nil _ | (refine DLe.tup ?_) | (refine DLe.agg ?_ rfl) | exact trivial | (refine And.intro ?_ ?_)))); (solve | exact .inl rfl | exact .inr rfl))) | fail | omega | exact decide_eq_true (by omega) | exact DLe.refl _)
    | some ib =>
    obtain ⟨vb, hvb, heb, hib, hfsb⟩ := vpcIx_some hxb
    rw [if_neg (by rw [hfsb]; simp)] at h2
    have hga := grp_has (a := a) hok.rise hxb
    have hgb := grp_has (a := b) hok.rise hxa
    have hcm : (headN n b == headN n a) = (headN n a == headN n b) := by rw [Bool.eq_iff_iff, beq_iff_eq, beq_iff_eq]; exact eq_comm
    rw [hcm] at hga
    have hgs : (headN n a == headN n b) = true → grpN n a = grpN n b := fun h => grp_same (by simpa using h)
    have hs := sameInts_p (grpN n a) (grpN n b) (by have := grp_len n a; have := hok.n6; omega) (by have := grp_len n b; have := hok.n6; omega)
    have hgl1 : (grpN n a).length ≤ 6 := by have := grp_len n a; have := hok.n6; omega
    have hgl2 : (grpN n b).length ≤ 6 := by have := grp_len n b; have := hok.n6; omega
    have h4 := njoin_p n a b
    have hj : joinN n a b = if joinErr n a b ≠ 0 then (Net.zero, joinErr n a b) else ({ n with links := insK lkey (lnk a b) n.links }, 0) := by unfold joinN; rw [if_neg (by simpa using hc)]
    have hjo : joinErr n a b = 0 → NetOK { n with links := insK lkey (lnk a b) n.links } ∧ lnk a b ∉ n.links := fun h => ⟨(join_ok hok h).1, (join_ok hok h).2.1⟩
    have hfx : (findN n a).isSome = true ∧ (findN n b).isSome = true := by rw [hfsa, hfsb]; exact ⟨rfl, rfl⟩
    have hhd := join_head (n := n) (l := lnk a b) (x := a) (y := b) (insK_perm lkey (lnk a b) n.links)
    rw [lnk_heads] at hhd
    have hsm := sameNets_p n (smallN_ok hok)
    obtain ⟨GA, hGA⟩ : ∃ GA, GA = grpN n a := ⟨_, rfl⟩
    obtain ⟨GB, hGB⟩ : ∃ GB, GB = grpN n b := ⟨_, rfl⟩
    obtain ⟨T, hT⟩ : ∃ T, T = (headN n a == headN n b) := ⟨_, rfl⟩
    rw [← hGA] at h1 hga hgs hs hgl1
    rw [← hGB] at h2 hgb hgs hs hgl2
    rw [← hT] at hga hgb hgs
    clear hg hc hcm hGA hGB hT hxa hxb hva hea hfsa hvb heb hfsb
    replace hok := Lib.hid hok
    replace hgs := Lib.hid hgs
    replace hj := Lib.hid hj
    replace hjo := Lib.hid hjo
    replace hfx := Lib.hid hfx
    replace hhd := Lib.hid hhd
    replace hga := Lib.hid hga
    replace hgb := Lib.hid hgb
    refine ps_i tab_ok mixed Tryz.func5 rfl Tryz.ntmps5 Tryz.results5 (by kernel_rfl) ?_
    repeat' (first | (with_reducible refine And.intro ?_ ?_) | (with_reducible refine gK_i (fun _ => ?_) (fun _ => ?_)) | (with_reducible refine condS_i (fun _ => ?_) (fun _ => ?_)) | (with_reducible refine drw_i (by kernel_rfl)) | simp -dsimp only [go_sem, seval, *, encT, undef] | ((with_reducible refine opK_c ?_); simp -dsimp only [go_sem, seval, encT, undef]; first | refine callK_r (by first | assumption | exact h1 | exact h2) (by first | exact .inl rfl | exact .inr rfl) ?_ | (refine callK_i (by assumption) ?_ ?_ ?_; (solve | (repeat (first | exact DLe.refl _ | exact DLe.nil _ | (refine DLe.tup ?_) | (refine DLe.agg ?_ rfl) | exact trivial | (refine And.intro ?_ ?_)))); (solve | exact .inl rfl | exact .inr rfl))) | fail | omega | exact decide_eq_true (by omega) | exact DLe.refl _)
    clear h1 h2
    refine loopL tab_ok mixed GA (fun _ => True) (fun k => [(13, .d (.v (.int .i64 k))), (11, .d (.v (.bool ((GA.take k).any fun y => y == b)))), (12, .d (.v (.bool false))), (9, .d (.sl 1 (GB.map encA))), (7, .d (.sl 1 (GA.map encA))), (6, .d (.v (.bool false))), (3, .ptr 0 0), (2, .d (.v (.int .i64 b))), (1, .d (.v (.int .i64 a)))]) (fun _ => [.box 25 ((encT n).map .d)]) trivial (weak_forget _ (by simp) (by (try simp only [encT]); rfl) (by (repeat' (first | exact trivial | (refine ⟨rfl, ?_⟩)))) (by first | rfl | simp only [belowH, belowE, belowC, belowL, belowR, belowP, belowL_d, belowR_d, List.length_cons, List.length_nil, Nat.reduceAdd, Nat.reduceLT, decide_true, Bool.and_self, Bool.and_true]) (by first | rfl | simp only [belowH, belowE, belowC, belowL, belowR, belowP, belowL_d, belowR_d, List.length_cons, List.length_nil, Nat.reduceAdd, Nat.reduceLT, decide_true, Bool.and_self, Bool.and_true])) ?_ ?_
    · intro k x hx hk _ C hC
      have hkI : (k : Int) < (GA.length : Int) := by omega
      have hwr : IntKind.i64.wrap ((k : Int) + 1) = ((k + 1 : Nat) : Int) := by rw [IntKind.wrap_i64]; omega
      have hst := any_snoc2 (b := b) hx
      generalize ((GA.take k).any fun y => y == b) = S at *
      replace hst := Lib.hid hst
      cases S with
      | true =>
        have hst2 := hst.out
        rw [Bool.true_or] at hst2
        replace hst2 := Lib.hid hst2
        repeat' (first | (with_reducible refine And.intro ?_ ?_) | (with_reducible refine gK_i (fun _ => ?_) (fun _ => ?_)) | (with_reducible refine condS_i (fun _ => ?_) (fun _ => ?_)) | (with_reducible refine drw_i (by kernel_rfl)) | simp -dsimp only [go_sem, seval, *, encT, encA, hkI, hwr, hx, undef] | ((with_reducible refine opK_c ?_); simp -dsimp only [go_sem, seval, encT, encA, hkI, hwr, hx, undef]; first | refine callK_r (by first | assumption | fail) (by first | exact .inl rfl | exact .inr rfl) ?_ | (refine callK_i (by assumption) ?_ ?_ ?_; (solve | (repeat (first | exact DLe.refl _ | exact DLe.nil _ | (refine DLe.tup ?_) | (refine DLe.agg ?_ rfl) | exact trivial | (refine And.intro ?_ ?_)))); (solve | exact .inl rfl | exact .inr rfl))) | fail | omega | exact decide_eq_true (by omega) | exact DLe.refl _)
        refine hC _ _ trivial ?_
        simp only [hst2.out]
        exact weak_forget _ (by simp) (by (try simp only [encT]); rfl) (by (repeat' (first | exact trivial | (refine ⟨rfl, ?_⟩)))) (by first | rfl | simp only [belowH, belowE, belowC, belowL, belowR, belowP, belowL_d, belowR_d, List.length_cons, List.length_nil, Nat.reduceAdd, Nat.reduceLT, decide_true, Bool.and_self, Bool.and_true]) (by first | rfl | simp only [belowH, belowE, belowC, belowL, belowR, belowP, belowL_d, belowR_d, List.length_cons, List.length_nil, Nat.reduceAdd, Nat.reduceLT, decide_true, Bool.and_self, Bool.and_true])
      | false =>
        have hst2 := hst.out
        rw [Bool.false_or] at hst2
        replace hst2 := Lib.hid hst2
        repeat' (first | (with_reducible refine And.intro ?_ ?_) | (with_reducible refine gK_i (fun _ => ?_) (fun _ => ?_)) | (with_reducible refine condS_i (fun _ => ?_) (fun _ => ?_)) | (with_reducible refine drw_i (by kernel_rfl)) | simp -dsimp only [go_sem, seval, *, encT, encA, hkI, hwr, hx, undef] | ((with_reducible refine opK_c ?_); simp -dsimp only [go_sem, seval, encT, encA, hkI, hwr, hx, undef]; first | refine callK_r (by first | assumption | fail) (by first | exact .inl rfl | exact .inr rfl) ?_ | (refine callK_i (by assumption) ?_ ?_ ?_; (solve | (repeat (first | exact DLe.refl _ | exact DLe.nil _ | (refine DLe.tup ?_) | (refine DLe.agg ?_ rfl) | exact trivial | (refine And.intro ?_ ?_)))); (solve | exact .inl rfl | exact .inr rfl))) | fail | omega | exact decide_eq_true (by omega) | exact DLe.refl _)
        refine hC _ _ trivial ?_
        simp only [hst2.out]
        exact weak_forget _ (by simp) (by (try simp only [encT]); rfl) (by (repeat' (first | exact trivial | (refine ⟨rfl, ?_⟩)))) (by first | rfl | simp only [belowH, belowE, belowC, belowL, belowR, belowP, belowL_d, belowR_d, List.length_cons, List.length_nil, Nat.reduceAdd, Nat.reduceLT, decide_true, Bool.and_self, Bool.and_true]) (by first | rfl | simp only [belowH, belowE, belowC, belowL, belowR, belowP, belowL_d, belowR_d, List.length_cons, List.length_nil, Nat.reduceAdd, Nat.reduceLT, decide_true, Bool.and_self, Bool.and_true])
    · intro _ C
      rw [List.take_length, hga.out]
      repeat' (first | (with_reducible refine And.intro ?_ ?_) | (with_reducible refine gK_i (fun _ => ?_) (fun _ => ?_)) | (with_reducible refine condS_i (fun _ => ?_) (fun _ => ?_)) | (with_reducible refine drw_i (by kernel_rfl)) | simp -dsimp only [go_sem, seval, *, encT, Int.lt_irrefl, undef] | ((with_reducible refine opK_c ?_); simp -dsimp only [go_sem, seval, encT, Int.lt_irrefl, undef]; first | refine callK_r (by first | assumption | fail) (by first | exact .inl rfl | exact .inr rfl) ?_ | (refine callK_i (by assumption) ?_ ?_ ?_; (solve | (repeat (first | exact DLe.refl _ | exact DLe.nil _ | (refine DLe.tup ?_) | (refine DLe.agg ?_ rfl) | exact trivial | (refine And.intro ?_ ?_)))); (solve | exact .inl rfl | exact .inr rfl))) | fail | omega | exact decide_eq_true (by omega) | exact DLe.refl _)
      refine loopL tab_ok mixed GB (fun _ => True) (fun k => [(14, .d (.v (.int .i64 k))), (12, .d (.v (.bool ((GB.take k).any fun y => y == a)))), (11, .d (.v (.bool T))), (9, .d (.sl 1 (GB.map encA))), (7, .d (.sl 1 (GA.map encA))), (6, .d (.v (.bool false))), (3, .ptr 0 0), (2, .d (.v (.int .i64 b))), (1, .d (.v (.int .i64 a)))]) (fun _ => [.box 25 ((encT n).map .d)]) trivial (weak_forget _ (by simp) (by (try simp only [encT]); rfl) (by (repeat' (first | exact trivial | (refine ⟨rfl, ?_⟩)))) (by first | rfl | simp only [belowH, belowE, belowC, belowL, belowR, belowP, belowL_d, belowR_d, List.length_cons, List.length_nil, Nat.reduceAdd, Nat.reduceLT, decide_true, Bool.and_self, Bool.and_true]) (by first | rfl | simp only [belowH, belowE, belowC, belowL, belowR, belowP, belowL_d, belowR_d, List.length_cons, List.length_nil, Nat.reduceAdd, Nat.reduceLT, decide_true, Bool.and_self, Bool.and_true])) ?_ ?_
      · intro k x hx hk _ C hC
        have hkI : (k : Int) < (GB.length : Int) := by omega
        have hwr : IntKind.i64.wrap ((k : Int) + 1) = ((k + 1 : Nat) : Int) := by rw [IntKind.wrap_i64]; omega
        have hst := any_snoc2 (b := a) hx
        generalize ((GB.take k).any fun y => y == a) = S at *
        replace hst := Lib.hid hst
        cases S with
        | true =>
          have hst2 := hst.out
          rw [Bool.true_or] at hst2
          replace hst2 := Lib.hid hst2
          repeat' (first | (with_reducible refine And.intro ?_ ?_) | (with_reducible refine gK_i (fun _ => ?_) (fun _ => ?_)) | (with_reducible refine condS_i (fun _ => ?_) (fun _ => ?_)) | (with_reducible refine drw_i (by kernel_rfl)) | simp -dsimp only [go_sem, seval, *, encT, encA, hkI, hwr, hx, undef] | ((with_reducible refine opK_c ?_); simp -dsimp only [go_sem, seval, encT, encA, hkI, hwr, hx, undef]; first | refine callK_r (by first | assumption | fail) (by first | exact .inl rfl | exact .inr rfl) ?_ | (refine callK_i (by assumption) ?_ ?_ ?_; (solve | (repeat (first | exact DLe.refl _ | exact DLe.nil _ | (refine DLe.tup ?_) | (refine DLe.agg ?_ rfl) | exact trivial | (refine And.intro ?_ ?_)))); (solve | exact .inl rfl | exact .inr rfl))) | fail | omega | exact decide_eq_true (by omega) | exact DLe.refl _)
          refine hC _ _ trivial ?_
          simp only [hst2.out]
          exact weak_forget _ (by simp) (by (try simp only [encT]); rfl) (by (repeat' (first | exact trivial | (refine ⟨rfl, ?_⟩)))) (by first | rfl | simp only [belowH, belowE, belowC, belowL, belowR, belowP, belowL_d, belowR_d, List.length_cons, List.length_nil, Nat.reduceAdd, Nat.reduceLT, decide_true, Bool.and_self, Bool.and_true]) (by first | rfl | simp only [belowH, belowE, belowC, belowL, belowR, belowP, belowL_d, belowR_d, List.length_cons, List.length_nil, Nat.reduceAdd, Nat.reduceLT, decide_true, Bool.and_self, Bool.and_true])
        | false =>
          have hst2 := hst.out
          rw [Bool.false_or] at hst2
          replace hst2 := Lib.hid hst2
          repeat' (first | (with_reducible refine And.intro ?_ ?_) | (with_reducible refine gK_i (fun _ => ?_) (fun _ => ?_)) | (with_reducible refine condS_i (fun _ => ?_) (fun _ => ?_)) | (with_reducible refine drw_i (by kernel_rfl)) | simp -dsimp only [go_sem, seval, *, encT, encA, hkI, hwr, hx, undef] | ((with_reducible refine opK_c ?_); simp -dsimp only [go_sem, seval, encT, encA, hkI, hwr, hx, undef]; first | refine callK_r (by first | assumption | fail) (by first | exact .inl rfl | exact .inr rfl) ?_ | (refine callK_i (by assumption) ?_ ?_ ?_; (solve | (repeat (first | exact DLe.refl _ | exact DLe.nil _ | (refine DLe.tup ?_) | (refine DLe.agg ?_ rfl) | exact trivial | (refine And.intro ?_ ?_)))); (solve | exact .inl rfl | exact .inr rfl))) | fail | omega | exact decide_eq_true (by omega) | exact DLe.refl _)
          refine hC _ _ trivial ?_
          simp only [hst2.out]
          exact weak_forget _ (by simp) (by (try simp only [encT]); rfl) (by (repeat' (first | exact trivial | (refine ⟨rfl, ?_⟩)))) (by first | rfl | simp only [belowH, belowE, belowC, belowL, belowR, belowP, belowL_d, belowR_d, List.length_cons, List.length_nil, Nat.reduceAdd, Nat.reduceLT, decide_true, Bool.and_self, Bool.and_true]) (by first | rfl | simp only [belowH, belowE, belowC, belowL, belowR, belowP, belowL_d, belowR_d, List.length_cons, List.length_nil, Nat.reduceAdd, Nat.reduceLT, decide_true, Bool.and_self, Bool.and_true])
      · intro _ C
        rw [List.take_length, hgb.out]
        by_cases hje : joinErr n a b = 0
        · obtain ⟨hok2, hin⟩ := hjo.out hje
          have hjv := hj.out
          rw [if_neg (by simpa using hje)] at hjv
          have hpb := part_back hok.out hok2 hin
          rw [hjv] at h4
          have h5 := ngroup_p { n with links := insK lkey (lnk a b) n.links } a
          have h6 := ngroup_p { n with links := insK lkey (lnk a b) n.links } b
          have h7 := npart_p { n with links := insK lkey (lnk a b) n.links } b a
          have h8 := ncheck_p { n with links := insK lkey (lnk a b) n.links }
          have hck2 := netOK.2 hok2
          have hgg : ∀ x, (findN n x).isSome = true → groupN { n with links := insK lkey (lnk a b) n.links } x = (grpN { n with links := insK lkey (lnk a b) n.links } x, 0) := fun x hx => by
            unfold groupN
            rw [if_neg (by simpa using hck2), if_neg (fun e => by have e2 : findN n x = none := e; rw [e2] at hx; cases hx)]
          rw [hgg a hfx.out.1] at h5
          rw [hgg b hfx.out.2] at h6
          rw [hpb] at h7
          rw [hck2] at h8
          have hge : grpN { n with links := insK lkey (lnk a b) n.links } a = grpN { n with links := insK lkey (lnk a b) n.links } b := grp_same (hhd.out.2 (.inr (.inl ⟨rfl, rfl⟩)))
          rw [← hge] at h6
          have hgl := grp_len { n with links := insK lkey (lnk a b) n.links } a
          have h9 := sameInts_p (grpN { n with links := insK lkey (lnk a b) n.links } a) (grpN { n with links := insK lkey (lnk a b) n.links } a) (by have := hok2.n6; omega) (by have := hok2.n6; omega)
          rw [decide_eq_true rfl] at h9
          clear hgg hge hgl hck2 hpb hjv hok2 hin hje
          generalize grpN { n with links := insK lkey (lnk a b) n.links } a = GC at *
          generalize insK lkey (lnk a b) n.links = LS at *
          cases T with
          | true =>
            rw [decide_eq_true (hgs.out rfl)] at hs
            repeat' (first | (with_reducible refine And.intro ?_ ?_) | (with_reducible refine gK_i (fun _ => ?_) (fun _ => ?_)) | (with_reducible refine condS_i (fun _ => ?_) (fun _ => ?_)) | (with_reducible refine drw_i (by kernel_rfl)) | simp -dsimp only [go_sem, seval, *, encT, Int.lt_irrefl, bne_self_eq_false, beq_self_eq_true, undef] | ((with_reducible refine opK_c ?_); simp -dsimp only [go_sem, seval, encT, Int.lt_irrefl, bne_self_eq_false, beq_self_eq_true, undef]; first | refine callK_r (by first | assumption | exact hs | exact h4 | exact h5 | exact h6 | exact h7 | exact h8 | exact h9 | exact hsm | exact h3) (by first | exact .inl rfl | exact .inr rfl) ?_ | (refine callK_i (by assumption) ?_ ?_ ?_; (solve | (repeat (first | exact DLe.refl _ | exact DLe.nil _ | (refine DLe.tup ?_) | (refine DLe.agg ?_ rfl) | exact trivial | (refine And.intro ?_ ?_)))); (solve | exact .inl rfl | exact .inr rfl))) | fail | omega | exact decide_eq_true (by omega) | exact DLe.refl _)
          | false =>
            repeat' (first | (with_reducible refine And.intro ?_ ?_) | (with_reducible refine gK_i (fun _ => ?_) (fun _ => ?_)) | (with_reducible refine condS_i (fun _ => ?_) (fun _ => ?_)) | (with_reducible refine drw_i (by kernel_rfl)) | simp -dsimp only [go_sem, seval, *, encT, Int.lt_irrefl, bne_self_eq_false, beq_self_eq_true, undef] | ((with_reducible refine opK_c ?_); simp -dsimp only [go_sem, seval, encT, Int.lt_irrefl, bne_self_eq_false, beq_self_eq_true, undef]; first | refine callK_r (by first | assumption | exact h4 | exact h5 | exact h6 | exact h7 | exact h8 | exact h9 | exact hsm | exact h3) (by first | exact .inl rfl | exact .inr rfl) ?_ | (refine callK_i (by assumption) ?_ ?_ ?_; (solve | (repeat (first | exact DLe.refl _ | exact DLe.nil _ | (refine DLe.tup ?_) | (refine DLe.agg ?_ rfl) | exact trivial | (refine And.intro ?_ ?_)))); (solve | exact .inl rfl | exact .inr rfl))) | fail | omega | exact decide_eq_true (by omega) | exact DLe.refl _)
        · have hjv := hj.out
          rw [if_pos hje] at hjv
          rw [hjv] at h4
          have hjb : (joinErr n a b != 0) = true := by simpa using hje
          clear hje hjv
          generalize joinErr n a b = E at *
          cases T with
          | true =>
            rw [decide_eq_true (hgs.out rfl)] at hs
            repeat' (first | (with_reducible refine And.intro ?_ ?_) | (with_reducible refine gK_i (fun _ => ?_) (fun _ => ?_)) | (with_reducible refine condS_i (fun _ => ?_) (fun _ => ?_)) | (with_reducible refine drw_i (by kernel_rfl)) | simp -dsimp only [go_sem, seval, *, encT, Int.lt_irrefl, bne_self_eq_false, hjb, undef] | ((with_reducible refine opK_c ?_); simp -dsimp only [go_sem, seval, encT, Int.lt_irrefl, bne_self_eq_false, hjb, undef]; first | refine callK_r (by first | assumption | exact hs | exact h4 | exact h3) (by first | exact .inl rfl | exact .inr rfl) ?_ | (refine callK_i (by assumption) ?_ ?_ ?_; (solve | (repeat (first | exact DLe.refl _ | exact DLe.nil _ | (refine DLe.tup ?_) | (refine DLe.agg ?_ rfl) | exact trivial | (refine And.intro ?_ ?_)))); (solve | exact .inl rfl | exact .inr rfl))) | fail | omega | exact decide_eq_true (by omega) | exact DLe.refl _)
          | false =>
            repeat' (first | (with_reducible refine And.intro ?_ ?_) | (with_reducible refine gK_i (fun _ => ?_) (fun _ => ?_)) | (with_reducible refine condS_i (fun _ => ?_) (fun _ => ?_)) | (with_reducible refine drw_i (by kernel_rfl)) | simp -dsimp only [go_sem, seval, *, encT, Int.lt_irrefl, bne_self_eq_false, hjb, undef] | ((with_reducible refine opK_c ?_); simp -dsimp only [go_sem, seval, encT, Int.lt_irrefl, bne_self_eq_false, hjb, undef]; first | refine callK_r (by first | assumption | exact h4 | exact h3) (by first | exact .inl rfl | exact .inr rfl) ?_ | (refine callK_i (by assumption) ?_ ?_ ?_; (solve | (repeat (first | exact DLe.refl _ | exact DLe.nil _ | (refine DLe.tup ?_) | (refine DLe.agg ?_ rfl) | exact trivial | (refine And.intro ?_ ?_)))); (solve | exact .inl rfl | exact .inr rfl))) | fail | omega | exact decide_eq_true (by omega) | exact DLe.refl _)
  · have hg : ∀ x, groupN n x = ([], chkT n) := fun x => by unfold groupN; rw [if_pos hc]
    have hcb : (chkT n != 0) = true := by simpa using hc
    rw [hg] at h1 h2
    clear hg hc
    generalize chkT n = E at *
    refine ps_i tab_ok mixed Tryz.func5 rfl Tryz.ntmps5 Tryz.results5 (by kernel_rfl) ?_
    repeat' (first | (with_reducible refine And.intro ?_ ?_) | (with_reducible refine gK_i (fun _ => ?_) (fun _ => ?_)) | (with_reducible refine condS_i (fun _ => ?_) (fun _ => ?_)) | (with_reducible refine drw_i (by kernel_rfl)) | simp -dsimp only [go_sem, seval, *, encT, hcb, undef] | ((with_reducible refine opK_c ?_); simp -dsimp only [go_sem, seval, encT, hcb, undef]; first | refine callK_r (by first | assumption | exact h1 | exact h2 | exact h3) (by first | exact .inl rfl | exact .inr rfl) ?_ | (refine callK_i (by assumption) ?_ ?_ ?_; (solve | (repeat (first | exact DLe.refl _ | exact DLe.nil _ | (refine DLe.tup ?_) | (refine DLe.agg ?_ rfl) | exact trivial | (refine And.intro ?_ ?_)))); (solve | exact .inl rfl | exact .inr rfl))) | fail | omega | exact decide_eq_true (by omega) | exact DLe.refl _)
end Go.Proofs.YtgmbhaclogabeaaGreat
namespace Go.Proofs.YtgmbhaclogabeaaGreat
open Go Go.RowKit Go.Proofs Go.ChangeShapes Go.WideShapes Go.Deep
/-- Nothing may be written. -/
def NM : Nat → Prop := fun _ => False
section
variable {H : Type} {enc : TypeId × Value → H} {P : Program} {w : World} {base : Nat} {spare : Nat → Bool} {held : Bool}
def RdW {α : Type} (enc : TypeId × Value → H) (P : Program) (w : World) (base : Nat) (spare : Nat → Bool) (held : Bool) (t : TypeId) (R : List Value → α → Prop) (S : α → Prop) : Prop :=
  ∀ fuel cs x, DataW.trod enc P w base spare held fuel t cs = some x → ∃ a, R cs a ∧ ((∀ n ∈ x.1.weights P t, n ≤ reachBytes) → S a)
theorem rdw_of {α : Type} {t : TypeId} {R : List Value → α → Prop} (h : Rd enc P w base spare held t R) : RdW enc P w base spare held t R (fun _ => True) := by
  intro fuel cs x hx
  obtain ⟨a, ha⟩ := h fuel cs x hx
  exact ⟨a, ha, fun _ => trivial⟩
theorem weights_all {e : TypeId} : ∀ {l : List (DataW H)} {d : DataW H}, d ∈ l → ∀ n ∈ d.weights P e, n ∈ DataW.weightsAll P e l
  | a :: l, d, h, n, hn => by
    simp only [DataW.weightsAll, List.mem_append]
    rcases List.mem_cons.1 h with rfl | h
    · exact .inl hn
    · exact .inr (weights_all h n hn)
theorem rdw_field {α : Type} {t : TypeId} {fs : Array Field} {fuel : Nat} {cs : List Value} {x : DataW H × List MemPlace} (ht : P.underlying t = some (.struct fs)) (h : DataW.trod enc P w base spare held fuel t cs = some x)
    (j : Nat) {f : Field} (hf : fs[j]? = some f) {R : List Value → α → Prop} {S : α → Prop} (hr : RdW enc P w base spare held f.type R S) : ∃ a, R ((cs.drop f.offset).take (P.cellsOf f.type)) a ∧ ((∀ n ∈ x.1.weights P t, n ≤ reachBytes) → S a) := by
  obtain ⟨xs, n, _, rfl, _, hlen, hg⟩ := DataW.trod_struct ht h
  have h1 := hg j f hf
  have hj : j < xs.length := by rw [hlen]; exact (Array.getElem?_eq_some_iff.1 hf).1
  rw [List.getElem?_eq_getElem hj] at h1
  obtain ⟨a, ha, hs⟩ := hr _ _ _ h1
  refine ⟨a, ha, fun hw => hs fun n hn => hw n ?_⟩
  simp only [DataW.weights, ht]
  exact DataW.weights_mem_each (j := j) (t := f.type) (d := (xs[j]).1) (by simp [hf]) (by simp [List.getElem?_eq_getElem hj]) n hn
theorem rdw_slice {α : Type} {t e : TypeId} {k : Nat} {R : List Value → α → Prop} {S : α → Prop} (ht : P.underlying t = some (.slice e)) (hc : P.cellsOf e = k + 1) (he : RdW enc P w base spare held e R S) :
    RdW enc P w base spare held t (fun cs (l : List α) => ∃ v, cs = [v] ∧ IsSl (inW w) w (k + 1) R v l) (fun l => l.length * P.bytesOf e ≤ reachBytes ∧ ∀ a ∈ l, S a) := by
  intro fuel cs x hx
  rcases open_slice ht hx with ⟨rfl, rfl⟩ | ⟨a, len, cap, m, n, D, Pl, rfl, hb, hl, hm, hmm, rfl, hi⟩
  · exact ⟨[], ⟨_, rfl, none, 0, rfl, ⟨Nat.le_refl _, by decide, fun i h => by simp at h⟩⟩, fun _ => ⟨by simp, fun a h => by simp at h⟩⟩
  · have hlm : len ≤ m := by rw [hmm]; split <;> omega
    obtain ⟨l, hll, hq⟩ := pick_list (Q := fun i y => ∃ cs', w.cells? base (a.add (i * P.cellsOf e)) (P.cellsOf e) = some cs' ∧ R cs' y ∧ ((∀ n ∈ (D i).weights P e, n ≤ reachBytes) → S y)) len fun i h => by
      obtain ⟨cs', h1, h2⟩ := hi i (by omega)
      obtain ⟨y, hy, hs⟩ := he _ _ _ h2
      exact ⟨y, cs', h1, hy, hs⟩
    refine ⟨l, ⟨_, rfl, some a, cap, by rw [hll], ⟨by omega, by unfold maxLen at hm; omega, fun i h => ?_⟩⟩, fun hw => ⟨?_, fun y hy => ?_⟩⟩
    · obtain ⟨cs', h1, h2, -⟩ := hq i h
      rw [hc] at h1
      obtain ⟨_, hcl, hat⟩ := World.cells?_some h1
      obtain ⟨b, off, spot⟩ := a
      have hspot : spot = none := by
        obtain ⟨cs0, g1, _⟩ := hq 0 (by omega)
        rw [hc] at g1
        obtain ⟨_, gcl, gat⟩ := World.cells?_some g1
        have g0 := gat (i := 0) (by omega)
        have g0' : w.cell? ⟨b, off, spot⟩ = some (cs0[0]'(by omega)) := by
          have : ((⟨b, off, spot⟩ : Addr).add (0 * (k + 1))).add 0 = ⟨b, off, spot⟩ := by simp [Addr.add]
          rw [this] at g0
          rw [g0]; exact List.getElem?_eq_getElem (by omega)
        exact World.cell?_spot g0'
      subst hspot
      have hadd : ∀ o j, ((⟨b, o, none⟩ : Addr).add j) = ⟨b, o + j, none⟩ := by
        intro o j; unfold Addr.add; split <;> simp_all
      refine ⟨b, off, cs', rfl, ?_, hcl, h2, fun j hj => ?_⟩
      · have := hat (i := 0) (by omega)
        rw [hadd, hadd] at this
        exact lt_of_cell (this.trans (List.getElem?_eq_getElem (by omega)))
      · have := hat (i := j) (by omega)
        rw [hadd, hadd] at this
        rw [this]
        exact List.getElem?_eq_getElem hj
    · have := hw (((List.range len).map D).length + ((List.range (m - len)).map fun j => D (len + j)).length |> (· * P.bytesOf e)) (by simp [DataW.weights, ht])
      simp only [List.length_map, List.length_range] at this
      rw [hll]
      exact Nat.le_trans (Nat.mul_le_mul_right _ (by omega)) this
    · obtain ⟨i, hil, rfl⟩ := List.mem_iff_getElem.1 hy
      obtain ⟨cs', h1, h2, h3⟩ := hq i hil
      refine h3 fun n hn => hw n ?_
      simp only [DataW.weights, ht]
      refine List.mem_cons_of_mem _ (List.mem_append_left _ (weights_all (d := D i) (List.mem_map.2 ⟨i, by simp; omega, rfl⟩) n hn))
theorem argw {α : Type} {R : List Value → α → Prop} {S : α → Prop} {r : Reach} {b0 : Nat} {t : TypeId} {fs : Array Field} {v : Value} {d : DataW H} {p : List MemPlace} (ht : P.underlying t = some (.struct fs)) (hval : Value.okWide P w r b0 t v) (hd : DataW.Trod enc P w base spare held t v d p)
    (hr : RdW enc P w base spare held t R S) : ∃ cs a, v = .agg cs ∧ R cs.toList a ∧ ((∀ n ∈ d.weights P t, n ≤ reachBytes) → S a) := by
  obtain ⟨cs, rfl, _⟩ := okWide_struct ht hval
  obtain ⟨fuel, hf⟩ := hd
  obtain ⟨a, ha, hs⟩ := hr _ _ _ hf
  exact ⟨cs, a, rfl, by simpa [Value.cells] using ha, hs⟩
end
end Go.Proofs.YtgmbhaclogabeaaGreat
namespace Go.Proofs.YtgmbhaclogabeaaGreat
open Go Go.RowKit Go.Proofs Go.ChangeShapes Go.WideShapes Go.Deep
set_option maxRecDepth 100000
/-- A slice of what reads as data reads as data. -/
theorem isSl_rep {α : Type} {enc : α → List D} {sz : Nat} {w : World} (h0 : 0 < sz) (hen : ∀ a, (enc a).length = sz ∧ ∀ d ∈ enc a, d.one = true) {v : Value} {l : List α} (h : IsSl (inW w) w sz (fun cs a => RepDs NM w (enc a) cs) v l) : RepD NM w (.sl sz (l.map enc)) v := by
  obtain ⟨ao, cap, rfl, hs⟩ := h
  cases l with
  | nil => exact .nil sz ao cap hs.cap_max
  | cons u us =>
    obtain ⟨b, off, cs, rfl, hAb, hl, hR, hcs⟩ := hs.elem 0 (by simp)
    have key : ∀ i (hi : i < (u :: us).length), ∃ cs : List Value, cs.length = sz ∧ RepDs NM w (enc (u :: us)[i]) cs ∧ cellsAt w b (off + i * sz) cs := by
      intro i hi
      obtain ⟨b', off', cs', e, -, hl', hR', hcs'⟩ := hs.elem i hi
      cases e
      exact ⟨cs', hl', hR', hcs'⟩
    have hlen : ((u :: us).map enc).length = (u :: us).length := by simp
    rw [← hlen]
    refine .sl sz ((u :: us).map enc) b off cap (fun i j => (w.cell? ⟨b, off + i * sz + j, none⟩).getD undef) (fun h => h) hAb (by rw [hlen]; exact hs.cap_le) hs.cap_max (fun r hr => ?_) (fun r hr => ?_) (fun i j hi hj => ?_) (fun i j row d hi hj => ?_)
    · obtain ⟨x, -, rfl⟩ := List.mem_map.1 hr; exact (hen x).1
    · obtain ⟨x, -, rfl⟩ := List.mem_map.1 hr; exact (hen x).2
    · obtain ⟨cs', hl', -, hcs'⟩ := key i (by simpa using hi)
      rw [hcs' j (by omega)]; rfl
    · have hi' : i < (u :: us).length := by have := (List.getElem?_eq_some_iff.1 hi).1; simpa using this
      obtain ⟨cs', hl', hR', hcs'⟩ := key i hi'
      rw [List.getElem?_map, List.getElem?_eq_getElem hi'] at hi
      simp only [Option.map_some, Option.some.injEq] at hi
      subst hi
      have hj' : j < cs'.length := by rw [← hR'.1]; exact (List.getElem?_eq_some_iff.1 hj).1
      rw [hcs' j hj']
      exact hR'.2 j d _ hj (List.getElem?_eq_getElem hj')
section
variable {H : Type} {enc : TypeId × Value → H} {w : World} {base : Nat} {spare : Nat → Bool} {held : Bool}
theorem Tryz.sizePfx : Tryz.prog.cellsOf 27 = 2 := by kernel_rfl
theorem Tryz.sizeInt1 : Tryz.prog.cellsOf 3 = 1 := by kernel_rfl
theorem Tryz.sizeInts : Tryz.prog.cellsOf 30 = 1 := by kernel_rfl
theorem Tryz.sizeFace : Tryz.prog.cellsOf 88 = 2 := by kernel_rfl
theorem Tryz.sizeSub : Tryz.prog.cellsOf 86 = 4 := by kernel_rfl
theorem Tryz.sizeRange : Tryz.prog.cellsOf 29 = 3 := by kernel_rfl
theorem Tryz.sizeVpc : Tryz.prog.cellsOf 56 = 3 := by kernel_rfl
theorem Tryz.sizeFaces : Tryz.prog.cellsOf 84 = 1 := by kernel_rfl
theorem Tryz.bytesFace : Tryz.prog.bytesOf 88 = 32 := by kernel_rfl
theorem Tryz.sizeSubs : Tryz.prog.cellsOf 54 = 1 := by kernel_rfl
theorem Tryz.bytesSub : Tryz.prog.bytesOf 86 = 48 := by kernel_rfl
theorem Tryz.sizeRanges : Tryz.prog.cellsOf 53 = 1 := by kernel_rfl
theorem rd_pfx : Rd enc Tryz.prog w base spare held 27 Pfx.R := by
  intro fuel cs x hx
  have hl := rd_len Tryz.underlying27 hx
  rw [Tryz.sizePfx] at hl
  obtain ⟨a, ha⟩ := rd_field Tryz.underlying27 hx 0 rfl (rd_int Tryz.underlying3)
  obtain ⟨b, hb⟩ := rd_field Tryz.underlying27 hx 1 rfl (rd_int Tryz.underlying3)
  match cs, hl with
  | [c0, c1], _ =>
    simp [Tryz.sizeInt1, IntR] at ha hb
    exact ⟨⟨a, b⟩, by simp [Pfx.R, ha.1, hb.1]⟩
theorem repDs_ints (l : List Int) : RepDs NM w (l.map fun n => .v (.int .i64 n)) (l.map fun n => .int .i64 n) := by
  refine ⟨by simp, fun j d x hj hx => ?_⟩
  rw [List.getElem?_map, Option.map_eq_some_iff] at hj hx
  obtain ⟨a, ha, rfl⟩ := hj
  obtain ⟨c, hc, rfl⟩ := hx
  rw [ha] at hc
  obtain rfl := Option.some.inj hc
  exact .v _
theorem repDs_appR {M : Nat → Prop} {w : World} {ds es : List D} {vs us : List Value} (h : RepDs M w ds vs) (g : RepDs M w es us) : RepDs M w (ds ++ es) (vs ++ us) := by
  refine ⟨by simp [h.1, g.1], fun j d x hj hx => ?_⟩
  rcases Nat.lt_or_ge j ds.length with hlt | hge
  · rw [List.getElem?_append_left hlt] at hj
    rw [List.getElem?_append_left (by rw [← h.1]; exact hlt)] at hx
    exact h.2 j d x hj hx
  · rw [List.getElem?_append_right hge] at hj
    rw [List.getElem?_append_right (by rw [← h.1]; exact hge), ← h.1] at hx
    exact g.2 _ d x hj hx
theorem repDs_one {M : Nat → Prop} {w : World} {d : D} {v : Value} (h : RepD M w d v) : RepDs M w [d] [v] := ⟨rfl, fun j e x hj hx => by
  match j with
  | 0 => cases hj; cases hx; exact h
  | j + 1 => simp at hj⟩
theorem rdw_ints : RdW enc Tryz.prog w base spare held 30 (fun cs (l : List Int) => ∃ v, cs = [v] ∧ RepD NM w (.sl 1 (l.map encA)) v) (fun _ => True) := by
  have h := rdw_slice (enc := enc) (base := base) (spare := spare) (held := held) Tryz.underlying30 Tryz.sizeInt1 (rdw_of ((rd_int (w := w) Tryz.underlying3).map id (R' := fun cs (a : Int) => RepDs NM w (encA a) cs) fun cs a h => by rw [h.1]; exact repDs_ints [a]))
  intro fuel cs x hx
  obtain ⟨l, ⟨v, rfl, hs⟩, hw⟩ := h fuel cs x hx
  refine ⟨l, ⟨v, rfl, isSl_rep (sz := 1) (by omega) (fun a => ⟨rfl, fun d hd => ?_⟩) hs⟩, fun _ => trivial⟩
  simp [encA] at hd
  rcases hd with rfl; rfl
theorem rdw_face : RdW enc Tryz.prog w base spare held 88 (fun cs (f : Fce) => RepDs NM w (encF f) cs) (fun _ => True) := by
  intro fuel cs x hx
  have hl := rd_len Tryz.underlying88 hx
  rw [Tryz.sizeFace] at hl
  obtain ⟨a, ha⟩ := rd_field Tryz.underlying88 hx 0 rfl (rd_int Tryz.underlying3)
  obtain ⟨l, hs, hw⟩ := rdw_field Tryz.underlying88 hx 1 rfl rdw_ints
  match cs, hl with
  | [c0, c1], _ =>
    simp [Tryz.sizeInt1, Tryz.sizeInts, IntR] at ha hs
    refine ⟨⟨a, l⟩, ?_, fun _ => trivial⟩
    rw [ha.1]
    exact repDs_appR (repDs_ints [a]) (repDs_one hs)
theorem rdw_faces : RdW enc Tryz.prog w base spare held 84 (fun cs (l : List Fce) => ∃ v, cs = [v] ∧ RepD NM w (.sl 2 (l.map encF)) v) (fun l => l.length * 32 ≤ reachBytes) := by
  have h := rdw_slice (enc := enc) (base := base) (spare := spare) (held := held) Tryz.underlying84 Tryz.sizeFace (rdw_face (w := w))
  intro fuel cs x hx
  obtain ⟨l, ⟨v, rfl, hs⟩, hw⟩ := h fuel cs x hx
  refine ⟨l, ⟨v, rfl, isSl_rep (sz := 2) (by omega) (fun a => ⟨rfl, fun d hd => ?_⟩) hs⟩, fun hh => by have := (hw hh).1; rwa [Tryz.bytesFace] at this⟩
  simp [encF] at hd
  rcases hd with rfl | rfl <;> rfl
theorem rdw_sub : RdW enc Tryz.prog w base spare held 86 (fun cs (s : Sbn) => RepDs NM w (encN s) cs) (fun s => s.faces.length * 32 ≤ reachBytes) := by
  intro fuel cs x hx
  have hl := rd_len Tryz.underlying86 hx
  rw [Tryz.sizeSub] at hl
  obtain ⟨a, ha⟩ := rd_field Tryz.underlying86 hx 0 rfl (rd_int Tryz.underlying3)
  obtain ⟨p, hp⟩ := rd_field Tryz.underlying86 hx 1 rfl rd_pfx
  obtain ⟨l, hs, hw⟩ := rdw_field Tryz.underlying86 hx 2 rfl rdw_faces
  match cs, hl with
  | [c0, c1, c2, c3], _ =>
    simp [Tryz.sizePfx, Tryz.sizeInt1, Tryz.sizeFaces, IntR, Pfx.R] at ha hp hs
    refine ⟨⟨a, p, l⟩, ?_, hw⟩
    rw [ha.1, hp.1, hp.2]
    exact repDs_appR (repDs_ints [a, p.at_, p.len]) (repDs_one hs)
theorem rdw_subs : RdW enc Tryz.prog w base spare held 54 (fun cs (l : List Sbn) => ∃ v, cs = [v] ∧ RepD NM w (.sl 4 (l.map encN)) v) (fun l => l.length * 48 ≤ reachBytes ∧ ∀ s ∈ l, s.faces.length * 32 ≤ reachBytes) := by
  have h := rdw_slice (enc := enc) (base := base) (spare := spare) (held := held) Tryz.underlying54 Tryz.sizeSub (rdw_sub (w := w))
  intro fuel cs x hx
  obtain ⟨l, ⟨v, rfl, hs⟩, hw⟩ := h fuel cs x hx
  refine ⟨l, ⟨v, rfl, isSl_rep (sz := 4) (by omega) (fun a => ⟨rfl, fun d hd => ?_⟩) hs⟩, fun hh => ⟨by have := (hw hh).1; rwa [Tryz.bytesSub] at this, (hw hh).2⟩⟩
  simp [encN] at hd
  rcases hd with rfl | rfl | rfl | rfl <;> rfl
theorem rd_rng : Rd enc Tryz.prog w base spare held 29 fun cs (r : Rng) => RepDs NM w (encG r) cs := by
  intro fuel cs x hx
  have hl := rd_len Tryz.underlying29 hx
  rw [Tryz.sizeRange] at hl
  obtain ⟨p, hp⟩ := rd_field Tryz.underlying29 hx 0 rfl rd_pfx
  obtain ⟨a, ha⟩ := rd_field Tryz.underlying29 hx 1 rfl (rd_int Tryz.underlying3)
  match cs, hl with
  | [c0, c1, c2], _ =>
    simp [Tryz.sizePfx, Tryz.sizeInt1, IntR, Pfx.R] at ha hp
    refine ⟨⟨p, a⟩, ?_⟩
    rw [ha.1, hp.1, hp.2]
    exact repDs_ints [p.at_, p.len, a]
theorem rd_rngD : RdW enc Tryz.prog w base spare held 29 (fun cs (r : Rng) => RepDs NM w (encG r) cs) (fun _ => True) := rdw_of rd_rng
theorem rdw_rngs : RdW enc Tryz.prog w base spare held 53 (fun cs (l : List Rng) => ∃ v, cs = [v] ∧ RepD NM w (.sl 3 (l.map encG)) v) (fun _ => True) := by
  have h := rdw_slice (enc := enc) (base := base) (spare := spare) (held := held) Tryz.underlying53 Tryz.sizeRange (rd_rngD (w := w))
  intro fuel cs x hx
  obtain ⟨l, ⟨v, rfl, hs⟩, hw⟩ := h fuel cs x hx
  refine ⟨l, ⟨v, rfl, isSl_rep (sz := 3) (by omega) (fun a => ⟨rfl, fun d hd => ?_⟩) hs⟩, fun _ => trivial⟩
  simp [encG] at hd
  rcases hd with rfl | rfl | rfl <;> rfl
theorem rdw_vpc : RdW enc Tryz.prog w base spare held 56 (fun cs (v : Vpc) => RepDs NM w (encV v) cs) (fun v => v.subs.length ≤ 9223372036854775807 ∧ ∀ s ∈ v.subs, s.faces.length ≤ 9223372036854775807) := by
  intro fuel cs x hx
  have hl := rd_len Tryz.underlying56 hx
  rw [Tryz.sizeVpc] at hl
  obtain ⟨a, ha⟩ := rd_field Tryz.underlying56 hx 0 rfl (rd_int Tryz.underlying3)
  obtain ⟨r, hr, -⟩ := rdw_field Tryz.underlying56 hx 1 rfl rdw_rngs
  obtain ⟨l, hs, hw⟩ := rdw_field Tryz.underlying56 hx 2 rfl rdw_subs
  match cs, hl with
  | [c0, c1, c2], _ =>
    simp [Tryz.sizeInt1, Tryz.sizeRanges, Tryz.sizeSubs, IntR] at ha hr hs
    refine ⟨⟨a, r, l⟩, ?_, fun hh => ?_⟩
    · rw [ha.1]
      exact repDs_appR (repDs_ints [a]) (repDs_appR (repDs_one hr) (repDs_one hs))
    · have := hw hh
      unfold reachBytes at this
      exact ⟨by have := this.1; show l.length ≤ 9223372036854775807; omega, fun s hs => by have := this.2 s hs; omega⟩
end
theorem repDs_n {M : Nat → Prop} {w : World} : RepDs M w [] [] := ⟨rfl, fun j d x hj _ => by simp at hj⟩
theorem repDs_c {M : Nat → Prop} {w : World} {d : D} {v : Value} {ds : List D} {vs : List Value} (h : RepD M w d v) (g : RepDs M w ds vs) : RepDs M w (d :: ds) (v :: vs) := ⟨by simp [g.1], fun j e x hj hx => by
  cases j with
  | zero => simp at hj hx; subst hj; subst hx; exact h
  | succ j => exact g.2 j e x (by simpa using hj) (by simpa using hx)⟩
theorem rep_agg {w : World} {cs : Array Value} {ds : List D} (h : RepDs NM w ds cs.toList) (h1 : ds.all D.one = true) : RepD NM w (.agg ds) (.agg cs) := by
  have := RepD.agg (M := NM) (w := w) ds cs.toList h.1 (fun d hd => List.all_eq_true.1 h1 d hd) h.2
  simpa using this
theorem law_of {P : Program} {f : Nat} {args : List D} {vs : List Value} {W : World} (hp : PSpec P f args (.v (.bool true))) (hds : RepDs NM W args vs) : Calls P f vs.toArray W fun e w' => e = .returned (.bool true) ∧ Ext W w' := by
  refine (hp.2 NM W vs (fun b h => h.elim) hds).mono ?_
  rintro e w' ⟨v, rfl, hv, hx⟩
  cases hv
  exact ⟨rfl, hx⟩
section
variable {H : Type} {enc : TypeId × Value → H} {w : World} {base : Nat} {spare : Nat → Bool} {held : Bool}
end
end Go.Proofs.YtgmbhaclogabeaaGreat
namespace Go.Proofs.YtgmbhaclogabeaaGreat
open Go Go.RowKit
section
variable {H : Type} {enc : TypeId × Value → H} {w : World} {base : Nat} {spare : Nat → Bool} {held : Bool}
theorem Tryz.sizeLink : Tryz.prog.cellsOf 68 = 2 := by kernel_rfl
theorem Tryz.sizeLinks : Tryz.prog.cellsOf 23 = 1 := by kernel_rfl
theorem Tryz.sizeVpcs : Tryz.prog.cellsOf 22 = 1 := by kernel_rfl
theorem Tryz.sizeNet : Tryz.prog.cellsOf 25 = 2 := by kernel_rfl
set_option maxRecDepth 100000 in
theorem rd_lnk : Rd enc Tryz.prog w base spare held 68 fun cs (l : Lnk) => RepDs NM w (encK l) cs := by
  intro fuel cs x hx
  have hl := rd_len Tryz.underlying68 hx
  rw [Tryz.sizeLink] at hl
  obtain ⟨a, ha⟩ := rd_field Tryz.underlying68 hx 0 rfl (rd_int Tryz.underlying3)
  obtain ⟨b, hb⟩ := rd_field Tryz.underlying68 hx 1 rfl (rd_int Tryz.underlying3)
  match cs, hl with
  | [c0, c1], _ =>
    simp [Tryz.sizeInt1, IntR] at ha hb
    refine ⟨⟨a, b⟩, ?_⟩
    rw [ha.1, hb.1]
    exact repDs_ints [a, b]
theorem rdw_lnks : RdW enc Tryz.prog w base spare held 23 (fun cs (l : List Lnk) => ∃ v, cs = [v] ∧ RepD NM w (.sl 2 (l.map encK)) v) (fun _ => True) := by
  have h := rdw_slice (enc := enc) (base := base) (spare := spare) (held := held) Tryz.underlying23 Tryz.sizeLink (rdw_of (rd_lnk (w := w)))
  intro fuel cs x hx
  obtain ⟨l, ⟨v, rfl, hs⟩, hw⟩ := h fuel cs x hx
  refine ⟨l, ⟨v, rfl, isSl_rep (sz := 2) (by omega) (fun a => ⟨rfl, fun d hd => ?_⟩) hs⟩, fun _ => trivial⟩
  simp [encK] at hd
  rcases hd with rfl | rfl <;> rfl
theorem rdw_vpcs : RdW enc Tryz.prog w base spare held 22 (fun cs (l : List Vpc) => ∃ v, cs = [v] ∧ RepD NM w (.sl 3 (l.map encV)) v) (fun l => ∀ v ∈ l, v.subs.length ≤ 9223372036854775807 ∧ ∀ s ∈ v.subs, s.faces.length ≤ 9223372036854775807) := by
  have h := rdw_slice (enc := enc) (base := base) (spare := spare) (held := held) Tryz.underlying22 Tryz.sizeVpc (rdw_vpc (w := w))
  intro fuel cs x hx
  obtain ⟨l, ⟨v, rfl, hs⟩, hw⟩ := h fuel cs x hx
  refine ⟨l, ⟨v, rfl, isSl_rep (sz := 3) (by omega) (fun a => ⟨rfl, fun d hd => ?_⟩) hs⟩, fun hh => (hw hh).2⟩
  simp [encV] at hd
  rcases hd with rfl | rfl | rfl <;> rfl
set_option maxRecDepth 100000 in
theorem rdw_net : RdW enc Tryz.prog w base spare held 25 (fun cs (n : Net) => RepDs NM w (encT n) cs) NetZ := by
  intro fuel cs x hx
  have hl := rd_len Tryz.underlying25 hx
  rw [Tryz.sizeNet] at hl
  obtain ⟨vs, hv, hw⟩ := rdw_field Tryz.underlying25 hx 0 rfl rdw_vpcs
  obtain ⟨ls, hk, -⟩ := rdw_field Tryz.underlying25 hx 1 rfl rdw_lnks
  match cs, hl with
  | [c0, c1], _ =>
    simp [Tryz.sizeVpcs, Tryz.sizeLinks] at hv hk
    exact ⟨⟨vs, ls⟩, repDs_appR (repDs_one hv) (repDs_one hk), hw⟩
end
end Go.Proofs.YtgmbhaclogabeaaGreat
namespace Go.Proofs.YtgmbhaclogabeaaGreat
open Go Go.RowKit Go.Proofs Go.ChangeShapes Go.WideShapes Go.ChangeAt
set_option linter.unusedVariables false
theorem netPeace_own : ownKnob Tryz.prog.godebug = Option.none := by kernel_rfl
theorem netPeace_laidOut : laidOutB Tryz.prog = true := by kernel_rfl
set_option maxRecDepth 100000 in
theorem netPeace_lifted (os : Os) (started : os.Started) (H : Type) (enc : TypeId × Value → H) :
    ReturnsInHanded {} Tryz.checked os 5 .any (Rows.netPeaceSpec.pre6 enc Tryz.prog Tryz.f5 Rows.netPeaceRow.domain false) (Rows.netPeaceSpec.post enc Tryz.prog Tryz.f5 false true false false) := by
  refine returnsInHanded_of_change_sized (C := Tryz.checked) netPeace_own started (by kernel_rfl) Tryz.func5
    (ChangeSpec.witness6 (enc := enc) (C := Tryz.checked) false ⟨#[], #[.agg #[.slice none 0 0, .slice none 0 0], .int .i64 0, .int .i64 0], []⟩ 8 (by kernel_rfl) (by kernel_rfl) (by kernel_rfl) (by kernel_rfl)) ?_
  intro W base args ds gs before hval0 hW hcnd hsz _
  have hval : ∀ (j : Nat) t v, Tryz.f5.params[j]? = some t → args[j]? = some v → Value.okWide Tryz.prog W .any base t v := hval0
  have hW' := hW
  obtain ⟨p, q, hA0, hV, rfl, hfz, hnd⟩ := hW
  have hA : DataW.TrodAll enc Tryz.prog W 0 (fun _ => true) true Tryz.f5.params.toList args.toList ds p := hA0
  rw [Tryz.params5] at hA hval
  obtain ⟨v0, vs0, d0, ds0, p0, q0, hargs, rfl, rfl, h0, r0⟩ := trodAll_cons hA
  obtain ⟨v1, vs1, d1, ds1, p1, q1, rfl, rfl, rfl, h1, r1⟩ := trodAll_cons r0
  obtain ⟨v2, vs2, d2, ds2, p2, q2, rfl, rfl, rfl, h2, r2⟩ := trodAll_cons r1
  obtain ⟨rfl, rfl, rfl⟩ := trodAll_nil r2
  obtain rfl : args = #[v0, v1, v2] := by cases args; simp_all
  obtain ⟨rfl, rfl⟩ := trodVars_none hV
  obtain ⟨cs0, a0, rfl, w0, s0⟩ := argw Tryz.underlying25 (hval 0 25 v0 rfl rfl) h0 rdw_net
  replace s0 := s0 (fun n hn => of_decide_eq_true (List.all_eq_true.1 hsz _ (DataW.weights_mem_each (j := 0) (t := 25) rfl rfl n hn)))
  obtain ⟨a1, rfl, w1⟩ := arg_int Tryz.underlying3 (hval 1 3 v1 rfl rfl) h1
  obtain ⟨a2, rfl, w2⟩ := arg_int Tryz.underlying3 (hval 2 3 v2 rfl rfl) h2
  clear hA0 hval0
  refine (law_of (netPeace_p a0 a1 a2 s0) (vs := [.agg cs0, .int .i64 a1, .int .i64 a2]) (repDs_c (rep_agg w0 rfl) (repDs_c (.v (.int .i64 a1)) (repDs_c (.v (.int .i64 a2)) repDs_n)))).mono fun e W' ⟨he, bel⟩ => ?_
  subst he
  exact ⟨_, rfl, _, _, _, [], _, [], hW', trodAll_mk1 (shut_bool Tryz.underlying4 _), (trodAll_cons_mk (Below.trod netPeace_laidOut (by kernel_rfl) (of_decide_eq_true (by kernel_rfl)) h0 bel (trod_lts h0)) (trodAll_cons_mk (Below.trod netPeace_laidOut (by kernel_rfl) (of_decide_eq_true (by kernel_rfl)) h1 bel (trod_lts h1)) (trodAll_cons_mk (Below.trod netPeace_laidOut (by kernel_rfl) (of_decide_eq_true (by kernel_rfl)) h2 bel (trod_lts h2)) trodAll_mk0))), rfl, bel.frame _, fun h => by cases h⟩
theorem netPeace_over : Rows.netPeaceRow.holds Tryz.pinned (OpenSpec.ofChange Rows.netPeaceSpec) :=
  OpenClaim.holds_of_wide 5 Tryz.f5 rfl rfl rfl rfl rfl rfl rfl ⟨rfl, rfl, rfl, rfl, rfl⟩ rfl rfl rfl rfl rfl (by kernel_rfl) Tryz.func5 (by kernel_rfl)
    (of_decide_eq_true (by kernel_rfl)) (by unfold Func.isWrapper; first | (rw [if_pos (by decide +kernel)]; kernel_rfl) | (rw [if_neg (by decide +kernel)]; exact ⟨rfl, rfl⟩))
    (fun os started H enc _ => netPeace_lifted os started H enc)
theorem netPeace_holds : Rows.NetPeaceSaid := netPeace_over
#print axioms netPeace_holds
end Go.Proofs.YtgmbhaclogabeaaGreat
