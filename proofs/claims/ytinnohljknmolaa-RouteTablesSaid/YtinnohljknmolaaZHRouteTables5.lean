/- RouteTables: its statement, for every input, out of its walk. (texts of this work, joined) -/
import Derived.Test.YtinnohljknmolaaZHRouteTables4
import Derived.Shelf.SlSortCmp.WholeK
import Derived.Test.YtinnohljknmolaaShelf
import Derived.Shelf.SlSortCmp.NoneTotal
import Derived.SizedLaws
import Derived.Test.YtinnohljknmolaaRows
import Derived.WalkKit
import Derived.ProofKit
import Derived.OpenShut
import Derived.ShutString
import Derived.ChangeOld
import Derived.Below
set_option linter.unusedSimpArgs false
set_option linter.unusedVariables false
namespace Go.Proofs.Ytinnohljknmolaa
open Go Go.RowKit Go.Proofs Go.Shelf
/-- A row's cells, and the key that they have. -/
structure SRow (HP : List Value → Int → Prop) (sz : Nat) where
  xs : List Value
  len : xs.length = sz
  one : ∀ v ∈ xs, v.oneCell' = true
  key : Int
  head : HP xs key
/-- The key is the first cell. -/
@[reducible] def HP0 (xs : List Value) (k : Int) : Prop := xs[0]? = some (.int .i64 k)
def cfS {HP : List Value → Int → Prop} {sz : Nat} (x y : SRow HP sz) : Int := cmpI x.key y.key
theorem ltS {HP : List Value → Int → Prop} {sz : Nat} (x y : SRow HP sz) : ltOf cfS x y = decide (x.key < y.key) := cmpI_neg _ _
theorem swoS {HP : List Value → Int → Prop} {sz : Nat} : Sort.SWO (ltOf (cfS (HP := HP) (sz := sz))) where
  irrefl x := by rw [ltS]; simp
  trans x y z h1 h2 := by rw [ltS] at *; simp at *; omega
  ntrans x y z h1 h2 := by rw [ltS] at *; simp at *; omega
@[reducible] def srow_inh (n : Nat) : Inhabited (SRow HP0 (n + 1)) := ⟨⟨List.replicate (n + 1) (.int .i64 0), by simp, fun v hv => by rw [List.eq_of_mem_replicate hv]; rfl, 0, by unfold HP0; simp⟩⟩
theorem putCells_take (F cur : Array Value) (h : F.size ≤ cur.size) : (Sort.putCells id 0 F cur).toList.take F.size = F.toList ∧ (Sort.putCells id 0 F cur).size = cur.size := by
  refine ⟨?_, by simp [Sort.putCells]⟩
  apply List.ext_getElem?
  intro i
  by_cases hi : i < F.size
  · rw [List.getElem?_take_of_lt hi]
    have hc : i < cur.size := by omega
    simp [Sort.putCells, hi, hc]
  · rw [List.getElem?_eq_none (by rw [List.length_take]; omega), List.getElem?_eq_none (by simp; omega)]
theorem flatK_rows {HP : List Value → Int → Prop} {sz : Nat} (n : Nat) (hs : sz = n + 1) [Inhabited (SRow HP sz)] (d : Array (SRow HP sz)) : (Sort.flatK (fun r : SRow HP sz => r.xs) sz d).toList = (d.toList.map (·.xs)).flatten := by
  have hrow : ∀ r ∈ d.toList.map (·.xs), r.length = sz := fun r hr => by
    obtain ⟨x, -, rfl⟩ := List.mem_map.1 hr; exact x.len
  have hlen : (d.toList.map (·.xs)).flatten.length = d.size * sz := by rw [flatten_len hrow]; simp
  apply List.ext_getElem?
  intro t
  by_cases ht : t < d.size * sz
  · have h1 : t / sz < d.size := Nat.div_lt_of_lt_mul (by rw [Nat.mul_comm]; exact ht)
    have h2 : t % sz < sz := Nat.mod_lt _ (by omega)
    have h3 : t / sz * sz + t % sz = t := by rw [Nat.mul_comm]; exact Nat.div_add_mod t sz
    have h4 := flatten_atG hrow (t / sz) (t % sz) h2
    rw [h3] at h4
    rw [h4]
    have h5 := Sort.get_flatK (fun r : SRow HP sz => r.xs) sz d t ht
    have h6 : t < (Sort.flatK (fun r : SRow HP sz => r.xs) sz d).size := by rw [Sort.size_flatK]; exact ht
    rw [getElem!_pos (Sort.flatK (fun r : SRow HP sz => r.xs) sz d) t h6] at h5
    rw [Array.getElem?_toList, Array.getElem?_eq_getElem h6, h5]
    have hl : (d[t / sz]).xs.length = sz := (d[t / sz]).len
    have e7 : (d[t / sz]).xs[t % sz]? = some ((d[t / sz]).xs[t % sz]!) := by
      rw [getElem!_pos (d[t / sz]).xs (t % sz) (by rw [hl]; exact h2)]
      exact List.getElem?_eq_getElem _
    rw [getElem!_pos d (t / sz) h1]
    rw [List.getElem?_map, Array.getElem?_toList, Array.getElem?_eq_getElem h1]
    simp only [Option.map_some, Option.bind_some]
    exact e7.symm
  · rw [List.getElem?_eq_none (by simp; omega), List.getElem?_eq_none (by omega)]
/-- Sorting, said of rows of values. -/
theorem sort_raw {HP : List Value → Int → Prop} {n : Nat} (inh : Inhabited (SRow HP (n + 1))) {P : Program} {ρ : Ren} (L : SlLaysF0.n6 P ρ) {f fc E : Nat} (hf : ρ.f 6 = f) (aE : ∀ w, (isAgg (ρ.t 24)).run P w = .ok true w) (zE : ∀ w, (Go.sizeOf (ρ.t 24)).run P w = .ok (n + 1) w) (eg : ∀ args w, (callFunc fc args).run P w = .ok (.enter fc args) w)
    (hcmp : ∀ (x y : SRow HP (n + 1)) (W : World), Calls P fc #[.agg x.xs.toArray, .agg y.xs.toArray] W fun e w' => e = .returned (.int .i64 (cfS x y)) ∧ ∃ q os', w' = Sort.grow (W.drewN q) os')
    (ds : List (SRow HP (n + 1))) (w : World) (gb cap : Nat) (cur : Array Value) (hh : w.heap[gb]? = some (.cells cur E (0, 0))) (hc : cur.toList.take (ds.length * (n + 1)) = (ds.map (·.xs)).flatten) (hsz : ds.length * (n + 1) ≤ cur.size) (hl : ds.length ≤ 1000000) :
    Calls P f #[.slice (some ⟨gb, 0, none⟩) ds.length cap, .func (.func fc) #[] #[]] w fun e w' => e = .returned (.tuple #[]) ∧ ∃ (ds' : List (SRow HP (n + 1))) (cur' : Array Value), ds'.Perm ds ∧ ds'.Pairwise (fun x y => x.key ≤ y.key) ∧ w'.heap[gb]? = some (.cells cur' E (0, 0)) ∧ cur'.size = cur.size ∧
      cur'.toList.take (ds.length * (n + 1)) = (ds'.map (·.xs)).flatten ∧ OneB w w' (some gb) := by
  have hg : gb < w.heap.size := (Array.getElem?_eq_some_iff.1 hh).1
  have hfl := flatK_rows n rfl ds.toArray
  rw [List.toList_toArray] at hfl
  have hH : Sort.HoldsK (fun r : SRow HP (n + 1) => r.xs) (n + 1) w gb 0 ds.toArray := by
    intro t ht
    have ht2 := ht
    rw [Sort.size_flatK, List.size_toArray] at ht2
    refine ⟨?_, free_of_block hh⟩
    have hcell : ∀ o, w.cell? ⟨gb, o, none⟩ = cur[o]? := fun o => by simp [World.cell?, hh]
    rw [Nat.zero_add, hcell]
    have h1 : (cur.toList.take (ds.length * (n + 1)))[t]? = cur[t]? := by rw [List.getElem?_take_of_lt ht2]; simp
    rw [← h1, hc, ← hfl, Array.getElem?_toList, getElem!_pos (Sort.flatK (fun r : SRow HP (n + 1) => r.xs) (n + 1) ds.toArray) t ht, Array.getElem?_eq_getElem ht]
    rfl
  have hcon := AnyQ.slices_SortFunc L (n + 1) aE zE (fun r : SRow HP (n + 1) => r.xs) (·.len) (·.one) cfS swoS fc #[] gb 0 cap ds.toArray w eg (fun _ _ _ _ x y => hcmp x y _) hH hg (by simp; omega)
  rw [hf, List.size_toArray] at hcon
  refine Calls.mono hcon ?_
  rintro e w' ⟨rfl, d', m, os, ⟨hp1, -, hp⟩, hs, rfl⟩
  replace hp1 : d'.size = ds.length := by simpa using hp1
  have hF : (Sort.flatK (fun r : SRow HP (n + 1) => r.xs) (n + 1) d').size ≤ cur.size := by rw [Sort.size_flatK, hp1]; exact hsz
  obtain ⟨p1, p2⟩ := putCells_take (Sort.flatK (fun r : SRow HP (n + 1) => r.xs) (n + 1) d') cur hF
  refine ⟨rfl, d'.toList, Sort.putCells id 0 (Sort.flatK (fun r : SRow HP (n + 1) => r.xs) (n + 1) d') cur, ?_, ?_, ?_, p2, ?_, ?_⟩
  · have e1 : d'.extract 0 ds.length = d' := by rw [← hp1]; exact Array.extract_size
    have e2 : ds.toArray.extract 0 ds.length = ds.toArray := by simp
    rw [e1, e2] at hp
    simpa using hp
  · rw [List.pairwise_iff_getElem]
    intro i j hi hj hij
    have hj' : j < d'.size := by simpa using hj
    have := hs i j (Nat.zero_le _) hij (by omega)
    rw [ltS, getElem!_pos d' i (by omega), getElem!_pos d' j hj'] at this
    simpa using this
  · show (Sort.grow (Sort.putRow id (Sort.ahead w m) gb 0 (Sort.flatK (fun r : SRow HP (n + 1) => r.xs) (n + 1) d')) os).heap[gb]? = _
    rw [Sort.heap_grow_old _ _ (by simpa using hg)]
    show (w.heap.modify gb (Sort.onCells _))[gb]? = _
    rw [Array.getElem?_modify, if_pos rfl, hh]
    rfl
  · rw [show ds.length * (n + 1) = (Sort.flatK (fun r : SRow HP (n + 1) => r.xs) (n + 1) d').size by rw [Sort.size_flatK, hp1], p1, flatK_rows n rfl]
  · refine ⟨rfl, rfl, rfl, ?_, fun b hb hne => ?_⟩
    · show w.heap.size ≤ (Sort.grow (Sort.putRow id (Sort.ahead w m) gb 0 _) os).heap.size
      rw [Sort.size_grow, Sort.size_putRow, Sort.heap_ahead]; omega
    · show (Sort.grow (Sort.putRow id (Sort.ahead w m) gb 0 (Sort.flatK (fun r : SRow HP (n + 1) => r.xs) (n + 1) d')) os).heap[b]? = _
      rw [Sort.heap_grow_old _ _ (by simpa using hb)]
      show (w.heap.modify gb (Sort.onCells _))[b]? = _
      rw [Array.getElem?_modify, if_neg (fun e => hne (by rw [e]))]
theorem key_sort {α β : Type} {ka : α → Int} {kb : β → Int} {l l' : List α} {d d' : List β} (hk : d.map kb = l.map ka) (hp : l'.Perm l) (hs : l'.Pairwise fun x y => ka x < ka y) (hq : d'.Perm d) (ht : d'.Pairwise fun x y => kb x ≤ kb y) : d'.map kb = l'.map ka :=
  List.Perm.eq_of_pairwise (le := fun x y : Int => x ≤ y) (fun a b _ _ h1 h2 => by omega) (by rw [List.pairwise_map]; exact ht) (by rw [List.pairwise_map]; exact hs.imp fun h => by omega) ((hq.map kb).trans (by rw [hk]; exact (hp.map ka).symm))
set_option maxHeartbeats 1000000 in
/-- slices.SortFunc, where the first integers are all different. -/
theorem sort_hs {HP : List Value → Int → Prop} {n : Nat} (inh : Inhabited (SRow HP (n + 1))) {P : Program} {ρ : Ren} (L : SlLaysF0.n6 P ρ) {f fc E g : Nat} (hf : ρ.f 6 = f) (hfn : FnOK P f) (aE : ∀ w, (isAgg (ρ.t 24)).run P w = .ok true w) (zE : ∀ w, (Go.sizeOf (ρ.t 24)).run P w = .ok (n + 1) w) (eg : ∀ args w, (callFunc fc args).run P w = .ok (.enter fc args) w)
    (hcmp : ∀ (x y : SRow HP (n + 1)) (W : World), Calls P fc #[.agg x.xs.toArray, .agg y.xs.toArray] W fun e w' => e = .returned (.int .i64 (cfS x y)) ∧ ∃ q os', w' = Sort.grow (W.drewN q) os')
    {α : Type} (enc : α → List D) (key : α → Int) {l l' : List α} (hkey : ∀ x ∈ l, ∀ vs : List Value, vs.length = n + 1 → (∀ (j : Nat) (d : D) (v : Value), (enc x)[j]? = some d → vs[j]? = some v → ∃ M w, RepD M w d v) → HP vs (key x)) (hl0 : l ≠ []) (hp : l'.Perm l) (hs : l'.Pairwise fun x y => key x < key y) (hsz : l.length ≤ 1000000) :
    MSpec P f [.own 0 g, .d (.clo fc [])] [.row E (n + 1) g (dRows (l.map enc))] (.d (.tup [])) [.row E (n + 1) g (dRows (l'.map enc))] := by
  refine ⟨hfn, Nat.le_refl _, by simp [belowL, belowP], by simp [belowH, belowC, belowR_d], fun X hP hn hm w c vs hr hps => ?_⟩
  have hlen := hps.1
  match vs, hlen with
  | [v0, v1], _ =>
    have r0 := hps.2 0 _ v0 rfl rfl
    have r1 := repD_inv (hps.2 1 _ v1 rfl rfl)
    have hne : dRows (l.map enc) ≠ [] := by simpa [dRows] using hl0
    have hck := hr.chunk 0
    cases r0 with
    | own _ _ _ hov h1 =>
      obtain ⟨gb, cap, rfl⟩ := own_some hck hov hne
      obtain ⟨cur, xs, q1, q2, q3, q4, q5, q6, q7, q8, q9, q10, q11⟩ := row_cells hck hov hne
      have hxone := RepPs.one q2 (fun d hd => by obtain ⟨r, hr, hd⟩ := List.mem_flatten.1 hd; exact q6 r hr d hd)
      have hln : (dRows (l.map enc)).length = l.length := by rw [dRows_len, List.length_map]
      rw [hln] at q3 q4 q8 q10 hov ⊢
      have hv1 : v1 = .func (.func fc) #[] #[] := by
        cases r1 with
        | clo _ _ vs hl hrep =>
          have : vs = [] := by simpa using hl.symm
          subst this
          rfl
      subst hv1
      have hxs : cur.toList.take (l.length * (n + 1)) = xs := by
        apply List.ext_getElem?
        intro j
        by_cases hj : j < l.length * (n + 1)
        · rw [List.getElem?_take_of_lt hj, Array.getElem?_toList, q4 j hj]
        · rw [List.getElem?_eq_none (by rw [List.length_take]; omega), List.getElem?_eq_none (by omega)]
      -- the rows, as values
      obtain ⟨ds, hdl, hds⟩ := pick_list (Q := fun i (r : SRow HP (n + 1)) => r.xs = (xs.drop (i * (n + 1))).take (n + 1) ∧ ∃ x, l[i]? = some x ∧ r.key = key x) l.length fun i hi => by
        have hb : (i + 1) * (n + 1) ≤ l.length * (n + 1) := Nat.mul_le_mul_right _ hi
        rw [Nat.succ_mul] at hb
        obtain ⟨x, hx⟩ : ∃ x, l[i]? = some x := ⟨_, List.getElem?_eq_getElem hi⟩
        have hxl : ((xs.drop (i * (n + 1))).take (n + 1)).length = n + 1 := by rw [List.length_take, List.length_drop]; omega
        have h0 : HP ((xs.drop (i * (n + 1))).take (n + 1)) (key x) := hkey x (List.mem_of_getElem? hx) _ hxl fun j d v hd hv => by
          have hj : j < n + 1 := by rw [← hxl]; exact (List.getElem?_eq_some_iff.1 hv).1
          rw [List.getElem?_take_of_lt hj, List.getElem?_drop] at hv
          have hfl := flatten_atG q5 i j hj
          rw [dRows_get, List.getElem?_map, hx] at hfl
          simp only [Option.map_some, Option.bind_some, List.getElem?_map, hd] at hfl
          exact ⟨_, _, repD_inv (q2.2 _ _ v hfl hv)⟩
        exact ⟨⟨(xs.drop (i * (n + 1))).take (n + 1), hxl, fun v hv => hxone v (List.mem_of_mem_drop (List.mem_of_mem_take hv)), key x, h0⟩, rfl, x, hx, rfl⟩
      have hdrow : ∀ r ∈ ds.map (·.xs), r.length = n + 1 := fun r hr => by obtain ⟨x, -, rfl⟩ := List.mem_map.1 hr; exact x.len
      have hflat : (ds.map (·.xs)).flatten = xs := by
        apply List.ext_getElem?
        intro t
        by_cases ht : t < l.length * (n + 1)
        · have h1 : t / (n + 1) < l.length := Nat.div_lt_of_lt_mul (by rw [Nat.mul_comm]; exact ht)
          have h2 : t % (n + 1) < n + 1 := Nat.mod_lt _ (by omega)
          have h3 : t / (n + 1) * (n + 1) + t % (n + 1) = t := by rw [Nat.mul_comm]; exact Nat.div_add_mod t (n + 1)
          generalize t / (n + 1) = i at h1 h3
          generalize t % (n + 1) = j at h2 h3
          have h4 := flatten_atG hdrow i j h2
          rw [h3, List.getElem?_map, List.getElem?_eq_getElem (show i < ds.length by omega)] at h4
          rw [h4]
          simp only [Option.map_some, Option.bind_some]
          rw [(hds _ (show i < ds.length by omega)).1, List.getElem?_take_of_lt h2, List.getElem?_drop, h3]
        · rw [List.getElem?_eq_none (by rw [flatten_len hdrow, List.length_map, hdl]; omega), List.getElem?_eq_none (by omega)]
      have hkm : ds.map (·.key) = l.map key := by
        apply List.ext_getElem?
        intro i
        rw [List.getElem?_map, List.getElem?_map]
        by_cases hi : i < l.length
        · obtain ⟨-, x, hx, hk⟩ := hds i (by omega)
          rw [List.getElem?_eq_getElem (by omega), hx]
          simp [hk]
        · rw [List.getElem?_eq_none (show ds.length ≤ i by omega), List.getElem?_eq_none (show l.length ≤ i by omega)]; rfl
      have hcall := sort_raw inh L hf aE zE eg hcmp ds w gb cap cur q1 (by rw [hdl, hxs, hflat]) (by rw [hdl]; exact q8) (by omega)
      rw [hdl] at hcall
      rw [← hP] at hcall
      rw [hP] at hcall
      refine hcall.mono fun e w' ⟨he, ds', cur', hp', hs', hw', hcs, hct, hone⟩ => ?_
      have hkk := key_sort (ka := key) (kb := SRow.key) hkm hp hs hp' hs'
      have hdl' : ds'.length = l.length := by rw [hp'.length_eq, hdl]
      have hll' : l'.length = l.length := hp.length_eq
      have hdrow' : ∀ r ∈ ds'.map (·.xs), r.length = n + 1 := fun r hr => by obtain ⟨x, -, rfl⟩ := List.mem_map.1 hr; exact x.len
      have hin2 : ∀ r ∈ dRows (l'.map enc), r.length = n + 1 := fun r hr => by
        obtain ⟨q, hq, rfl⟩ := dRows_mem hr
        obtain ⟨x, hx, rfl⟩ := List.mem_map.1 hq
        exact q5 _ (List.mem_map.2 ⟨enc x, List.mem_map.2 ⟨x, hp.mem_iff.1 hx, rfl⟩, rfl⟩)
      have hin3 : ∀ r ∈ dRows (l'.map enc), ∀ d ∈ r, d.one = true := fun r hr d hd => by
        obtain ⟨q, hq, rfl⟩ := dRows_mem hr
        obtain ⟨x, hx, rfl⟩ := List.mem_map.1 hq
        exact q6 _ (List.mem_map.2 ⟨enc x, List.mem_map.2 ⟨x, hp.mem_iff.1 hx, rfl⟩, rfl⟩) d hd
      have hnd : ∀ i j (hi : i < l.length) (hj : j < l.length), key l[i] = key l[j] → i = j := by
        have h1 : (l'.map key).Nodup := by
          unfold List.Nodup
          rw [List.pairwise_map]
          exact hs.imp fun h => by omega
        have h2 : (l.map key).Nodup := (hp.map key).nodup_iff.1 h1
        intro i j hi hj h
        rw [List.nodup_iff_pairwise_ne, List.pairwise_iff_getElem] at h2
        rcases Nat.lt_trichotomy i j with hlt | he | hlt
        · exact absurd (by rw [List.getElem_map, List.getElem_map]; exact h) (h2 i j (by simpa using hi) (by simpa using hj) hlt)
        · exact he
        · exact absurd (by rw [List.getElem_map, List.getElem_map]; exact h.symm) (h2 j i (by simpa using hj) (by simpa using hi) hlt)
      have hrep' : RepPs c w (dRows (l'.map enc)).flatten (ds'.map (·.xs)).flatten := by
        refine ⟨by rw [flatten_len hin2, flatten_len hdrow', dRows_len, List.length_map, List.length_map, hdl', hll'], fun t d u ht hu => ?_⟩
        have htl : t < l.length * (n + 1) := by
          have := (List.getElem?_eq_some_iff.1 hu).1
          rw [flatten_len hdrow', List.length_map, hdl'] at this
          exact this
        have h1 : t / (n + 1) < l.length := Nat.div_lt_of_lt_mul (by rw [Nat.mul_comm]; exact htl)
        have h2 : t % (n + 1) < n + 1 := Nat.mod_lt _ (by omega)
        have h3 : t / (n + 1) * (n + 1) + t % (n + 1) = t := by rw [Nat.mul_comm]; exact Nat.div_add_mod t (n + 1)
        generalize t / (n + 1) = i at h1 h3
        generalize t % (n + 1) = j at h2 h3
        have e1 := flatten_atG hin2 (i) (j) h2
        have e2 := flatten_atG hdrow' (i) (j) h2
        rw [h3, dRows_get, List.getElem?_map, List.getElem?_eq_getElem (l := l') (show i < l'.length by omega)] at e1
        rw [h3, List.getElem?_map, List.getElem?_eq_getElem (l := ds') (show i < ds'.length by omega)] at e2
        simp only [Option.map_some, Option.bind_some] at e1 e2
        obtain ⟨p, hpl, hpe⟩ := List.mem_iff_getElem.1 (hp'.mem_iff.1 (List.getElem_mem (show i < ds'.length by omega)))
        obtain ⟨p2, hpl2, hpe2⟩ := List.mem_iff_getElem.1 (hp.mem_iff.1 (List.getElem_mem (show i < l'.length by omega)))
        obtain ⟨g1, x, g2, g3⟩ := hds p hpl
        have hx : l[p]'(by omega) = x := by rw [List.getElem?_eq_getElem (by omega)] at g2; exact Option.some.inj g2
        have hkey2 : (ds'[i]'(by omega)).key = key (l'[i]'(by omega)) := by
          have := congrArg (fun z : List Int => z[i]?) hkk
          simp only [List.getElem?_map] at this
          rw [List.getElem?_eq_getElem (by omega), List.getElem?_eq_getElem (by omega)] at this
          exact Option.some.inj this
        have hpp : p = p2 := hnd p p2 (by omega) hpl2 (by rw [hpe2, ← hkey2, ← hpe, g3, hx])
        subst hpp
        rw [← hpe2, hx] at e1
        rw [← hpe, g1, List.getElem?_take_of_lt h2, List.getElem?_drop] at e2
        have e3 := flatten_atG q5 p (j) h2
        rw [dRows_get, List.getElem?_map, g2] at e3
        simp only [Option.map_some, Option.bind_some] at e3
        rw [← e3] at e1
        rw [e1] at ht
        rw [e2] at hu
        exact q2.2 _ d u ht hu
      have hcap : 0 < cap := by have := List.length_pos_iff.2 hl0; omega
      have hput := hr.put_row (w' := w') (k := 0) (rows' := dRows (l'.map enc)) (xs' := (ds'.map (·.xs)).flatten) rfl hov (by rw [ownB_pos hcap]; exact hone) (by
        rw [dRows_len, List.length_map, hll']
        exact .row gb l.length cap cur' _ hcap hw' q10 q9 (by rw [hcs]; exact q11) (by rw [flatten_len hdrow', List.length_map, hdl']) hct) hrep' hin2 hin3
      have hfun : effH [(0, Chunk.row E (n + 1) g (dRows (l'.map enc)))] (mkF [] [.row E (n + 1) g (dRows (l.map enc))]).heap = hatL [.row E (n + 1) g (dRows (l'.map enc))] := by
        funext k
        rw [effH1]
        cases k with
        | zero => rfl
        | succ k => rfl
      rw [hfun] at hput
      refine ⟨_, c, he, .d _ _ (.tup [] [] rfl fun j d x h => by simp at h), hput⟩
/-- Where the key is the first cell. -/
theorem sort_ms {n : Nat} {P : Program} {ρ : Ren} (L : SlLaysF0.n6 P ρ) {f fc E g : Nat} (hf : ρ.f 6 = f) (hfn : FnOK P f) (aE : ∀ w, (isAgg (ρ.t 24)).run P w = .ok true w) (zE : ∀ w, (Go.sizeOf (ρ.t 24)).run P w = .ok (n + 1) w) (eg : ∀ args w, (callFunc fc args).run P w = .ok (.enter fc args) w)
    (hcmp : ∀ (x y : SRow HP0 (n + 1)) (W : World), Calls P fc #[.agg x.xs.toArray, .agg y.xs.toArray] W fun e w' => e = .returned (.int .i64 (cfS x y)) ∧ ∃ q os', w' = Sort.grow (W.drewN q) os')
    {α : Type} (enc : α → List D) (key : α → Int) (hkey : ∀ x, (enc x)[0]? = some (.v (.int .i64 (key x)))) {l l' : List α} (hl0 : l ≠ []) (hp : l'.Perm l) (hs : l'.Pairwise fun x y => key x < key y) (hsz : l.length ≤ 1000000) :
    MSpec P f [.own 0 g, .d (.clo fc [])] [.row E (n + 1) g (dRows (l.map enc))] (.d (.tup [])) [.row E (n + 1) g (dRows (l'.map enc))] :=
  sort_hs (srow_inh n) L hf hfn aE zE eg hcmp enc key (fun x _ vs hl hr => by
    obtain ⟨v, hv⟩ : ∃ v, vs[0]? = some v := ⟨_, List.getElem?_eq_getElem (by omega)⟩
    obtain ⟨M, w, h⟩ := hr 0 _ v (hkey x) hv
    show vs[0]? = _
    rw [hv]
    cases h
    rfl) hl0 hp hs hsz
end Go.Proofs.Ytinnohljknmolaa
namespace Go.Proofs.Ytinnohljknmolaa
open Go Go.RowKit Go.Proofs Go.Shelf
set_option maxRecDepth 100000
theorem isNaN_any (a : Int) (W : World) : Calls Try.prog 37 #[.int .i64 a] W fun e w' => e = .returned (.bool false) ∧ w' = W := by
  go_enter Try.func37, Try.ntmps37
  go_wp2_with fail
  go_ret
  exact ⟨ret_bool (by simp), rfl⟩
theorem compare_any (a b : Int) (W : World) : Calls Try.prog 18 #[.int .i64 a, .int .i64 b] W fun e w' => e = .returned (.int .i64 (cmpI a b)) ∧ w' = W := by
  by_cases h : a < b
  · have e : cmpI a b = -1 := by simp [cmpI, h]
    rw [e]
    go_enter Try.func18, Try.ntmps18
    go_wp2_with fail
    refine (isNaN_any a _).mono ?_
    rintro e w1 ⟨rfl, rfl⟩
    go_wp2_with fail
    refine (isNaN_any b _).mono ?_
    rintro e w1 ⟨rfl, rfl⟩
    go_wp2_with fail
    go_ret
    exact ⟨ret_int rfl, rfl⟩
  · by_cases h2 : b < a
    · have e : cmpI a b = 1 := by simp [cmpI, h, h2]
      rw [e]
      go_enter Try.func18, Try.ntmps18
      go_wp2_with fail
      refine (isNaN_any a _).mono ?_
      rintro e w1 ⟨rfl, rfl⟩
      go_wp2_with fail
      refine (isNaN_any b _).mono ?_
      rintro e w1 ⟨rfl, rfl⟩
      go_wp2_with fail
      go_ret
      exact ⟨ret_int rfl, rfl⟩
    · have e : cmpI a b = 0 := by simp [cmpI, h, h2]
      rw [e]
      go_enter Try.func18, Try.ntmps18
      go_wp2_with fail
      refine (isNaN_any a _).mono ?_
      rintro e w1 ⟨rfl, rfl⟩
      go_wp2_with fail
      refine (isNaN_any b _).mono ?_
      rintro e w1 ⟨rfl, rfl⟩
      go_wp2_with fail
      go_ret
      exact ⟨ret_int rfl, rfl⟩
end Go.Proofs.Ytinnohljknmolaa
namespace Go.Proofs.Ytinnohljknmolaa
open Go Go.RowKit Go.Proofs Go.Shelf
set_option maxRecDepth 100000
theorem own_none {k E sz g : Nat} {c : Cx} {w : World} {v : Value} (hck : ChunkOK c w k (.row E sz g [])) (hov : c.ov k g = some v) : ∃ p cap, v = .slice p 0 cap := by
  cases hck with
  | row _ _ _ _ u xs hu hown hr hsz h1 hg =>
    rw [hov] at hu
    cases hu
    generalize hn : ([] : List (List PV)).length = n' at hown
    cases hown with
    | nil => exact ⟨_, _, rfl⟩
    | zero a => exact ⟨_, _, rfl⟩
    | row b n cap => simp at hn; subst hn; exact ⟨_, _, rfl⟩
theorem sort_no {P : Program} {ρ : Ren} (L : SlLaysF0.n6 P ρ) {f fc E sz g : Nat} (hf : ρ.f 6 = f) (hfn : FnOK P f) : MSpec P f [.own 0 g, .d (.clo fc [])] [.row E sz g []] (.d (.tup [])) [.row E sz g []] := by
  refine ⟨hfn, Nat.le_refl _, by simp [belowL, belowP], by simp [belowH, belowC, belowR], fun X hP hn hm w c vs hr hps => ?_⟩
  have hlen := hps.1
  match vs, hlen with
  | [v0, v1], _ =>
    have r0 := hps.2 0 _ v0 rfl rfl
    cases r0 with
    | own _ _ _ hov h1 =>
      obtain ⟨p, cap, rfl⟩ := own_none (hr.chunk 0) hov
      have hcall := AnyF.slices_SortFunc_none L p cap v1 w
      rw [hf] at hcall
      refine hcall.mono fun e w' ⟨he, hw⟩ => ?_
      rw [hw]
      exact ⟨_, c, he, .d _ _ (.tup [] [] rfl fun j d x h => by simp at h), hr⟩
theorem cl_Route (x y : SRow HP0 3) (W : World) : Calls Try.prog 17 #[.agg x.xs.toArray, .agg y.xs.toArray] W fun e w' => e = .returned (.int .i64 (cfS x y)) ∧ ∃ q os', w' = Sort.grow (W.drewN q) os' := by
  obtain ⟨xs, xl, x1, a, xh⟩ := x
  obtain ⟨ys, yl, y1, b, yh⟩ := y
  match xs, xl, ys, yl with
  | [u0, u1, u2], _, [v0, v1, v2], _ =>
    simp [HP0] at xh yh
    subst xh
    subst yh
    have hc := compare_any a b
    unfold cfS
    simp only
    generalize cmpI a b = r at *
    replace hc := Lib.hid hc
    clear x1 y1
    go_enter Try.func17, Try.ntmps17
    go_wp2_with fail
    refine (hc.out _).mono ?_
    rintro e w1 ⟨rfl, rfl⟩
    go_wp2_with fail
    go_ret
    exact ⟨ret_int rfl, 0, _, by rw [Sort.alloc_eq_grow, Sort.alloc_eq_grow, Sort.grow_grow]; rfl⟩
theorem sort_Route {l l' : List Rte} (g : Nat) (hl0 : l ≠ []) (hp : l'.Perm l) (hs : l'.Pairwise fun x y => (fun r : Rte => r.at_.at_) x < (fun r : Rte => r.at_.at_) y) (hsz : l.length ≤ 1000000) :
    MSpec Try.prog 16 [.own 0 g, .d (.clo 17 [])] [.row 36 3 g (dRows (l.map encRo))] (.d (.tup [])) [.row 36 3 g (dRows (l'.map encRo))] :=
  sort_ms Try.sortRoute rfl (fnok_of Try.func16 (by kernel_rfl) rfl) Try.isAgg36 Try.sizeOf36 (enters_of Try.func17 (by kernel_rfl) rfl) cl_Route encRo (fun r : Rte => r.at_.at_) (fun _ => rfl) hl0 hp hs hsz
theorem sort_noRoute (g : Nat) : MSpec Try.prog 16 [.own 0 g, .d (.clo 17 [])] [.row 36 3 g (dRows [])] (.d (.tup [])) [.row 36 3 g (dRows [])] :=
  sort_no Try.sortRoute rfl (fnok_of Try.func16 (by kernel_rfl) rfl)
end Go.Proofs.Ytinnohljknmolaa
namespace Go.Proofs.Ytinnohljknmolaa
open Go Go.RowKit
/-- A group's networks. -/
def grpN (n : Net) (id : Int) : List Int := (n.vpcs.filter fun v => headN n v.id == headN n id).map (·.id)
def groupN (n : Net) (id : Int) : List Int × Int := if chkT n ≠ 0 then ([], chkT n) else if findN n id = none then ([], 5) else (grpN n id, 0)
set_option maxRecDepth 100000 in
set_option maxHeartbeats 1000000 in
theorem ngroup_p (n : Net) (id : Int) : PSpec Try.prog 15 [.agg (encT n), .v (.int .i64 id)] (.tup [.sl 1 ((groupN n id).1.map encA), .v (.int .i64 (groupN n id).2)]) := by
  obtain ⟨R, hR⟩ : ∃ R, R = groupN n id := ⟨_, rfl⟩
  rw [← hR]
  replace hR := Lib.hid hR
  have hck := ncheck_p n
  by_cases hc : chkT n = 0
  · have hok := netOK.1 hc
    have hfd := nfindB_m n id (by have := hok.n6; omega) hok.rise
    have hR2 : R = if findN n id = none then ([], 5) else (grpN n id, 0) := by rw [hR.out]; unfold groupN; rw [if_neg (by simpa using hc)]
    rw [hc] at hck
    cases hf : findN n id with
    | none =>
      rw [hf] at hfd hR2
      have hr : R = ([], 5) := by rw [hR2]; rfl
      rw [hr]
      clear hr hR2 hok
      replace hf := Lib.hid hf
      replace hc := Lib.hid hc
      refine ps_i tab_ok mixed Try.func15 rfl Try.ntmps15 Try.results15 (by kernel_rfl) ?_
      repeat' (first | (with_reducible refine And.intro ?_ ?_) | (with_reducible refine gK_i (fun _ => ?_) (fun _ => ?_)) | (with_reducible refine condS_i (fun _ => ?_) (fun _ => ?_)) | (with_reducible refine drw_i (by kernel_rfl)) | simp -dsimp only [go_sem, seval, *, encT, findNP, findND, undef] | ((with_reducible refine opK_c ?_); simp -dsimp only [go_sem, seval, encT, findNP, findND, undef]; first | refine callK_r (by first | assumption | exact hck) (by first | exact .inl rfl | exact .inr rfl) ?_ | (refine callK_i (by assumption) ?_ ?_ ?_; (solve | (repeat (first | exact DLe.refl _ | exact DLe.nil _ | (refine DLe.tup ?_) | (refine DLe.agg ?_ rfl) | exact trivial | (refine And.intro ?_ ?_)))); (solve | exact .inl rfl | exact .inr rfl))) | (refine opK_M [0] (hfd) ?_ ?_ ?_ ?_ ?_ ?_; (solve | rfl | simp only [go_sem, seval, encT, findNP, findND]); (solve | rfl); (solve | decide); (solve | simp); (solve | simp only [go_sem, seval, lentOK, encT, findNP, findND])) | omega | exact decide_eq_true (by omega) | exact DLe.refl _)
      all_goals exact (by repeat (first | exact DLe.refl _ | exact DLe.nil _ | (refine DLe.tup ?_) | (refine DLe.agg ?_ rfl) | exact trivial | (refine And.intro ?_ ?_)))
    | some w =>
      rw [hf] at hfd hR2
      have hr : R = (grpN n id, 0) := by rw [hR2]; rfl
      rw [hr]
      have hof := ofB_m n (by have := hok.n6; omega) (by have := hok.n12; omega) hok.ids
      have hg : ∀ x ∈ n.vpcs.map (·.id), ∃ k, HeadIs (stN n).1 k x (headN n x) := fun x hx => by
        have := (grp_k hok.ids n.links.length x (by exact hx)).1
        rwa [List.take_length] at this
      obtain ⟨nv, hhv⟩ := hg id (find_ids (by rw [hf]; rfl))
      have h6 := hok.n6
      have hgr : ∀ k, (List.take k n.vpcs).filter (fun v => headN n v.id == headN n id) = (List.take k n.vpcs).filter (fun v => headN n v.id == headN n id) := fun _ => rfl
      clear hr hR2 hok
      replace hf := Lib.hid hf
      replace hc := Lib.hid hc
      replace hg := Lib.hid hg
      unfold grpN
      generalize (stN n).1 = E at *
      have hmi := head_m E nv id (headN n id) hhv
      clear hhv hgr
      refine ps_i tab_ok mixed Try.func15 rfl Try.ntmps15 Try.results15 (by kernel_rfl) ?_
      repeat' (first | (with_reducible refine And.intro ?_ ?_) | (with_reducible refine gK_i (fun _ => ?_) (fun _ => ?_)) | (with_reducible refine condS_i (fun _ => ?_) (fun _ => ?_)) | (with_reducible refine drw_i (by kernel_rfl)) | simp -dsimp only [go_sem, seval, *, encT, findNP, findND, undef] | ((with_reducible refine opK_c ?_); simp -dsimp only [go_sem, seval, encT, findNP, findND, undef]; first | refine callK_r (by first | assumption | exact hck) (by first | exact .inl rfl | exact .inr rfl) ?_ | (refine callK_i (by assumption) ?_ ?_ ?_; (solve | (repeat (first | exact DLe.refl _ | exact DLe.nil _ | (refine DLe.tup ?_) | (refine DLe.agg ?_ rfl) | exact trivial | (refine And.intro ?_ ?_)))); (solve | exact .inl rfl | exact .inr rfl))) | (refine opK_M [0] (hfd) ?_ ?_ ?_ ?_ ?_ ?_; (solve | rfl | simp only [go_sem, seval, encT, findNP, findND]); (solve | rfl); (solve | decide); (solve | simp); (solve | simp only [go_sem, seval, lentOK, encT, findNP, findND])) | (refine opK_M [0] (hof) ?_ ?_ ?_ ?_ ?_ ?_; (solve | rfl | simp only [go_sem, seval, encT]); (solve | rfl); (solve | decide); (solve | simp); (solve | simp only [go_sem, seval, lentOK, encT])) | omega | exact decide_eq_true (by omega) | exact DLe.refl _)
      clear hof hfd hck
      refine loopG tab_ok mixed (fun m e h => ∃ (k g : Nat), k ≤ n.vpcs.length ∧ m = n.vpcs.length - k ∧ e = [(29, .d (.v (.int .i64 k))), (28, .d (.v (.int .i64 n.vpcs.length))), (27, .d (.sl 3 (n.vpcs.map encV))), (10, .own 2 g), (9, .mref 1), (4, .d (.v (.slice none 0 0))), (1, .d (.v (.int .i64 id)))] ∧
        h = [.gone, .mp 1 false E, .row 3 1 g (dRows ((((n.vpcs.take k).filter fun v => headN n v.id == headN n id).map (·.id)).map encA))]) _ _ _ ⟨0, 0, Nat.zero_le _, rfl, rfl, rfl⟩ ?_ ?_
      · refine (weak_gone 0 (by simp)).trans ((weak_adopt (by simp [setC]) 10 3 1 rfl).trans ?_)
        exact weak_forget _ (by simp) (by rfl) (by (repeat' (first | exact trivial | (refine ⟨rfl, ?_⟩)))) (by first | rfl | simp only [belowH, belowE, belowC, belowL, belowR, belowP, belowL_d, belowR_d, belowR_zipG, subRow, faceRow, List.length_cons, List.length_nil, Nat.reduceAdd, Nat.reduceLT, decide_true, Bool.and_self, Bool.and_true]) (by first | rfl | simp only [belowH, belowE, belowC, belowL, belowR, belowP, belowL_d, belowR_d, belowR_zipG, subRow, faceRow, List.length_cons, List.length_nil, Nat.reduceAdd, Nat.reduceLT, decide_true, Bool.and_self, Bool.and_true])
      rintro m e h ⟨k, g, hk, hm, rfl, rfl⟩ C hC
      by_cases hlt : k < n.vpcs.length
      · have hkI : (k : Int) < (n.vpcs.length : Int) := by omega
        have hwr : IntKind.i64.wrap ((k : Int) + 1) = ((k + 1 : Nat) : Int) := by rw [IntKind.wrap_i64]; omega
        obtain ⟨v, hv⟩ : ∃ v, n.vpcs[k]? = some v := ⟨_, List.getElem?_eq_getElem hlt⟩
        obtain ⟨nw, hhw⟩ := hg.out v.id (List.mem_map.2 ⟨v, List.mem_of_getElem? hv, rfl⟩)
        have hmw := head_m E nw v.id (headN n v.id) hhw
        have hfl : ((n.vpcs.take k).filter fun v => headN n v.id == headN n id).length ≤ k := by
          have := List.length_filter_le (fun v : Vpc => headN n v.id == headN n id) (n.vpcs.take k)
          rw [List.length_take] at this; omega
        have hbd : ((n.vpcs.take k).filter fun v => headN n v.id == headN n id).length + 1 ≤ 100 := by omega
        have hst : (n.vpcs.take (k + 1)).filter (fun v => headN n v.id == headN n id) = (n.vpcs.take k).filter (fun v => headN n v.id == headN n id) ++ if (headN n v.id == headN n id) = true then [v] else [] := by
          rw [take_snoc hv, List.filter_append]
          congr 1
          cases hb : headN n v.id == headN n id <;> simp [hb]
        clear hhw
        replace hst := Lib.hid hst
        replace hfl := Lib.hid hfl
        replace hm := Lib.hid hm
        generalize (n.vpcs.take k).filter (fun v => headN n v.id == headN n id) = L at *
        cases e1 : (headN n v.id == headN n id) with
        | false =>
          rw [e1] at hst
          repeat' (first | (with_reducible refine And.intro ?_ ?_) | (with_reducible refine gK_i (fun _ => ?_) (fun _ => ?_)) | (with_reducible refine condS_i (fun _ => ?_) (fun _ => ?_)) | (with_reducible refine drw_i (by kernel_rfl)) | simp -dsimp only [go_sem, seval, *, encT, encV, hkI, hwr, hv, e1, undef] | ((with_reducible refine opK_c ?_); simp -dsimp only [go_sem, seval, encT, encV, hkI, hwr, hv, e1, undef]; first | refine callK_r (by first | assumption | fail) (by first | exact .inl rfl | exact .inr rfl) ?_ | (refine callK_i (by assumption) ?_ ?_ ?_; (solve | (repeat (first | exact DLe.refl _ | exact DLe.nil _ | (refine DLe.tup ?_) | (refine DLe.agg ?_ rfl) | exact trivial | (refine And.intro ?_ ?_)))); (solve | exact .inl rfl | exact .inr rfl))) | (refine opK_M [1] (hmw) ?_ ?_ ?_ ?_ ?_ ?_; (solve | rfl | simp only [go_sem, seval, encV]); (solve | rfl); (solve | decide); (solve | simp); (solve | simp only [go_sem, seval, lentOK, encV])) | (refine opK_M [1] (hmi) ?_ ?_ ?_ ?_ ?_ ?_; (solve | rfl | simp only [go_sem, seval, encV]); (solve | rfl); (solve | decide); (solve | simp); (solve | simp only [go_sem, seval, lentOK, encV])) | omega | exact decide_eq_true (by omega) | exact DLe.refl _)
          refine hC _ _ _ _ _ ?_ ⟨k + 1, g, hlt, rfl, rfl, rfl⟩ (weak_forget _ (by simp) (by rw [hst.out]; simp only [Bool.false_eq_true, if_false, List.append_nil]; rfl) (by (repeat' (first | exact trivial | (refine ⟨rfl, ?_⟩)))) (by first | rfl | simp only [belowH, belowE, belowC, belowL, belowR, belowP, belowL_d, belowR_d, belowR_zipG, subRow, faceRow, List.length_cons, List.length_nil, Nat.reduceAdd, Nat.reduceLT, decide_true, Bool.and_self, Bool.and_true]) (by first | rfl | simp only [belowH, belowE, belowC, belowL, belowR, belowP, belowL_d, belowR_d, belowR_zipG, subRow, faceRow, List.length_cons, List.length_nil, Nat.reduceAdd, Nat.reduceLT, decide_true, Bool.and_self, Bool.and_true]))
          have := hm.out; omega
        | true =>
          rw [e1] at hst
          repeat' (first | (with_reducible refine And.intro ?_ ?_) | (with_reducible refine gK_i (fun _ => ?_) (fun _ => ?_)) | (with_reducible refine condS_i (fun _ => ?_) (fun _ => ?_)) | (with_reducible refine drw_i (by kernel_rfl)) | simp -dsimp only [go_sem, seval, *, encT, encV, hkI, hwr, hv, e1, hbd, undef] | ((with_reducible refine opK_c ?_); simp -dsimp only [go_sem, seval, encT, encV, hkI, hwr, hv, e1, hbd, undef]; first | refine callK_r (by first | assumption | fail) (by first | exact .inl rfl | exact .inr rfl) ?_ | (refine callK_i (by assumption) ?_ ?_ ?_; (solve | (repeat (first | exact DLe.refl _ | exact DLe.nil _ | (refine DLe.tup ?_) | (refine DLe.agg ?_ rfl) | exact trivial | (refine And.intro ?_ ?_)))); (solve | exact .inl rfl | exact .inr rfl))) | (refine opK_M [1] (hmw) ?_ ?_ ?_ ?_ ?_ ?_; (solve | rfl | simp only [go_sem, seval, encV]); (solve | rfl); (solve | decide); (solve | simp); (solve | simp only [go_sem, seval, lentOK, encV])) | (refine opK_M [1] (hmi) ?_ ?_ ?_ ?_ ?_ ?_; (solve | rfl | simp only [go_sem, seval, encV]); (solve | rfl); (solve | decide); (solve | simp); (solve | simp only [go_sem, seval, lentOK, encV])) | omega | exact decide_eq_true (by omega) | exact DLe.refl _)
          refine hC _ _ _ _ _ ?_ ⟨k + 1, g + 1, hlt, rfl, rfl, rfl⟩ (weak_forget _ (by simp) (by rw [hst.out]; simp only [if_true, List.map_append, List.map_cons, List.map_nil, ← dRows_app]; rfl) (by (repeat' (first | exact trivial | (refine ⟨rfl, ?_⟩)))) (by first | rfl | simp only [belowH, belowE, belowC, belowL, belowR, belowP, belowL_d, belowR_d, belowR_zipG, subRow, faceRow, List.length_cons, List.length_nil, Nat.reduceAdd, Nat.reduceLT, decide_true, Bool.and_self, Bool.and_true]) (by first | rfl | simp only [belowH, belowE, belowC, belowL, belowR, belowP, belowL_d, belowR_d, belowR_zipG, subRow, faceRow, List.length_cons, List.length_nil, Nat.reduceAdd, Nat.reduceLT, decide_true, Bool.and_self, Bool.and_true]))
          have := hm.out; omega
      · obtain rfl : k = n.vpcs.length := by omega
        rw [List.take_length]
        replace hm := Lib.hid hm
        repeat' (first | (with_reducible refine And.intro ?_ ?_) | (with_reducible refine gK_i (fun _ => ?_) (fun _ => ?_)) | (with_reducible refine condS_i (fun _ => ?_) (fun _ => ?_)) | (with_reducible refine drw_i (by kernel_rfl)) | simp -dsimp only [go_sem, seval, *, Int.lt_irrefl, undef] | ((with_reducible refine opK_c ?_); simp -dsimp only [go_sem, seval, Int.lt_irrefl, undef]; first | refine callK_r (by first | assumption | fail) (by first | exact .inl rfl | exact .inr rfl) ?_ | (refine callK_i (by assumption) ?_ ?_ ?_; (solve | (repeat (first | exact DLe.refl _ | exact DLe.nil _ | (refine DLe.tup ?_) | (refine DLe.agg ?_ rfl) | exact trivial | (refine And.intro ?_ ?_)))); (solve | exact .inl rfl | exact .inr rfl))) | fail | omega | exact decide_eq_true (by omega) | exact DLe.refl _)
        all_goals exact (by repeat (first | exact DLe.refl _ | exact DLe.nil _ | (refine DLe.tup ?_) | (refine DLe.agg ?_ rfl) | exact trivial | (refine And.intro ?_ ?_)))
  · have hr : R = ([], chkT n) := by rw [hR.out]; unfold groupN; rw [if_pos hc]
    have h1 : (chkT n != 0) = true := by simpa using hc
    rw [hr]
    replace hr := Lib.hid hr
    refine ps_i tab_ok mixed Try.func15 rfl Try.ntmps15 Try.results15 (by kernel_rfl) ?_
    repeat' (first | (with_reducible refine And.intro ?_ ?_) | (with_reducible refine gK_i (fun _ => ?_) (fun _ => ?_)) | (with_reducible refine condS_i (fun _ => ?_) (fun _ => ?_)) | (with_reducible refine drw_i (by kernel_rfl)) | simp -dsimp only [go_sem, seval, *, encT, h1] | ((with_reducible refine opK_c ?_); simp -dsimp only [go_sem, seval, encT, h1]; first | refine callK_r (by first | assumption | exact hck) (by first | exact .inl rfl | exact .inr rfl) ?_ | (refine callK_i (by assumption) ?_ ?_ ?_; (solve | (repeat (first | exact DLe.refl _ | exact DLe.nil _ | (refine DLe.tup ?_) | (refine DLe.agg ?_ rfl) | exact trivial | (refine And.intro ?_ ?_)))); (solve | exact .inl rfl | exact .inr rfl))) | fail | omega | exact decide_eq_true (by omega) | exact DLe.refl _)
    all_goals exact (by repeat (first | exact DLe.refl _ | exact DLe.nil _ | (refine DLe.tup ?_) | (refine DLe.agg ?_ rfl) | exact trivial | (refine And.intro ?_ ?_)))
end Go.Proofs.Ytinnohljknmolaa
namespace Go.Proofs.Ytinnohljknmolaa
open Go Go.RowKit
/-- Table's answer. -/
def tableN (n : Net) (id : Int) : List Rte × Int := if (groupN n id).2 ≠ 0 then ([], (groupN n id).2) else (tabN n id, 0)
theorem group_ok {n : Net} {id : Int} (h : (groupN n id).2 = 0) : NetOK n ∧ ∃ w, findN n id = some w := by
  unfold groupN at h
  split at h
  · rename_i h1; exact absurd h h1
  · rename_i h1
    split at h
    · cases h
    · rename_i h2
      exact ⟨netOK.1 (by simpa using h1), Option.ne_none_iff_exists'.1 h2⟩
set_option maxRecDepth 100000 in
set_option maxHeartbeats 1000000 in
theorem table_p (n : Net) (id : Int) : PSpec Try.prog 6 [.agg (encT n), .v (.int .i64 id)] (.tup [.sl 3 ((tableN n id).1.map encRo), .v (.int .i64 (tableN n id).2)]) := by
  obtain ⟨R, hR⟩ : ∃ R, R = tableN n id := ⟨_, rfl⟩
  rw [← hR]
  replace hR := Lib.hid hR
  have hgp := ngroup_p n id
  by_cases he : (groupN n id).2 = 0
  · obtain ⟨hok, -⟩ := group_ok he
    have hr : R = (tabN n id, 0) := by rw [hR.out]; unfold tableN; rw [if_neg (by simpa using he)]
    rw [hr]
    rw [he] at hgp
    generalize (groupN n id).1 = G at hgp
    have h12 := hok.n12
    have h6 := hok.n6
    have hw1 : IntKind.i64.wrap 1 = 1 := by decide
    have hrl := rtsN_len hok id n.vpcs.length (Nat.le_refl _)
    clear hr hR he
    replace hok := Lib.hid hok
    refine ps_i tab_ok mixed Try.func6 rfl Try.ntmps6 Try.results6 (by kernel_rfl) ?_
    repeat' (first | (with_reducible refine And.intro ?_ ?_) | (with_reducible refine gK_i (fun _ => ?_) (fun _ => ?_)) | (with_reducible refine condS_i (fun _ => ?_) (fun _ => ?_)) | (with_reducible refine drw_i (by kernel_rfl)) | simp -dsimp only [go_sem, seval, *, encT, hw1, undef] | ((with_reducible refine opK_c ?_); simp -dsimp only [go_sem, seval, encT, hw1, undef]; first | refine callK_r (by first | assumption | exact hgp) (by first | exact .inl rfl | exact .inr rfl) ?_ | (refine callK_i (by assumption) ?_ ?_ ?_; (solve | (repeat (first | exact DLe.refl _ | exact DLe.nil _ | (refine DLe.tup ?_) | (refine DLe.agg ?_ rfl) | exact trivial | (refine And.intro ?_ ?_)))); (solve | exact .inl rfl | exact .inr rfl))) | fail | omega | exact decide_eq_true (by omega) | exact DLe.refl _)
    clear hgp
    refine loopG tab_ok mixed (fun m e h => ∃ (k : Nat) (ents : List (List Int × Int)), k ≤ n.links.length ∧ NearI id n.links k ents ∧ m = n.links.length - k ∧
      e = [(31, .d (.v (.int .i64 k))), (30, .d (.v (.int .i64 n.links.length))), (29, .d (.sl 2 (n.links.map encK))), (8, .mref 1), (4, .d (.v (.slice none 0 0))), (2, .ptr 0 0), (1, .d (.v (.int .i64 id)))] ∧
      h = [.box 25 ((encT n).map .d), .mp 1 false ents]) _ _ _ ⟨0, upE [] [id] 1, Nat.zero_le _, nearI_0 id _, rfl, rfl, rfl⟩ (weak_forget _ (by simp) (by (try simp only [encT]); rfl) (by (repeat' (first | exact trivial | (refine ⟨rfl, ?_⟩)))) (by first | rfl | simp only [belowH, belowE, belowC, belowL, belowR, belowP, belowL_d, belowR_d, List.length_cons, List.length_nil, Nat.reduceAdd, Nat.reduceLT, decide_true, Bool.and_self, Bool.and_true]) (by first | rfl | simp only [belowH, belowE, belowC, belowL, belowR, belowP, belowL_d, belowR_d, List.length_cons, List.length_nil, Nat.reduceAdd, Nat.reduceLT, decide_true, Bool.and_self, Bool.and_true])) ?_
    rintro m e h ⟨k, ents, hk, hN, hm, rfl, rfl⟩ C hC
    by_cases hlt : k < n.links.length
    · have hkI : (k : Int) < (n.links.length : Int) := by omega
      have hwr : IntKind.i64.wrap ((k : Int) + 1) = ((k + 1 : Nat) : Int) := by rw [IntKind.wrap_i64]; omega
      obtain ⟨l, hl⟩ : ∃ l, n.links[k]? = some l := ⟨_, List.getElem?_eq_getElem hlt⟩
      replace hm := Lib.hid hm
      replace hok := Lib.hid hok
      by_cases ht : l.a = id ∨ l.b = id
      · have hN2 := nearI_add hN hl ht
        have hwa : IntKind.i64.wrap ((lkE ents [l.a]).getD 0 + 1) = (lkE ents [l.a]).getD 0 + 1 := by have := hN l.a; rw [IntKind.wrap_i64]; omega
        have hwb : IntKind.i64.wrap ((lkE (upE ents [l.a] ((lkE ents [l.a]).getD 0 + 1)) [l.b]).getD 0 + 1) = (lkE (upE ents [l.a] ((lkE ents [l.a]).getD 0 + 1)) [l.b]).getD 0 + 1 := by
          have h1 := nearU_look ents l.a l.b
          unfold nearU at h1
          have := hN l.b
          rw [h1, IntKind.wrap_i64]
          split <;> omega
        replace hN := Lib.hid hN
        replace hN2 := Lib.hid hN2
        by_cases ha : l.a = id
        · have e1 : (l.a == id) = true := by simpa using ha
          clear ha ht
          repeat' (first | (with_reducible refine And.intro ?_ ?_) | (with_reducible refine gK_i (fun _ => ?_) (fun _ => ?_)) | (with_reducible refine condS_i (fun _ => ?_) (fun _ => ?_)) | (with_reducible refine drw_i (by kernel_rfl)) | simp -dsimp only [go_sem, seval, *, encT, encK, hkI, hwr, hl, e1, hwa, hwb, undef] | ((with_reducible refine opK_c ?_); simp -dsimp only [go_sem, seval, encT, encK, hkI, hwr, hl, e1, hwa, hwb, undef]; first | refine callK_r (by first | assumption | fail) (by first | exact .inl rfl | exact .inr rfl) ?_ | (refine callK_i (by assumption) ?_ ?_ ?_; (solve | (repeat (first | exact DLe.refl _ | exact DLe.nil _ | (refine DLe.tup ?_) | (refine DLe.agg ?_ rfl) | exact trivial | (refine And.intro ?_ ?_)))); (solve | exact .inl rfl | exact .inr rfl))) | fail | omega | exact decide_eq_true (by omega) | exact DLe.refl _)
          refine hC _ _ _ _ _ ?_ ⟨k + 1, nearU (nearU ents l.a) l.b, hlt, hN2.out, rfl, rfl, rfl⟩ (weak_forget _ (by simp) (by (try simp only [encT]); rfl) (by (repeat' (first | exact trivial | (refine ⟨rfl, ?_⟩)))) (by first | rfl | simp only [belowH, belowE, belowC, belowL, belowR, belowP, belowL_d, belowR_d, List.length_cons, List.length_nil, Nat.reduceAdd, Nat.reduceLT, decide_true, Bool.and_self, Bool.and_true]) (by first | rfl | simp only [belowH, belowE, belowC, belowL, belowR, belowP, belowL_d, belowR_d, List.length_cons, List.length_nil, Nat.reduceAdd, Nat.reduceLT, decide_true, Bool.and_self, Bool.and_true]))
          have := hm.out; omega
        · have e1 : (l.a == id) = false := by simpa using ha
          have e2 : (l.b == id) = true := by rcases ht with h | h; exact absurd h ha; simpa using h
          clear ha ht
          repeat' (first | (with_reducible refine And.intro ?_ ?_) | (with_reducible refine gK_i (fun _ => ?_) (fun _ => ?_)) | (with_reducible refine condS_i (fun _ => ?_) (fun _ => ?_)) | (with_reducible refine drw_i (by kernel_rfl)) | simp -dsimp only [go_sem, seval, *, encT, encK, hkI, hwr, hl, e1, e2, hwa, hwb, undef] | ((with_reducible refine opK_c ?_); simp -dsimp only [go_sem, seval, encT, encK, hkI, hwr, hl, e1, e2, hwa, hwb, undef]; first | refine callK_r (by first | assumption | fail) (by first | exact .inl rfl | exact .inr rfl) ?_ | (refine callK_i (by assumption) ?_ ?_ ?_; (solve | (repeat (first | exact DLe.refl _ | exact DLe.nil _ | (refine DLe.tup ?_) | (refine DLe.agg ?_ rfl) | exact trivial | (refine And.intro ?_ ?_)))); (solve | exact .inl rfl | exact .inr rfl))) | fail | omega | exact decide_eq_true (by omega) | exact DLe.refl _)
          refine hC _ _ _ _ _ ?_ ⟨k + 1, nearU (nearU ents l.a) l.b, hlt, hN2.out, rfl, rfl, rfl⟩ (weak_forget _ (by simp) (by (try simp only [encT]); rfl) (by (repeat' (first | exact trivial | (refine ⟨rfl, ?_⟩)))) (by first | rfl | simp only [belowH, belowE, belowC, belowL, belowR, belowP, belowL_d, belowR_d, List.length_cons, List.length_nil, Nat.reduceAdd, Nat.reduceLT, decide_true, Bool.and_self, Bool.and_true]) (by first | rfl | simp only [belowH, belowE, belowC, belowL, belowR, belowP, belowL_d, belowR_d, List.length_cons, List.length_nil, Nat.reduceAdd, Nat.reduceLT, decide_true, Bool.and_self, Bool.and_true]))
          have := hm.out; omega
      · have hN2 := nearI_skip hN hl (fun h => ht (.inl h)) (fun h => ht (.inr h))
        have e1 : (l.a == id) = false := by simpa using fun h => ht (.inl h)
        have e2 : (l.b == id) = false := by simpa using fun h => ht (.inr h)
        clear ht
        replace hN := Lib.hid hN
        replace hN2 := Lib.hid hN2
        repeat' (first | (with_reducible refine And.intro ?_ ?_) | (with_reducible refine gK_i (fun _ => ?_) (fun _ => ?_)) | (with_reducible refine condS_i (fun _ => ?_) (fun _ => ?_)) | (with_reducible refine drw_i (by kernel_rfl)) | simp -dsimp only [go_sem, seval, *, encT, encK, hkI, hwr, hl, e1, e2, undef] | ((with_reducible refine opK_c ?_); simp -dsimp only [go_sem, seval, encT, encK, hkI, hwr, hl, e1, e2, undef]; first | refine callK_r (by first | assumption | fail) (by first | exact .inl rfl | exact .inr rfl) ?_ | (refine callK_i (by assumption) ?_ ?_ ?_; (solve | (repeat (first | exact DLe.refl _ | exact DLe.nil _ | (refine DLe.tup ?_) | (refine DLe.agg ?_ rfl) | exact trivial | (refine And.intro ?_ ?_)))); (solve | exact .inl rfl | exact .inr rfl))) | fail | omega | exact decide_eq_true (by omega) | exact DLe.refl _)
        refine hC _ _ _ _ _ ?_ ⟨k + 1, ents, hlt, hN2.out, rfl, rfl, rfl⟩ (weak_forget _ (by simp) (by (try simp only [encT]); rfl) (by (repeat' (first | exact trivial | (refine ⟨rfl, ?_⟩)))) (by first | rfl | simp only [belowH, belowE, belowC, belowL, belowR, belowP, belowL_d, belowR_d, List.length_cons, List.length_nil, Nat.reduceAdd, Nat.reduceLT, decide_true, Bool.and_self, Bool.and_true]) (by first | rfl | simp only [belowH, belowE, belowC, belowL, belowR, belowP, belowL_d, belowR_d, List.length_cons, List.length_nil, Nat.reduceAdd, Nat.reduceLT, decide_true, Bool.and_self, Bool.and_true]))
        have := hm.out; omega
    · obtain rfl : k = n.links.length := by omega
      replace hm := Lib.hid hm
      have hne := nearI_end hok.out hN
      replace hN := Lib.hid hN
      replace hne := Lib.hid hne
      repeat' (first | (with_reducible refine And.intro ?_ ?_) | (with_reducible refine gK_i (fun _ => ?_) (fun _ => ?_)) | (with_reducible refine condS_i (fun _ => ?_) (fun _ => ?_)) | (with_reducible refine drw_i (by kernel_rfl)) | simp -dsimp only [go_sem, seval, *, encT, Int.lt_irrefl, undef] | ((with_reducible refine opK_c ?_); simp -dsimp only [go_sem, seval, encT, Int.lt_irrefl, undef]; first | refine callK_r (by first | assumption | fail) (by first | exact .inl rfl | exact .inr rfl) ?_ | (refine callK_i (by assumption) ?_ ?_ ?_; (solve | (repeat (first | exact DLe.refl _ | exact DLe.nil _ | (refine DLe.tup ?_) | (refine DLe.agg ?_ rfl) | exact trivial | (refine And.intro ?_ ?_)))); (solve | exact .inl rfl | exact .inr rfl))) | fail | omega | exact decide_eq_true (by omega) | exact DLe.refl _)
      refine loopG tab_ok mixed (fun m e h => ∃ (k g : Nat), k ≤ n.vpcs.length ∧ m = n.vpcs.length - k ∧ e = [(59, .d (.v (.int .i64 k))), (58, .d (.v (.int .i64 n.vpcs.length))), (57, .d (.sl 3 (n.vpcs.map encV))), (11, .own 2 g), (8, .mref 1), (4, .d (.v (.slice none 0 0)))] ∧
        h = [.gone, .mp 1 false ents, .row 36 3 g (dRows ((rtsN n id k).map encRo))]) _ _ _ ⟨0, 0, Nat.zero_le _, rfl, rfl, rfl⟩ ?_ ?_
      · refine (weak_gone 0 (by simp)).trans ((weak_adopt (by simp [setC]) 11 36 3 rfl).trans ?_)
        exact weak_forget _ (by simp) (by rfl) (by (repeat' (first | exact trivial | (refine ⟨rfl, ?_⟩)))) (by first | rfl | simp only [belowH, belowE, belowC, belowL, belowR, belowP, belowL_d, belowR_d, belowR_zipG, subRow, faceRow, List.length_cons, List.length_nil, Nat.reduceAdd, Nat.reduceLT, decide_true, Bool.and_self, Bool.and_true]) (by first | rfl | simp only [belowH, belowE, belowC, belowL, belowR, belowP, belowL_d, belowR_d, belowR_zipG, subRow, faceRow, List.length_cons, List.length_nil, Nat.reduceAdd, Nat.reduceLT, decide_true, Bool.and_self, Bool.and_true])
      rintro m e h ⟨k, g, hk, hm, rfl, rfl⟩ C hC
      by_cases hlt : k < n.vpcs.length
      · have hkI : (k : Int) < (n.vpcs.length : Int) := by omega
        have hwr : IntKind.i64.wrap ((k : Int) + 1) = ((k + 1 : Nat) : Int) := by rw [IntKind.wrap_i64]; omega
        obtain ⟨v, hv⟩ : ∃ v, n.vpcs[k]? = some v := ⟨_, List.getElem?_eq_getElem hlt⟩
        have hsn := rtsN_snoc (id := id) hv
        have hlk := rtsN_len hok.out id k (by omega)
        have hv4 := (vpcOK_of (hok.out.vp v (List.mem_of_getElem? hv))).n4
        have e1 := hne.out v
        replace hm := Lib.hid hm
        cases e2 : nearN n id v with
        | false =>
          rw [e2] at e1 hsn
          replace hsn := Lib.hid hsn
          generalize rtsN n id k = L at *
          repeat' (first | (with_reducible refine And.intro ?_ ?_) | (with_reducible refine gK_i (fun _ => ?_) (fun _ => ?_)) | (with_reducible refine condS_i (fun _ => ?_) (fun _ => ?_)) | (with_reducible refine drw_i (by kernel_rfl)) | simp -dsimp only [go_sem, seval, *, encT, encV, hkI, hwr, hv, e1, undef] | ((with_reducible refine opK_c ?_); simp -dsimp only [go_sem, seval, encT, encV, hkI, hwr, hv, e1, undef]; first | refine callK_r (by first | assumption | fail) (by first | exact .inl rfl | exact .inr rfl) ?_ | (refine callK_i (by assumption) ?_ ?_ ?_; (solve | (repeat (first | exact DLe.refl _ | exact DLe.nil _ | (refine DLe.tup ?_) | (refine DLe.agg ?_ rfl) | exact trivial | (refine And.intro ?_ ?_)))); (solve | exact .inl rfl | exact .inr rfl))) | fail | omega | exact decide_eq_true (by omega) | exact DLe.refl _)
          refine hC _ _ _ _ _ ?_ ⟨k + 1, g, hlt, rfl, rfl, rfl⟩ (weak_forget _ (by simp) (by rw [hsn.out]; rfl) (by (repeat' (first | exact trivial | (refine ⟨rfl, ?_⟩)))) (by first | rfl | simp only [belowH, belowE, belowC, belowL, belowR, belowP, belowL_d, belowR_d, belowR_zipG, subRow, faceRow, List.length_cons, List.length_nil, Nat.reduceAdd, Nat.reduceLT, decide_true, Bool.and_self, Bool.and_true]) (by first | rfl | simp only [belowH, belowE, belowC, belowL, belowR, belowP, belowL_d, belowR_d, belowR_zipG, subRow, faceRow, List.length_cons, List.length_nil, Nat.reduceAdd, Nat.reduceLT, decide_true, Bool.and_self, Bool.and_true]))
          have := hm.out; omega
        | true =>
          rw [e2, if_pos rfl] at hsn
          rw [e2] at e1
          replace hsn := Lib.hid hsn
          generalize rtsN n id k = L at *
          repeat' (first | (with_reducible refine And.intro ?_ ?_) | (with_reducible refine gK_i (fun _ => ?_) (fun _ => ?_)) | (with_reducible refine condS_i (fun _ => ?_) (fun _ => ?_)) | (with_reducible refine drw_i (by kernel_rfl)) | simp -dsimp only [go_sem, seval, *, encT, encV, hkI, hv, e1, undef] | ((with_reducible refine opK_c ?_); simp -dsimp only [go_sem, seval, encT, encV, hkI, hv, e1, undef]; first | refine callK_r (by first | assumption | fail) (by first | exact .inl rfl | exact .inr rfl) ?_ | (refine callK_i (by assumption) ?_ ?_ ?_; (solve | (repeat (first | exact DLe.refl _ | exact DLe.nil _ | (refine DLe.tup ?_) | (refine DLe.agg ?_ rfl) | exact trivial | (refine And.intro ?_ ?_)))); (solve | exact .inl rfl | exact .inr rfl))) | fail | omega | exact decide_eq_true (by omega) | exact DLe.refl _)
          refine loopG tab_ok mixed (fun m e h => ∃ (j g : Nat), j ≤ v.ranges.length ∧ m = v.ranges.length - j ∧ e = [(71, .d (.v (.int .i64 j))), (70, .d (.v (.int .i64 v.ranges.length))), (69, .d (.sl 3 (v.ranges.map encG))), (59, .d (.v (.int .i64 k))), (58, .d (.v (.int .i64 n.vpcs.length))), (57, .d (.sl 3 (n.vpcs.map encV))), (13, .ptr 3 0), (11, .own 2 g), (8, .mref 1), (4, .d (.v (.slice none 0 0)))] ∧
            h = [.gone, .mp 1 false ents, .row 36 3 g (dRows ((L ++ (rtsV v).take j).map encRo)), .box 47 ((encV v).map .d)]) _ _ _ ⟨0, g, Nat.zero_le _, rfl, rfl, rfl⟩ (weak_forget _ (by simp) (by rw [List.take_zero (l := rtsV v), List.append_nil L]; rfl) (by (repeat' (first | exact trivial | (refine ⟨rfl, ?_⟩)))) (by first | rfl | simp only [belowH, belowE, belowC, belowL, belowR, belowP, belowL_d, belowR_d, belowR_zipG, subRow, faceRow, List.length_cons, List.length_nil, Nat.reduceAdd, Nat.reduceLT, decide_true, Bool.and_self, Bool.and_true]) (by first | rfl | simp only [belowH, belowE, belowC, belowL, belowR, belowP, belowL_d, belowR_d, belowR_zipG, subRow, faceRow, List.length_cons, List.length_nil, Nat.reduceAdd, Nat.reduceLT, decide_true, Bool.and_self, Bool.and_true])) ?_
          rintro m2 e h ⟨j, g2, hj, hm2, rfl, rfl⟩ C2 hC2
          by_cases hlj : j < v.ranges.length
          · have hjI : (j : Int) < (v.ranges.length : Int) := by omega
            have hwj : IntKind.i64.wrap ((j : Int) + 1) = ((j + 1 : Nat) : Int) := by rw [IntKind.wrap_i64]; omega
            obtain ⟨r, hr⟩ : ∃ r, v.ranges[j]? = some r := ⟨_, List.getElem?_eq_getElem hlj⟩
            have hbd : (L ++ (rtsV v).take j).length + 1 ≤ 100 := by rw [List.length_append, List.length_take, rtsV_len]; omega
            have hst : L ++ (rtsV v).take (j + 1) = (L ++ (rtsV v).take j) ++ [⟨r.at_, v.id⟩] := by
              rw [List.append_assoc]; congr 1
              exact take_snoc (by unfold rtsV; rw [List.getElem?_map, hr]; rfl)
            replace hm2 := Lib.hid hm2
            replace hst := Lib.hid hst
            generalize L ++ (rtsV v).take j = L2 at *
            repeat' (first | (with_reducible refine And.intro ?_ ?_) | (with_reducible refine gK_i (fun _ => ?_) (fun _ => ?_)) | (with_reducible refine condS_i (fun _ => ?_) (fun _ => ?_)) | (with_reducible refine drw_i (by kernel_rfl)) | simp -dsimp only [go_sem, seval, *, encV, encG, encP, hjI, hwj, hr, hbd, undef] | ((with_reducible refine opK_c ?_); simp -dsimp only [go_sem, seval, encV, encG, encP, hjI, hwj, hr, hbd, undef]; first | refine callK_r (by first | assumption | fail) (by first | exact .inl rfl | exact .inr rfl) ?_ | (refine callK_i (by assumption) ?_ ?_ ?_; (solve | (repeat (first | exact DLe.refl _ | exact DLe.nil _ | (refine DLe.tup ?_) | (refine DLe.agg ?_ rfl) | exact trivial | (refine And.intro ?_ ?_)))); (solve | exact .inl rfl | exact .inr rfl))) | fail | omega | exact decide_eq_true (by omega) | exact DLe.refl _)
            refine hC2 _ _ _ _ _ ?_ ⟨j + 1, g2 + 1, hlj, rfl, rfl, rfl⟩ (weak_forget _ (by simp) (by rw [hst.out]; simp only [List.map_append, List.map_cons, List.map_nil, ← dRows_app]; rfl) (by (repeat' (first | exact trivial | (refine ⟨rfl, ?_⟩)))) (by first | rfl | simp only [belowH, belowE, belowC, belowL, belowR, belowP, belowL_d, belowR_d, belowR_zipG, subRow, faceRow, List.length_cons, List.length_nil, Nat.reduceAdd, Nat.reduceLT, decide_true, Bool.and_self, Bool.and_true]) (by first | rfl | simp only [belowH, belowE, belowC, belowL, belowR, belowP, belowL_d, belowR_d, belowR_zipG, subRow, faceRow, List.length_cons, List.length_nil, Nat.reduceAdd, Nat.reduceLT, decide_true, Bool.and_self, Bool.and_true]))
            have := hm2.out; omega
          · obtain rfl : j = v.ranges.length := by omega
            rw [← rtsV_len, List.take_length]
            replace hm2 := Lib.hid hm2
            repeat' (first | (with_reducible refine And.intro ?_ ?_) | (with_reducible refine gK_i (fun _ => ?_) (fun _ => ?_)) | (with_reducible refine condS_i (fun _ => ?_) (fun _ => ?_)) | (with_reducible refine drw_i (by kernel_rfl)) | simp -dsimp only [go_sem, seval, *, hwr, rtsV_len, Int.lt_irrefl, undef] | ((with_reducible refine opK_c ?_); simp -dsimp only [go_sem, seval, hwr, rtsV_len, Int.lt_irrefl, undef]; first | refine callK_r (by first | assumption | fail) (by first | exact .inl rfl | exact .inr rfl) ?_ | (refine callK_i (by assumption) ?_ ?_ ?_; (solve | (repeat (first | exact DLe.refl _ | exact DLe.nil _ | (refine DLe.tup ?_) | (refine DLe.agg ?_ rfl) | exact trivial | (refine And.intro ?_ ?_)))); (solve | exact .inl rfl | exact .inr rfl))) | fail | omega | exact decide_eq_true (by omega) | exact DLe.refl _)
            refine hC _ _ _ _ _ ?_ ⟨k + 1, g2, hlt, rfl, rfl, rfl⟩ (weak_forget _ (by simp) (by rw [hsn.out]; rfl) (by (repeat' (first | exact trivial | (refine ⟨rfl, ?_⟩)))) (by first | rfl | simp only [belowH, belowE, belowC, belowL, belowR, belowP, belowL_d, belowR_d, belowR_zipG, subRow, faceRow, List.length_cons, List.length_nil, Nat.reduceAdd, Nat.reduceLT, decide_true, Bool.and_self, Bool.and_true]) (by first | rfl | simp only [belowH, belowE, belowC, belowL, belowR, belowP, belowL_d, belowR_d, belowR_zipG, subRow, faceRow, List.length_cons, List.length_nil, Nat.reduceAdd, Nat.reduceLT, decide_true, Bool.and_self, Bool.and_true]))
            have := hm.out; omega
      · obtain rfl : k = n.vpcs.length := by omega
        replace hm := Lib.hid hm
        by_cases hem : rtsN n id n.vpcs.length = []
        · have hso := sort_noRoute g
          have ht : tabN n id = [] := by unfold tabN; rw [hem]; rfl
          rw [ht, hem]
          replace ht := Lib.hid ht
          replace hem := Lib.hid hem
          repeat' (first | (with_reducible refine And.intro ?_ ?_) | (with_reducible refine gK_i (fun _ => ?_) (fun _ => ?_)) | (with_reducible refine condS_i (fun _ => ?_) (fun _ => ?_)) | (with_reducible refine drw_i (by kernel_rfl)) | simp -dsimp only [go_sem, seval, *, Int.lt_irrefl, undef] | ((with_reducible refine opK_c ?_); simp -dsimp only [go_sem, seval, Int.lt_irrefl, undef]; first | refine callK_r (by first | assumption | fail) (by first | exact .inl rfl | exact .inr rfl) ?_ | (refine callK_i (by assumption) ?_ ?_ ?_; (solve | (repeat (first | exact DLe.refl _ | exact DLe.nil _ | (refine DLe.tup ?_) | (refine DLe.agg ?_ rfl) | exact trivial | (refine And.intro ?_ ?_)))); (solve | exact .inl rfl | exact .inr rfl))) | (refine opK_M [2] (hso) ?_ ?_ ?_ ?_ ?_ ?_; (solve | rfl | simp only [go_sem, seval, encRo]); (solve | rfl); (solve | decide); (solve | simp); (solve | simp only [go_sem, seval, lentOK, encRo])) | omega | exact decide_eq_true (by omega) | exact DLe.refl _)
          all_goals exact (by repeat (first | exact DLe.refl _ | exact DLe.nil _ | (refine DLe.tup ?_) | (refine DLe.agg ?_ rfl) | exact trivial | (refine And.intro ?_ ?_)))
        · have hso := sort_Route (l' := tabN n id) g hem (sortR_perm _) (sortR_sorted (rtsN_keys hok.out id (Nat.le_refl _))) (by omega)
          replace hem := Lib.hid hem
          replace hrl := Lib.hid hrl
          generalize tabN n id = T at *
          generalize rtsN n id n.vpcs.length = L at *
          repeat' (first | (with_reducible refine And.intro ?_ ?_) | (with_reducible refine gK_i (fun _ => ?_) (fun _ => ?_)) | (with_reducible refine condS_i (fun _ => ?_) (fun _ => ?_)) | (with_reducible refine drw_i (by kernel_rfl)) | simp -dsimp only [go_sem, seval, *, Int.lt_irrefl, undef] | ((with_reducible refine opK_c ?_); simp -dsimp only [go_sem, seval, Int.lt_irrefl, undef]; first | refine callK_r (by first | assumption | fail) (by first | exact .inl rfl | exact .inr rfl) ?_ | (refine callK_i (by assumption) ?_ ?_ ?_; (solve | (repeat (first | exact DLe.refl _ | exact DLe.nil _ | (refine DLe.tup ?_) | (refine DLe.agg ?_ rfl) | exact trivial | (refine And.intro ?_ ?_)))); (solve | exact .inl rfl | exact .inr rfl))) | (refine opK_M [2] (hso) ?_ ?_ ?_ ?_ ?_ ?_; (solve | rfl | simp only [go_sem, seval, encRo]); (solve | rfl); (solve | decide); (solve | simp); (solve | simp only [go_sem, seval, lentOK, encRo])) | omega | exact decide_eq_true (by omega) | exact DLe.refl _)
          all_goals exact (by repeat (first | exact DLe.refl _ | exact DLe.nil _ | (refine DLe.tup ?_) | (refine DLe.agg ?_ rfl) | exact trivial | (refine And.intro ?_ ?_)))
  · have hr : R = ([], (groupN n id).2) := by rw [hR.out]; unfold tableN; rw [if_pos he]
    have h1 : ((groupN n id).2 != 0) = true := by simpa using he
    rw [hr]
    generalize groupN n id = GG at *
    replace hr := Lib.hid hr
    replace he := Lib.hid he
    replace hR := Lib.hid hR
    refine ps_i tab_ok mixed Try.func6 rfl Try.ntmps6 Try.results6 (by kernel_rfl) ?_
    repeat' (first | (with_reducible refine And.intro ?_ ?_) | (with_reducible refine gK_i (fun _ => ?_) (fun _ => ?_)) | (with_reducible refine condS_i (fun _ => ?_) (fun _ => ?_)) | (with_reducible refine drw_i (by kernel_rfl)) | simp -dsimp only [go_sem, seval, *, encT, h1, undef] | ((with_reducible refine opK_c ?_); simp -dsimp only [go_sem, seval, encT, h1, undef]; first | refine callK_r (by first | assumption | exact hgp) (by first | exact .inl rfl | exact .inr rfl) ?_ | (refine callK_i (by assumption) ?_ ?_ ?_; (solve | (repeat (first | exact DLe.refl _ | exact DLe.nil _ | (refine DLe.tup ?_) | (refine DLe.agg ?_ rfl) | exact trivial | (refine And.intro ?_ ?_)))); (solve | exact .inl rfl | exact .inr rfl))) | fail | omega | exact decide_eq_true (by omega) | exact DLe.refl _)
    all_goals exact (by repeat (first | exact DLe.refl _ | exact DLe.nil _ | (refine DLe.tup ?_) | (refine DLe.agg ?_ rfl) | exact trivial | (refine And.intro ?_ ?_)))
end Go.Proofs.Ytinnohljknmolaa
namespace Go.Proofs.Ytinnohljknmolaa
open Go Go.RowKit
set_option maxRecDepth 100000 in
set_option maxHeartbeats 2000000 in
theorem tableR_p (n : Net) (id : Int) (hok : NetOK n) : PSpec Try.prog 9 [.agg (encT n), .v (.int .i64 id)] (.sl 3 ((tabN n id).map encRo)) := by
  have h6 := hok.n6
  have h12 := hok.n12
  replace hok := Lib.hid hok
  refine ps_i tab_ok mixed Try.func9 rfl Try.ntmps9 Try.results9 (by kernel_rfl) ?_
  repeat' (first | (with_reducible refine And.intro ?_ ?_) | (with_reducible refine gK_i (fun _ => ?_) (fun _ => ?_)) | (with_reducible refine condS_i (fun _ => ?_) (fun _ => ?_)) | (with_reducible refine drw_i (by kernel_rfl)) | simp -dsimp only [go_sem, seval, *, encT, undef] | ((with_reducible refine opK_c ?_); simp -dsimp only [go_sem, seval, encT, undef]; first | refine callK_r (by first | assumption | fail) (by first | exact .inl rfl | exact .inr rfl) ?_ | (refine callK_i (by assumption) ?_ ?_ ?_; (solve | (repeat (first | exact DLe.refl _ | exact DLe.nil _ | (refine DLe.tup ?_) | (refine DLe.agg ?_ rfl) | exact trivial | (refine And.intro ?_ ?_)))); (solve | exact .inl rfl | exact .inr rfl))) | fail | omega | exact decide_eq_true (by omega) | exact DLe.refl _)
  refine loopG tab_ok mixed (fun m e h => ∃ (k g : Nat), k ≤ n.vpcs.length ∧ m = n.vpcs.length - k ∧ e = [(6, .d (.v (.int .i64 k))), (5, .own 1 g), (4, .d (.v (.slice none 0 0))), (2, .ptr 0 0), (1, .d (.v (.int .i64 id)))] ∧
    h = [.box 25 ((encT n).map .d), .row 36 3 g (dRows ((sortR (rtsN n id k)).map encRo))]) _ _ _ ⟨0, 0, Nat.zero_le _, rfl, rfl, rfl⟩ ?_ ?_
  · refine (weak_adopt (by simp [setC]) 5 36 3 rfl).trans ?_
    exact weak_forget _ (by simp) (by rfl) (by (repeat' (first | exact trivial | (refine ⟨rfl, ?_⟩)))) (by first | rfl | simp only [belowH, belowE, belowC, belowL, belowR, belowP, belowL_d, belowR_d, belowR_zipG, subRow, faceRow, List.length_cons, List.length_nil, Nat.reduceAdd, Nat.reduceLT, decide_true, Bool.and_self, Bool.and_true]) (by first | rfl | simp only [belowH, belowE, belowC, belowL, belowR, belowP, belowL_d, belowR_d, belowR_zipG, subRow, faceRow, List.length_cons, List.length_nil, Nat.reduceAdd, Nat.reduceLT, decide_true, Bool.and_self, Bool.and_true])
  rintro m e h ⟨k, g, hk, hm, rfl, rfl⟩ C hC
  by_cases hlt : k < n.vpcs.length
  · have hkI : (k : Int) < (n.vpcs.length : Int) := by omega
    have hwr : IntKind.i64.wrap ((k : Int) + 1) = ((k + 1 : Nat) : Int) := by rw [IntKind.wrap_i64]; omega
    obtain ⟨v, hv⟩ : ∃ v, n.vpcs[k]? = some v := ⟨_, List.getElem?_eq_getElem hlt⟩
    have hsn := rtsN_snoc (id := id) hv
    have hlk := rtsN_len hok.out id k (by omega)
    have hv4 := (vpcOK_of (hok.out.vp v (List.mem_of_getElem? hv))).n4
    have hlq := linkedR_p n v.id id (by omega)
    have hkeys := rtsN_keys hok.out id (k := k + 1) hlt
    have e1 : ((v.id != id) && !linkedN n v.id id) = !nearN n id v := by unfold nearN; rw [Bool.not_or]; rfl
    generalize linkedN n v.id id = q at *
    replace hm := Lib.hid hm
    cases e2 : nearN n id v with
    | false =>
      rw [e2] at e1 hsn
      replace hsn := Lib.hid hsn
      obtain ⟨e0, rfl⟩ : (v.id != id) = true ∧ q = false := by revert e1; cases (v.id != id) <;> cases q <;> simp
      clear hkeys e1
      generalize rtsN n id k = L at *
      repeat' (first | (with_reducible refine And.intro ?_ ?_) | (with_reducible refine gK_i (fun _ => ?_) (fun _ => ?_)) | (with_reducible refine condS_i (fun _ => ?_) (fun _ => ?_)) | (with_reducible refine drw_i (by kernel_rfl)) | simp -dsimp only [go_sem, seval, *, encT, encV, hkI, hwr, hv, e0, undef] | ((with_reducible refine opK_c ?_); simp -dsimp only [go_sem, seval, encT, encV, hkI, hwr, hv, e0, undef]; first | refine callK_r (by first | assumption | exact hlq) (by first | exact .inl rfl | exact .inr rfl) ?_ | (refine callK_i (by assumption) ?_ ?_ ?_; (solve | (repeat (first | exact DLe.refl _ | exact DLe.nil _ | (refine DLe.tup ?_) | (refine DLe.agg ?_ rfl) | exact trivial | (refine And.intro ?_ ?_)))); (solve | exact .inl rfl | exact .inr rfl))) | fail | omega | exact decide_eq_true (by omega) | exact DLe.refl _)
      refine hC _ _ _ _ _ ?_ ⟨k + 1, g, hlt, rfl, rfl, rfl⟩ (weak_forget _ (by simp) (by rw [hsn.out]; rfl) (by (repeat' (first | exact trivial | (refine ⟨rfl, ?_⟩)))) (by first | rfl | simp only [belowH, belowE, belowC, belowL, belowR, belowP, belowL_d, belowR_d, belowR_zipG, subRow, faceRow, List.length_cons, List.length_nil, Nat.reduceAdd, Nat.reduceLT, decide_true, Bool.and_self, Bool.and_true]) (by first | rfl | simp only [belowH, belowE, belowC, belowL, belowR, belowP, belowL_d, belowR_d, belowR_zipG, subRow, faceRow, List.length_cons, List.length_nil, Nat.reduceAdd, Nat.reduceLT, decide_true, Bool.and_self, Bool.and_true]))
      have := hm.out; omega
    | true =>
      rw [e2, if_pos rfl] at hsn
      rw [e2] at e1
      rw [hsn] at hkeys
      replace hsn := Lib.hid hsn
      have hcs : (v.id != id) = false ∨ ((v.id != id) = true ∧ q = true) := by revert e1; cases (v.id != id) <;> cases q <;> simp
      clear e1
      generalize rtsN n id k = L at *
      replace hkeys := Lib.hid hkeys
      have hwl : ∀ X : Nat, X ≤ 1000 → IntKind.i64.wrap (((X + 1 : Nat) : Int) - 1) = (X : Int) := fun X h => by rw [IntKind.wrap_i64]; omega
      rcases hcs with e0 | ⟨e0, rfl⟩
      all_goals
        repeat' (first | (with_reducible refine And.intro ?_ ?_) | (with_reducible refine gK_i (fun _ => ?_) (fun _ => ?_)) | (with_reducible refine condS_i (fun _ => ?_) (fun _ => ?_)) | (with_reducible refine drw_i (by kernel_rfl)) | simp -dsimp only [go_sem, seval, *, encT, encV, hkI, hv, e0, undef] | ((with_reducible refine opK_c ?_); simp -dsimp only [go_sem, seval, encT, encV, hkI, hv, e0, undef]; first | refine callK_r (by first | assumption | exact hlq) (by first | exact .inl rfl | exact .inr rfl) ?_ | (refine callK_i (by assumption) ?_ ?_ ?_; (solve | (repeat (first | exact DLe.refl _ | exact DLe.nil _ | (refine DLe.tup ?_) | (refine DLe.agg ?_ rfl) | exact trivial | (refine And.intro ?_ ?_)))); (solve | exact .inl rfl | exact .inr rfl))) | fail | omega | exact decide_eq_true (by omega) | exact DLe.refl _)
        clear hlq
        refine loopG tab_ok mixed (fun m e h => ∃ (j g : Nat), j ≤ v.ranges.length ∧ m = v.ranges.length - j ∧ e = [(8, .d (.v (.int .i64 j))), (7, .ptr 2 0), (6, .d (.v (.int .i64 k))), (5, .own 1 g), (4, .d (.v (.slice none 0 0))), (2, .ptr 0 0), (1, .d (.v (.int .i64 id)))] ∧
          h = [.box 25 ((encT n).map .d), .row 36 3 g (dRows ((sortR (L ++ (rtsV v).take j)).map encRo)), .box 47 ((encV v).map .d)]) _ _ _ ⟨0, g, Nat.zero_le _, rfl, rfl, rfl⟩ (weak_forget _ (by simp) (by rw [List.take_zero (l := rtsV v), List.append_nil L]; rfl) (by (repeat' (first | exact trivial | (refine ⟨rfl, ?_⟩)))) (by first | rfl | simp only [belowH, belowE, belowC, belowL, belowR, belowP, belowL_d, belowR_d, belowR_zipG, subRow, faceRow, List.length_cons, List.length_nil, Nat.reduceAdd, Nat.reduceLT, decide_true, Bool.and_self, Bool.and_true]) (by first | rfl | simp only [belowH, belowE, belowC, belowL, belowR, belowP, belowL_d, belowR_d, belowR_zipG, subRow, faceRow, List.length_cons, List.length_nil, Nat.reduceAdd, Nat.reduceLT, decide_true, Bool.and_self, Bool.and_true])) ?_
        rintro m2 e h ⟨j, g2, hj, hm2, rfl, rfl⟩ C2 hC2
        by_cases hlj : j < v.ranges.length
        · have hjI : (j : Int) < (v.ranges.length : Int) := by omega
          have hwj : IntKind.i64.wrap ((j : Int) + 1) = ((j + 1 : Nat) : Int) := by rw [IntKind.wrap_i64]; omega
          obtain ⟨r, hr⟩ : ∃ r, v.ranges[j]? = some r := ⟨_, List.getElem?_eq_getElem hlj⟩
          have hst : sortR (L ++ (rtsV v).take (j + 1)) = insK (·.at_.at_) ⟨r.at_, v.id⟩ (sortR (L ++ (rtsV v).take j)) := by
            rw [← sortR_snoc, List.append_assoc]; congr 2
            exact take_snoc (by unfold rtsV; rw [List.getElem?_map, hr]; rfl)
          have hsub : (L ++ (rtsV v).take (j + 1)).Pairwise fun a b => a.at_.at_ ≠ b.at_.at_ := hkeys.out.sublist (List.Sublist.append (List.Sublist.refl _) (List.take_sublist _ _))
          have htk : L ++ (rtsV v).take (j + 1) = (L ++ (rtsV v).take j) ++ [⟨r.at_, v.id⟩] := by
            rw [List.append_assoc]; congr 1
            exact take_snoc (by unfold rtsV; rw [List.getElem?_map, hr]; rfl)
          rw [htk, List.pairwise_append] at hsub
          have hso := sortR_sorted hsub.1
          have hnk : ∀ y ∈ sortR (L ++ (rtsV v).take j), y.at_.at_ ≠ r.at_.at_ := fun y hy => hsub.2.2 y ((sortR_perm _).mem_iff.1 hy) ⟨r.at_, v.id⟩ (by simp)
          have hln : (sortR (L ++ (rtsV v).take j)).length ≤ 28 := by
            rw [(sortR_perm _).length_eq, List.length_append, List.length_take, rtsV_len]; omega
          clear hsub htk
          replace hm2 := Lib.hid hm2
          replace hst := Lib.hid hst
          replace hso := Lib.hid hso
          replace hnk := Lib.hid hnk
          generalize sortR (L ++ (rtsV v).take j) = S at *
          have hbd : S.length + 1 ≤ 100 := by omega
          have hwS := hwl S.length (by omega)
          repeat' (first | (with_reducible refine And.intro ?_ ?_) | (with_reducible refine gK_i (fun _ => ?_) (fun _ => ?_)) | (with_reducible refine condS_i (fun _ => ?_) (fun _ => ?_)) | (with_reducible refine drw_i (by kernel_rfl)) | simp -dsimp only [go_sem, seval, *, encV, encG, encP, hjI, hr, hbd, hwS, undef] | ((with_reducible refine opK_c ?_); simp -dsimp only [go_sem, seval, encV, encG, encP, hjI, hr, hbd, hwS, undef]; first | refine callK_r (by first | assumption | fail) (by first | exact .inl rfl | exact .inr rfl) ?_ | (refine callK_i (by assumption) ?_ ?_ ?_; (solve | (repeat (first | exact DLe.refl _ | exact DLe.nil _ | (refine DLe.tup ?_) | (refine DLe.agg ?_ rfl) | exact trivial | (refine And.intro ?_ ?_)))); (solve | exact .inl rfl | exact .inr rfl))) | fail | omega | exact decide_eq_true (by omega) | exact DLe.refl _)
          refine loopG tab_ok mixed (fun m e h => ∃ (q : Nat) (out : List Rte), BubI (fun r : Rte => r.at_.at_) ⟨r.at_, v.id⟩ S q out ∧ out.length = S.length + 1 ∧ m = q ∧ e = [(9, .d (.v (.int .i64 q))), (8, .d (.v (.int .i64 j))), (7, .ptr 2 0), (6, .d (.v (.int .i64 k))), (5, .own 1 (g2 + 1)), (4, .d (.v (.slice none 0 0))), (2, .ptr 0 0), (1, .d (.v (.int .i64 id)))] ∧
            h = [.box 25 ((encT n).map .d), .row 36 3 (g2 + 1) (dRows (out.map encRo)), .box 47 ((encV v).map .d)]) _ _ _ ⟨S.length, S ++ [⟨r.at_, v.id⟩], bub_0, by simp, rfl, rfl, rfl⟩ (weak_forget _ (by simp) (by rw [List.map_append]; rfl) (by (repeat' (first | exact trivial | (refine ⟨rfl, ?_⟩)))) (by first | rfl | simp only [belowH, belowE, belowC, belowL, belowR, belowP, belowL_d, belowR_d, belowR_zipG, subRow, faceRow, List.length_cons, List.length_nil, Nat.reduceAdd, Nat.reduceLT, decide_true, Bool.and_self, Bool.and_true]) (by first | rfl | simp only [belowH, belowE, belowC, belowL, belowR, belowP, belowL_d, belowR_d, belowR_zipG, subRow, faceRow, List.length_cons, List.length_nil, Nat.reduceAdd, Nat.reduceLT, decide_true, Bool.and_self, Bool.and_true])) ?_
          rintro m3 e h ⟨q, out, hbu, hol, hm3, rfl, rfl⟩ C3 hC3
          have hql := hbu.1
          have hx := bub_x hbu
          replace hbu := Lib.hid hbu
          replace hm3 := Lib.hid hm3
          by_cases h0 : 0 < q
          · have hq0 : decide ((q : Int) > 0) = true := by simp; omega
            obtain ⟨y, hy⟩ : ∃ y, S[q - 1]? = some y := ⟨_, List.getElem?_eq_getElem (by omega)⟩
            have hy2 := bub_y hbu.out h0 hy
            have hwm : IntKind.i64.wrap ((q : Int) - 1) = ((q - 1 : Nat) : Int) := by rw [IntKind.wrap_i64]; omega
            have hq2 : q < out.length := by omega
            have hq3 : q - 1 < out.length := by omega
            replace hol := Lib.hid hol
            replace h0 := Lib.hid h0
            replace hy := Lib.hid hy
            cases b5 : decide (y.at_.at_ > r.at_.at_) with
            | true =>
              have hb2 := bub_s hbu.out h0.out hy.out (of_decide_eq_true b5)
              replace hb2 := Lib.hid hb2
              have hsn2 : ∀ X : List PV, ((dRows (out.map encRo)).set (q - 1) X)[q]? = some [.d (.v (.int .i64 r.at_.at_)), .d (.v (.int .i64 r.at_.len)), .d (.v (.int .i64 v.id))] := fun X => by
                rw [List.getElem?_set_ne (by have := h0.out; omega), dRows_get, List.getElem?_map, hx]; rfl
              repeat' (first | (with_reducible refine And.intro ?_ ?_) | (with_reducible refine gK_i (fun _ => ?_) (fun _ => ?_)) | (with_reducible refine condS_i (fun _ => ?_) (fun _ => ?_)) | (with_reducible refine drw_i (by kernel_rfl)) | simp -dsimp only [go_sem, seval, *, encV, encRo, encP, hq0, hx, hy2, hwm, b5, hsn2, undef] | ((with_reducible refine opK_c ?_); simp -dsimp only [go_sem, seval, encV, encRo, encP, hq0, hx, hy2, hwm, b5, hsn2, undef]; first | refine callK_r (by first | assumption | fail) (by first | exact .inl rfl | exact .inr rfl) ?_ | (refine callK_i (by assumption) ?_ ?_ ?_; (solve | (repeat (first | exact DLe.refl _ | exact DLe.nil _ | (refine DLe.tup ?_) | (refine DLe.agg ?_ rfl) | exact trivial | (refine And.intro ?_ ?_)))); (solve | exact .inl rfl | exact .inr rfl))) | fail | omega | exact decide_eq_true (by omega) | exact DLe.refl _)
              refine hC3 _ _ _ _ _ ?_ ⟨q - 1, (out.set (q - 1) ⟨r.at_, v.id⟩).set q y, hb2.out, by rw [List.length_set, List.length_set]; exact hol.out, rfl, rfl, rfl⟩ (weak_forget _ (by simp) (by simp only [List.map_set, dRows]; rfl) (by (repeat' (first | exact trivial | (refine ⟨rfl, ?_⟩)))) (by first | rfl | simp only [belowH, belowE, belowC, belowL, belowR, belowP, belowL_d, belowR_d, belowR_zipG, subRow, faceRow, List.length_cons, List.length_nil, Nat.reduceAdd, Nat.reduceLT, decide_true, Bool.and_self, Bool.and_true]) (by first | rfl | simp only [belowH, belowE, belowC, belowL, belowR, belowP, belowL_d, belowR_d, belowR_zipG, subRow, faceRow, List.length_cons, List.length_nil, Nat.reduceAdd, Nat.reduceLT, decide_true, Bool.and_self, Bool.and_true]))
              have := hm3.out; have := h0.out; omega
            | false =>
              have he := bub_e hbu.out hso.out (fun z _ hz => by
                rw [hy.out] at hz
                rw [← Option.some.inj hz]
                have h1 := hnk.out y (List.mem_of_getElem? hy.out)
                have h2 := of_decide_eq_false b5
                show y.at_.at_ < r.at_.at_; omega)
              have hst2 := hst.out.trans he.symm
              replace hst2 := Lib.hid hst2
              clear he hst
              repeat' (first | (with_reducible refine And.intro ?_ ?_) | (with_reducible refine gK_i (fun _ => ?_) (fun _ => ?_)) | (with_reducible refine condS_i (fun _ => ?_) (fun _ => ?_)) | (with_reducible refine drw_i (by kernel_rfl)) | simp -dsimp only [go_sem, seval, *, encV, encRo, encP, hwj, hq0, hx, hy2, hwm, b5, undef] | ((with_reducible refine opK_c ?_); simp -dsimp only [go_sem, seval, encV, encRo, encP, hwj, hq0, hx, hy2, hwm, b5, undef]; first | refine callK_r (by first | assumption | fail) (by first | exact .inl rfl | exact .inr rfl) ?_ | (refine callK_i (by assumption) ?_ ?_ ?_; (solve | (repeat (first | exact DLe.refl _ | exact DLe.nil _ | (refine DLe.tup ?_) | (refine DLe.agg ?_ rfl) | exact trivial | (refine And.intro ?_ ?_)))); (solve | exact .inl rfl | exact .inr rfl))) | fail | omega | exact decide_eq_true (by omega) | exact DLe.refl _)
              refine hC2 _ _ _ _ _ ?_ ⟨j + 1, g2 + 1, hlj, rfl, rfl, rfl⟩ (weak_forget _ (by simp) (by rw [hst2.out]; rfl) (by (repeat' (first | exact trivial | (refine ⟨rfl, ?_⟩)))) (by first | rfl | simp only [belowH, belowE, belowC, belowL, belowR, belowP, belowL_d, belowR_d, belowR_zipG, subRow, faceRow, List.length_cons, List.length_nil, Nat.reduceAdd, Nat.reduceLT, decide_true, Bool.and_self, Bool.and_true]) (by first | rfl | simp only [belowH, belowE, belowC, belowL, belowR, belowP, belowL_d, belowR_d, belowR_zipG, subRow, faceRow, List.length_cons, List.length_nil, Nat.reduceAdd, Nat.reduceLT, decide_true, Bool.and_self, Bool.and_true]))
              have := hm2.out; omega
          · have hq0 : decide ((q : Int) > 0) = false := by simp; omega
            have he := bub_e hbu.out hso.out (fun z h _ => absurd h h0)
            have hst2 := hst.out.trans he.symm
            replace hst2 := Lib.hid hst2
            clear he hst
            have hq2 : q < out.length := by omega
            replace h0 := Lib.hid h0
            replace hol := Lib.hid hol
            repeat' (first | (with_reducible refine And.intro ?_ ?_) | (with_reducible refine gK_i (fun _ => ?_) (fun _ => ?_)) | (with_reducible refine condS_i (fun _ => ?_) (fun _ => ?_)) | (with_reducible refine drw_i (by kernel_rfl)) | simp -dsimp only [go_sem, seval, *, encV, encRo, encP, hwj, hq0, hx, undef] | ((with_reducible refine opK_c ?_); simp -dsimp only [go_sem, seval, encV, encRo, encP, hwj, hq0, hx, undef]; first | refine callK_r (by first | assumption | fail) (by first | exact .inl rfl | exact .inr rfl) ?_ | (refine callK_i (by assumption) ?_ ?_ ?_; (solve | (repeat (first | exact DLe.refl _ | exact DLe.nil _ | (refine DLe.tup ?_) | (refine DLe.agg ?_ rfl) | exact trivial | (refine And.intro ?_ ?_)))); (solve | exact .inl rfl | exact .inr rfl))) | fail | omega | exact decide_eq_true (by omega) | exact DLe.refl _)
            refine hC2 _ _ _ _ _ ?_ ⟨j + 1, g2 + 1, hlj, rfl, rfl, rfl⟩ (weak_forget _ (by simp) (by rw [hst2.out]; rfl) (by (repeat' (first | exact trivial | (refine ⟨rfl, ?_⟩)))) (by first | rfl | simp only [belowH, belowE, belowC, belowL, belowR, belowP, belowL_d, belowR_d, belowR_zipG, subRow, faceRow, List.length_cons, List.length_nil, Nat.reduceAdd, Nat.reduceLT, decide_true, Bool.and_self, Bool.and_true]) (by first | rfl | simp only [belowH, belowE, belowC, belowL, belowR, belowP, belowL_d, belowR_d, belowR_zipG, subRow, faceRow, List.length_cons, List.length_nil, Nat.reduceAdd, Nat.reduceLT, decide_true, Bool.and_self, Bool.and_true]))
            have := hm2.out; omega
        · obtain rfl : j = v.ranges.length := by omega
          rw [← rtsV_len, List.take_length]
          replace hm2 := Lib.hid hm2
          repeat' (first | (with_reducible refine And.intro ?_ ?_) | (with_reducible refine gK_i (fun _ => ?_) (fun _ => ?_)) | (with_reducible refine condS_i (fun _ => ?_) (fun _ => ?_)) | (with_reducible refine drw_i (by kernel_rfl)) | simp -dsimp only [go_sem, seval, *, encV, hwr, rtsV_len, Int.lt_irrefl, undef] | ((with_reducible refine opK_c ?_); simp -dsimp only [go_sem, seval, encV, hwr, rtsV_len, Int.lt_irrefl, undef]; first | refine callK_r (by first | assumption | fail) (by first | exact .inl rfl | exact .inr rfl) ?_ | (refine callK_i (by assumption) ?_ ?_ ?_; (solve | (repeat (first | exact DLe.refl _ | exact DLe.nil _ | (refine DLe.tup ?_) | (refine DLe.agg ?_ rfl) | exact trivial | (refine And.intro ?_ ?_)))); (solve | exact .inl rfl | exact .inr rfl))) | fail | omega | exact decide_eq_true (by omega) | exact DLe.refl _)
          refine hC _ _ _ _ _ ?_ ⟨k + 1, g2, hlt, rfl, rfl, rfl⟩ (weak_forget _ (by simp) (by rw [hsn.out]; rfl) (by (repeat' (first | exact trivial | (refine ⟨rfl, ?_⟩)))) (by first | rfl | simp only [belowH, belowE, belowC, belowL, belowR, belowP, belowL_d, belowR_d, belowR_zipG, subRow, faceRow, List.length_cons, List.length_nil, Nat.reduceAdd, Nat.reduceLT, decide_true, Bool.and_self, Bool.and_true]) (by first | rfl | simp only [belowH, belowE, belowC, belowL, belowR, belowP, belowL_d, belowR_d, belowR_zipG, subRow, faceRow, List.length_cons, List.length_nil, Nat.reduceAdd, Nat.reduceLT, decide_true, Bool.and_self, Bool.and_true]))
          have := hm.out; omega
  · obtain rfl : k = n.vpcs.length := by omega
    replace hm := Lib.hid hm
    unfold tabN
    generalize sortR (rtsN n id n.vpcs.length) = L at *
    repeat' (first | (with_reducible refine And.intro ?_ ?_) | (with_reducible refine gK_i (fun _ => ?_) (fun _ => ?_)) | (with_reducible refine condS_i (fun _ => ?_) (fun _ => ?_)) | (with_reducible refine drw_i (by kernel_rfl)) | simp -dsimp only [go_sem, seval, *, encT, Int.lt_irrefl, undef] | ((with_reducible refine opK_c ?_); simp -dsimp only [go_sem, seval, encT, Int.lt_irrefl, undef]; first | refine callK_r (by first | assumption | fail) (by first | exact .inl rfl | exact .inr rfl) ?_ | (refine callK_i (by assumption) ?_ ?_ ?_; (solve | (repeat (first | exact DLe.refl _ | exact DLe.nil _ | (refine DLe.tup ?_) | (refine DLe.agg ?_ rfl) | exact trivial | (refine And.intro ?_ ?_)))); (solve | exact .inl rfl | exact .inr rfl))) | fail | omega | exact decide_eq_true (by omega) | exact DLe.refl _)
    all_goals exact (by repeat (first | exact DLe.refl _ | exact DLe.nil _ | (refine DLe.tup ?_) | (refine DLe.agg ?_ rfl) | exact trivial | (refine And.intro ?_ ?_)))
end Go.Proofs.Ytinnohljknmolaa
namespace Go.Proofs.Ytinnohljknmolaa
open Go Go.RowKit
def encBo (b : Bool) : List D := [.v (.bool b)]
theorem bo_repl (n : Nat) (b : Bool) : List.replicate n [PV.d (.v (.bool b))] = dRows ((List.replicate n b).map encBo) := by simp [dRows, encBo, List.map_replicate]
theorem bo_set (l : List Bool) (i : Nat) (b : Bool) : (dRows (l.map encBo)).set i [.d (.v (.bool b))] = dRows ((l.set i b).map encBo) := dRows_setrow encBo l i b
theorem lkB_eq {n : Net} {i k : Nat} {v w : Vpc} (hv : n.vpcs[i]? = some v) (hw : n.vpcs[k]? = some w) : lkB n.links (n.vpcs.map (·.id)) i k = linkedN n v.id w.id := by
  have e1 : (n.vpcs.map (·.id)).getD i 0 = v.id := by simp [List.getD_eq_getElem?_getD, hv]
  have e2 : (n.vpcs.map (·.id)).getD k 0 = w.id := by simp [List.getD_eq_getElem?_getD, hw]
  unfold lkB linkedN
  rw [e1, e2, Bool.eq_iff_iff, decide_eq_true_eq, List.any_eq_true]
  simp
theorem ids_nodup {n : Net} (hr : n.vpcs.Pairwise fun a b => a.id < b.id) : (n.vpcs.map (·.id)).Nodup := by
  unfold List.Nodup
  rw [List.pairwise_map]
  exact hr.imp fun h => by omega
set_option maxRecDepth 100000 in
set_option maxHeartbeats 2000000 in
theorem groupR_p (n : Net) (id : Int) (i0 : Nat) (hx : vpcIx n id = some i0) (h6 : n.vpcs.length ≤ 6) (h12 : n.links.length ≤ 12) (hr : n.vpcs.Pairwise fun a b => a.id < b.id) (hl : ∀ l ∈ n.links, l.a ∈ n.vpcs.map (·.id) ∧ l.b ∈ n.vpcs.map (·.id) ∧ l.a < l.b) :
    PSpec Try.prog 20 [.agg (encT n), .v (.int .i64 id)] (.sl 1 ((grpN n id).map encA)) := by
  obtain ⟨v0, hv0, he0, hi0, hfs⟩ := vpcIx_some hx
  have hat := vpcAt_p n id (by omega)
  rw [vpcAt_ix, hx] at hat
  simp only at hat
  obtain ⟨lk, hlk⟩ : ∃ lk, lk = lkB n.links (n.vpcs.map (·.id)) := ⟨_, rfl⟩
  obtain ⟨l0, hl0⟩ : ∃ l0, l0 = (List.replicate n.vpcs.length false).set i0 true := ⟨_, rfl⟩
  have hll : l0.length = n.vpcs.length := by rw [hl0]; simp
  have hfin : ∀ (k : Nat) (v : Vpc), n.vpcs[k]? = some v → (closeI lk l0 n.vpcs.length)[k]? = some (headN n v.id == headN n id) := fun k v hv => by
    have hk := (List.getElem?_eq_some_iff.1 hv).1
    have h := close_heads (L := n.links) (ids := n.vpcs.map (·.id)) (ids_nodup hr) hl (i := i0) (k := k) (by simpa using hi0) (by simpa using hk)
    have e1 : (n.vpcs.map (·.id)).getD k 0 = v.id := by simp [List.getD_eq_getElem?_getD, hv]
    have e2 : (n.vpcs.map (·.id)).getD i0 0 = id := by simp [List.getD_eq_getElem?_getD, hv0, he0]
    rw [e1, e2, List.length_map, ← hlk, ← hl0, ← headN_eq] at h
    have hk2 : k < (closeI lk l0 n.vpcs.length).length := by rw [gsl_clen, hll]; exact hk
    rw [← h, List.getD_eq_getElem?_getD, List.getElem?_eq_getElem hk2]; rfl
  have hpos : 0 < n.vpcs.length := by omega
  have hposI : 0 < (n.vpcs.length : Int) := by omega
  have hset : (dRows ((List.replicate n.vpcs.length false).map encBo)).set i0 [.d (.v (.bool true))] = dRows (l0.map encBo) := by rw [bo_set, ← hl0]
  have hiI : (0 : Int) ≤ (i0 : Int) := by omega
  have hrp : (List.replicate n.vpcs.length false)[i0]? = some false := by rw [List.getElem?_replicate, if_pos hi0]
  have hgr : grpN n id = (n.vpcs.filter fun v => headN n v.id == headN n id).map (·.id) := rfl
  rw [hgr]
  clear hgr hx hfs hl hr
  replace hfin := Lib.hid hfin
  replace hl0 := Lib.hid hl0
  replace he0 := Lib.hid he0
  replace hlk := Lib.hid hlk
  refine ps_i tab_ok mixed Try.func20 rfl Try.ntmps20 Try.results20 (by kernel_rfl) ?_
  repeat' (first | (with_reducible refine And.intro ?_ ?_) | (with_reducible refine gK_i (fun _ => ?_) (fun _ => ?_)) | (with_reducible refine condS_i (fun _ => ?_) (fun _ => ?_)) | (with_reducible refine drw_i (by kernel_rfl)) | simp -dsimp only [go_sem, seval, *, encT, encBo, hrp, bo_repl, hposI, hi0, hiI, hset, List.length_replicate] | ((with_reducible refine opK_c ?_); simp -dsimp only [go_sem, seval, encT, encBo, hrp, bo_repl, hposI, hi0, hiI, hset, List.length_replicate]; first | refine callK_r (by first | assumption | exact hat) (by first | exact .inl rfl | exact .inr rfl) ?_ | (refine callK_i (by assumption) ?_ ?_ ?_; (solve | (repeat (first | exact DLe.refl _ | exact DLe.nil _ | (refine DLe.tup ?_) | (refine DLe.agg ?_ rfl) | exact trivial | (refine And.intro ?_ ?_)))); (solve | exact .inl rfl | exact .inr rfl))) | fail | omega | exact decide_eq_true (by omega) | exact DLe.refl _)
  clear hat hset hv0 hrp
  refine loopN tab_ok mixed n.vpcs.length (fun _ => True) (fun t => [(6, .d (.v (.int .i64 t))), (5, .own 1 0), (4, .d (.v (.slice none 0 0))), (2, .ptr 0 0)])
    (fun t => [.box 25 ((encT n).map .d), .row 4 1 0 (dRows ((closeI lk l0 t).map encBo))]) trivial (weak_forget _ (by simp) (by (try simp only [encT]); rfl) (by (repeat' (first | exact trivial | (refine ⟨rfl, ?_⟩)))) (by first | rfl | simp only [belowH, belowE, belowC, belowL, belowR, belowP, belowL_d, belowR_d, List.length_cons, List.length_nil, Nat.reduceAdd, Nat.reduceLT, decide_true, Bool.and_self, Bool.and_true]) (by first | rfl | simp only [belowH, belowE, belowC, belowL, belowR, belowP, belowL_d, belowR_d, List.length_cons, List.length_nil, Nat.reduceAdd, Nat.reduceLT, decide_true, Bool.and_self, Bool.and_true])) ?_ ?_
  · intro t ht _ CT hCT
    have htI : (t : Int) < (n.vpcs.length : Int) := by omega
    have hwt : IntKind.i64.wrap ((t : Int) + 1) = ((t + 1 : Nat) : Int) := by rw [IntKind.wrap_i64]; omega
    have hlt := gsl_clen lk l0 t
    rw [hll] at hlt
    have hct : closeI lk l0 (t + 1) = turnI lk (closeI lk l0 t) n.vpcs.length := by show turnI lk (closeI lk l0 t) l0.length = _; rw [hll]
    replace hct := Lib.hid hct
    generalize closeI lk l0 t = A at *
    repeat' (first | (with_reducible refine And.intro ?_ ?_) | (with_reducible refine gK_i (fun _ => ?_) (fun _ => ?_)) | (with_reducible refine condS_i (fun _ => ?_) (fun _ => ?_)) | (with_reducible refine drw_i (by kernel_rfl)) | simp -dsimp only [go_sem, seval, *, encT, htI, hlt] | ((with_reducible refine opK_c ?_); simp -dsimp only [go_sem, seval, encT, htI, hlt]; first | refine callK_r (by first | assumption | fail) (by first | exact .inl rfl | exact .inr rfl) ?_ | (refine callK_i (by assumption) ?_ ?_ ?_; (solve | (repeat (first | exact DLe.refl _ | exact DLe.nil _ | (refine DLe.tup ?_) | (refine DLe.agg ?_ rfl) | exact trivial | (refine And.intro ?_ ?_)))); (solve | exact .inl rfl | exact .inr rfl))) | fail | omega | exact decide_eq_true (by omega) | exact DLe.refl _)
    refine loopN tab_ok mixed n.vpcs.length (fun _ => True) (fun i => [(7, .d (.v (.int .i64 i))), (6, .d (.v (.int .i64 t))), (5, .own 1 0), (4, .d (.v (.slice none 0 0))), (2, .ptr 0 0)])
      (fun i => [.box 25 ((encT n).map .d), .row 4 1 0 (dRows ((turnI lk A i).map encBo))]) trivial (weak_forget _ (by simp) (by (try simp only [encT]); rfl) (by (repeat' (first | exact trivial | (refine ⟨rfl, ?_⟩)))) (by first | rfl | simp only [belowH, belowE, belowC, belowL, belowR, belowP, belowL_d, belowR_d, List.length_cons, List.length_nil, Nat.reduceAdd, Nat.reduceLT, decide_true, Bool.and_self, Bool.and_true]) (by first | rfl | simp only [belowH, belowE, belowC, belowL, belowR, belowP, belowL_d, belowR_d, List.length_cons, List.length_nil, Nat.reduceAdd, Nat.reduceLT, decide_true, Bool.and_self, Bool.and_true])) ?_ ?_
    · intro i hi _ CI hCI
      have hiI2 : (i : Int) < (n.vpcs.length : Int) := by omega
      have hwi : IntKind.i64.wrap ((i : Int) + 1) = ((i + 1 : Nat) : Int) := by rw [IntKind.wrap_i64]; omega
      have hlt2 := gsl_tlen lk A i
      rw [hlt] at hlt2
      have hct2 : turnI lk A (i + 1) = rowI lk (turnI lk A i) i n.vpcs.length := by show rowI lk (turnI lk A i) i A.length = _; rw [hlt]
      replace hct2 := Lib.hid hct2
      obtain ⟨vi, hvi⟩ : ∃ v, n.vpcs[i]? = some v := ⟨_, List.getElem?_eq_getElem hi⟩
      generalize turnI lk A i = B at *
      repeat' (first | (with_reducible refine And.intro ?_ ?_) | (with_reducible refine gK_i (fun _ => ?_) (fun _ => ?_)) | (with_reducible refine condS_i (fun _ => ?_) (fun _ => ?_)) | (with_reducible refine drw_i (by kernel_rfl)) | simp -dsimp only [go_sem, seval, *, encT, hiI2, hlt2] | ((with_reducible refine opK_c ?_); simp -dsimp only [go_sem, seval, encT, hiI2, hlt2]; first | refine callK_r (by first | assumption | fail) (by first | exact .inl rfl | exact .inr rfl) ?_ | (refine callK_i (by assumption) ?_ ?_ ?_; (solve | (repeat (first | exact DLe.refl _ | exact DLe.nil _ | (refine DLe.tup ?_) | (refine DLe.agg ?_ rfl) | exact trivial | (refine And.intro ?_ ?_)))); (solve | exact .inl rfl | exact .inr rfl))) | fail | omega | exact decide_eq_true (by omega) | exact DLe.refl _)
      refine loopN tab_ok mixed n.vpcs.length (fun _ => True) (fun k => [(8, .d (.v (.int .i64 k))), (7, .d (.v (.int .i64 i))), (6, .d (.v (.int .i64 t))), (5, .own 1 0), (4, .d (.v (.slice none 0 0))), (2, .ptr 0 0)])
        (fun k => [.box 25 ((encT n).map .d), .row 4 1 0 (dRows ((rowI lk B i k).map encBo))]) trivial (weak_forget _ (by simp) (by (try simp only [encT]); rfl) (by (repeat' (first | exact trivial | (refine ⟨rfl, ?_⟩)))) (by first | rfl | simp only [belowH, belowE, belowC, belowL, belowR, belowP, belowL_d, belowR_d, List.length_cons, List.length_nil, Nat.reduceAdd, Nat.reduceLT, decide_true, Bool.and_self, Bool.and_true]) (by first | rfl | simp only [belowH, belowE, belowC, belowL, belowR, belowP, belowL_d, belowR_d, List.length_cons, List.length_nil, Nat.reduceAdd, Nat.reduceLT, decide_true, Bool.and_self, Bool.and_true])) ?_ ?_
      · intro k hk _ C hC
        have hkI : (k : Int) < (n.vpcs.length : Int) := by omega
        have hwk : IntKind.i64.wrap ((k : Int) + 1) = ((k + 1 : Nat) : Int) := by rw [IntKind.wrap_i64]; omega
        have hlt3 := gsl_rlen lk B i k
        rw [hlt2] at hlt3
        have hst : rowI lk B i (k + 1) = stepI lk i k (rowI lk B i k) := rfl
        obtain ⟨vk, hvk⟩ : ∃ v, n.vpcs[k]? = some v := ⟨_, List.getElem?_eq_getElem hk⟩
        have hlq := linkedR_p n vi.id vk.id (by omega)
        have hlb : lk i k = linkedN n vi.id vk.id := by rw [hlk.out]; exact lkB_eq hvi hvk
        generalize rowI lk B i k = M at *
        obtain ⟨bk, hbk⟩ : ∃ b, M[k]? = some b := ⟨_, List.getElem?_eq_getElem (by omega)⟩
        obtain ⟨bi, hbi⟩ : ∃ b, M[i]? = some b := ⟨_, List.getElem?_eq_getElem (by omega)⟩
        have hst2 : stepI lk i k M = M.set k (bk || (bi && linkedN n vi.id vk.id)) := by unfold stepI; rw [hlb]; simp [List.getD_eq_getElem?_getD, hbk, hbi]
        generalize linkedN n vi.id vk.id = q at *
        have hrow := fun b => bo_set M k b
        clear hlb
        replace hst := Lib.hid hst
        replace hst2 := Lib.hid hst2
        cases bk with
        | true =>
          repeat' (first | (with_reducible refine And.intro ?_ ?_) | (with_reducible refine gK_i (fun _ => ?_) (fun _ => ?_)) | (with_reducible refine condS_i (fun _ => ?_) (fun _ => ?_)) | (with_reducible refine drw_i (by kernel_rfl)) | simp -dsimp only [go_sem, seval, *, encT, encV, encBo, hkI, hwk, hlt3, hbk, hrow, undef] | ((with_reducible refine opK_c ?_); simp -dsimp only [go_sem, seval, encT, encV, encBo, hkI, hwk, hlt3, hbk, hrow, undef]; first | refine callK_r (by first | assumption | fail) (by first | exact .inl rfl | exact .inr rfl) ?_ | (refine callK_i (by assumption) ?_ ?_ ?_; (solve | (repeat (first | exact DLe.refl _ | exact DLe.nil _ | (refine DLe.tup ?_) | (refine DLe.agg ?_ rfl) | exact trivial | (refine And.intro ?_ ?_)))); (solve | exact .inl rfl | exact .inr rfl))) | fail | omega | exact decide_eq_true (by omega) | exact DLe.refl _)
          refine hC _ _ trivial ?_
          rw [hst.out, hst2.out]
          exact weak_forget _ (by simp) (by rfl) (by (repeat' (first | exact trivial | (refine ⟨rfl, ?_⟩)))) (by first | rfl | simp only [belowH, belowE, belowC, belowL, belowR, belowP, belowL_d, belowR_d, List.length_cons, List.length_nil, Nat.reduceAdd, Nat.reduceLT, decide_true, Bool.and_self, Bool.and_true]) (by first | rfl | simp only [belowH, belowE, belowC, belowL, belowR, belowP, belowL_d, belowR_d, List.length_cons, List.length_nil, Nat.reduceAdd, Nat.reduceLT, decide_true, Bool.and_self, Bool.and_true])
        | false =>
          cases bi with
          | false =>
            repeat' (first | (with_reducible refine And.intro ?_ ?_) | (with_reducible refine gK_i (fun _ => ?_) (fun _ => ?_)) | (with_reducible refine condS_i (fun _ => ?_) (fun _ => ?_)) | (with_reducible refine drw_i (by kernel_rfl)) | simp -dsimp only [go_sem, seval, *, encT, encV, encBo, hkI, hiI2, hwk, hlt3, hbk, hbi, hrow, undef] | ((with_reducible refine opK_c ?_); simp -dsimp only [go_sem, seval, encT, encV, encBo, hkI, hiI2, hwk, hlt3, hbk, hbi, hrow, undef]; first | refine callK_r (by first | assumption | fail) (by first | exact .inl rfl | exact .inr rfl) ?_ | (refine callK_i (by assumption) ?_ ?_ ?_; (solve | (repeat (first | exact DLe.refl _ | exact DLe.nil _ | (refine DLe.tup ?_) | (refine DLe.agg ?_ rfl) | exact trivial | (refine And.intro ?_ ?_)))); (solve | exact .inl rfl | exact .inr rfl))) | fail | omega | exact decide_eq_true (by omega) | exact DLe.refl _)
            refine hC _ _ trivial ?_
            rw [hst.out, hst2.out]
            exact weak_forget _ (by simp) (by rfl) (by (repeat' (first | exact trivial | (refine ⟨rfl, ?_⟩)))) (by first | rfl | simp only [belowH, belowE, belowC, belowL, belowR, belowP, belowL_d, belowR_d, List.length_cons, List.length_nil, Nat.reduceAdd, Nat.reduceLT, decide_true, Bool.and_self, Bool.and_true]) (by first | rfl | simp only [belowH, belowE, belowC, belowL, belowR, belowP, belowL_d, belowR_d, List.length_cons, List.length_nil, Nat.reduceAdd, Nat.reduceLT, decide_true, Bool.and_self, Bool.and_true])
          | true =>
            repeat' (first | (with_reducible refine And.intro ?_ ?_) | (with_reducible refine gK_i (fun _ => ?_) (fun _ => ?_)) | (with_reducible refine condS_i (fun _ => ?_) (fun _ => ?_)) | (with_reducible refine drw_i (by kernel_rfl)) | simp -dsimp only [go_sem, seval, *, encT, encV, encBo, hkI, hiI2, hwk, hlt3, hbk, hbi, hrow, hvi, hvk, undef] | ((with_reducible refine opK_c ?_); simp -dsimp only [go_sem, seval, encT, encV, encBo, hkI, hiI2, hwk, hlt3, hbk, hbi, hrow, hvi, hvk, undef]; first | refine callK_r (by first | assumption | exact hlq) (by first | exact .inl rfl | exact .inr rfl) ?_ | (refine callK_i (by assumption) ?_ ?_ ?_; (solve | (repeat (first | exact DLe.refl _ | exact DLe.nil _ | (refine DLe.tup ?_) | (refine DLe.agg ?_ rfl) | exact trivial | (refine And.intro ?_ ?_)))); (solve | exact .inl rfl | exact .inr rfl))) | fail | omega | exact decide_eq_true (by omega) | exact DLe.refl _)
            refine hC _ _ trivial ?_
            rw [hst.out, hst2.out]
            exact weak_forget _ (by simp) (by rfl) (by (repeat' (first | exact trivial | (refine ⟨rfl, ?_⟩)))) (by first | rfl | simp only [belowH, belowE, belowC, belowL, belowR, belowP, belowL_d, belowR_d, List.length_cons, List.length_nil, Nat.reduceAdd, Nat.reduceLT, decide_true, Bool.and_self, Bool.and_true]) (by first | rfl | simp only [belowH, belowE, belowC, belowL, belowR, belowP, belowL_d, belowR_d, List.length_cons, List.length_nil, Nat.reduceAdd, Nat.reduceLT, decide_true, Bool.and_self, Bool.and_true])
      · intro _ C
        have hlt4 := gsl_rlen lk B i n.vpcs.length
        rw [hlt2] at hlt4
        repeat' (first | (with_reducible refine And.intro ?_ ?_) | (with_reducible refine gK_i (fun _ => ?_) (fun _ => ?_)) | (with_reducible refine condS_i (fun _ => ?_) (fun _ => ?_)) | (with_reducible refine drw_i (by kernel_rfl)) | simp -dsimp only [go_sem, seval, *, encT, hwi, hlt4, Int.lt_irrefl] | ((with_reducible refine opK_c ?_); simp -dsimp only [go_sem, seval, encT, hwi, hlt4, Int.lt_irrefl]; first | refine callK_r (by first | assumption | fail) (by first | exact .inl rfl | exact .inr rfl) ?_ | (refine callK_i (by assumption) ?_ ?_ ?_; (solve | (repeat (first | exact DLe.refl _ | exact DLe.nil _ | (refine DLe.tup ?_) | (refine DLe.agg ?_ rfl) | exact trivial | (refine And.intro ?_ ?_)))); (solve | exact .inl rfl | exact .inr rfl))) | fail | omega | exact decide_eq_true (by omega) | exact DLe.refl _)
        refine hCI _ _ trivial ?_
        rw [hct2.out]
        exact weak_forget _ (by simp) (by (try simp only [encT]); rfl) (by (repeat' (first | exact trivial | (refine ⟨rfl, ?_⟩)))) (by first | rfl | simp only [belowH, belowE, belowC, belowL, belowR, belowP, belowL_d, belowR_d, List.length_cons, List.length_nil, Nat.reduceAdd, Nat.reduceLT, decide_true, Bool.and_self, Bool.and_true]) (by first | rfl | simp only [belowH, belowE, belowC, belowL, belowR, belowP, belowL_d, belowR_d, List.length_cons, List.length_nil, Nat.reduceAdd, Nat.reduceLT, decide_true, Bool.and_self, Bool.and_true])
    · intro _ C
      have hlt4 := gsl_tlen lk A n.vpcs.length
      rw [hlt] at hlt4
      repeat' (first | (with_reducible refine And.intro ?_ ?_) | (with_reducible refine gK_i (fun _ => ?_) (fun _ => ?_)) | (with_reducible refine condS_i (fun _ => ?_) (fun _ => ?_)) | (with_reducible refine drw_i (by kernel_rfl)) | simp -dsimp only [go_sem, seval, *, encT, hwt, hlt4, Int.lt_irrefl] | ((with_reducible refine opK_c ?_); simp -dsimp only [go_sem, seval, encT, hwt, hlt4, Int.lt_irrefl]; first | refine callK_r (by first | assumption | fail) (by first | exact .inl rfl | exact .inr rfl) ?_ | (refine callK_i (by assumption) ?_ ?_ ?_; (solve | (repeat (first | exact DLe.refl _ | exact DLe.nil _ | (refine DLe.tup ?_) | (refine DLe.agg ?_ rfl) | exact trivial | (refine And.intro ?_ ?_)))); (solve | exact .inl rfl | exact .inr rfl))) | fail | omega | exact decide_eq_true (by omega) | exact DLe.refl _)
      refine hCT _ _ trivial ?_
      rw [hct.out]
      exact weak_forget _ (by simp) (by (try simp only [encT]); rfl) (by (repeat' (first | exact trivial | (refine ⟨rfl, ?_⟩)))) (by first | rfl | simp only [belowH, belowE, belowC, belowL, belowR, belowP, belowL_d, belowR_d, List.length_cons, List.length_nil, Nat.reduceAdd, Nat.reduceLT, decide_true, Bool.and_self, Bool.and_true]) (by first | rfl | simp only [belowH, belowE, belowC, belowL, belowR, belowP, belowL_d, belowR_d, List.length_cons, List.length_nil, Nat.reduceAdd, Nat.reduceLT, decide_true, Bool.and_self, Bool.and_true])
  · intro _ C
    have hlt4 := gsl_clen lk l0 n.vpcs.length
    rw [hll] at hlt4
    generalize closeI lk l0 n.vpcs.length = M at *
    repeat' (first | (with_reducible refine And.intro ?_ ?_) | (with_reducible refine gK_i (fun _ => ?_) (fun _ => ?_)) | (with_reducible refine condS_i (fun _ => ?_) (fun _ => ?_)) | (with_reducible refine drw_i (by kernel_rfl)) | simp -dsimp only [go_sem, seval, *, encT, hlt4, Int.lt_irrefl] | ((with_reducible refine opK_c ?_); simp -dsimp only [go_sem, seval, encT, hlt4, Int.lt_irrefl]; first | refine callK_r (by first | assumption | fail) (by first | exact .inl rfl | exact .inr rfl) ?_ | (refine callK_i (by assumption) ?_ ?_ ?_; (solve | (repeat (first | exact DLe.refl _ | exact DLe.nil _ | (refine DLe.tup ?_) | (refine DLe.agg ?_ rfl) | exact trivial | (refine And.intro ?_ ?_)))); (solve | exact .inl rfl | exact .inr rfl))) | fail | omega | exact decide_eq_true (by omega) | exact DLe.refl _)
    refine loopG tab_ok mixed (fun m e h => ∃ (k g : Nat), k ≤ n.vpcs.length ∧ m = n.vpcs.length - k ∧ e = [(10, .d (.v (.int .i64 k))), (9, .own 2 g), (5, .own 1 0), (4, .d (.v (.slice none 0 0))), (2, .ptr 0 0)] ∧
      h = [.box 25 ((encT n).map .d), .row 4 1 0 (dRows (M.map encBo)), .row 3 1 g (dRows ((((n.vpcs.take k).filter fun v => headN n v.id == headN n id).map (·.id)).map encA))]) _ _ _ ⟨0, 0, Nat.zero_le _, rfl, rfl, rfl⟩ ?_ ?_
    · refine (weak_adopt (by simp) 9 3 1 rfl).trans ?_
      exact weak_forget _ (by simp) (by (try simp only [encT]); rfl) (by (repeat' (first | exact trivial | (refine ⟨rfl, ?_⟩)))) (by first | rfl | simp only [belowH, belowE, belowC, belowL, belowR, belowP, belowL_d, belowR_d, List.length_cons, List.length_nil, Nat.reduceAdd, Nat.reduceLT, decide_true, Bool.and_self, Bool.and_true]) (by first | rfl | simp only [belowH, belowE, belowC, belowL, belowR, belowP, belowL_d, belowR_d, List.length_cons, List.length_nil, Nat.reduceAdd, Nat.reduceLT, decide_true, Bool.and_self, Bool.and_true])
    · rintro m e h ⟨k, g, hk, hm, rfl, rfl⟩ C hC
      by_cases hlt : k < n.vpcs.length
      · have hkI : (k : Int) < (n.vpcs.length : Int) := by omega
        have hwr : IntKind.i64.wrap ((k : Int) + 1) = ((k + 1 : Nat) : Int) := by rw [IntKind.wrap_i64]; omega
        obtain ⟨v, hv⟩ : ∃ v, n.vpcs[k]? = some v := ⟨_, List.getElem?_eq_getElem hlt⟩
        have hbk := hfin.out k v hv
        have hfl : ((n.vpcs.take k).filter fun v => headN n v.id == headN n id).length ≤ k := by
          have := List.length_filter_le (fun v : Vpc => headN n v.id == headN n id) (n.vpcs.take k)
          rw [List.length_take] at this; omega
        have hbd : ((n.vpcs.take k).filter fun v => headN n v.id == headN n id).length + 1 ≤ 100 := by omega
        have hst : (n.vpcs.take (k + 1)).filter (fun v => headN n v.id == headN n id) = (n.vpcs.take k).filter (fun v => headN n v.id == headN n id) ++ if (headN n v.id == headN n id) = true then [v] else [] := by
          rw [take_snoc hv, List.filter_append]
          congr 1
          cases hb : headN n v.id == headN n id <;> simp [hb]
        replace hst := Lib.hid hst
        replace hfl := Lib.hid hfl
        replace hm := Lib.hid hm
        generalize (n.vpcs.take k).filter (fun v => headN n v.id == headN n id) = L at *
        cases e1 : (headN n v.id == headN n id) with
        | false =>
          rw [e1] at hst hbk
          repeat' (first | (with_reducible refine And.intro ?_ ?_) | (with_reducible refine gK_i (fun _ => ?_) (fun _ => ?_)) | (with_reducible refine condS_i (fun _ => ?_) (fun _ => ?_)) | (with_reducible refine drw_i (by kernel_rfl)) | simp -dsimp only [go_sem, seval, *, encT, encV, encBo, hkI, hwr, hlt4, hv, hbk, undef] | ((with_reducible refine opK_c ?_); simp -dsimp only [go_sem, seval, encT, encV, encBo, hkI, hwr, hlt4, hv, hbk, undef]; first | refine callK_r (by first | assumption | fail) (by first | exact .inl rfl | exact .inr rfl) ?_ | (refine callK_i (by assumption) ?_ ?_ ?_; (solve | (repeat (first | exact DLe.refl _ | exact DLe.nil _ | (refine DLe.tup ?_) | (refine DLe.agg ?_ rfl) | exact trivial | (refine And.intro ?_ ?_)))); (solve | exact .inl rfl | exact .inr rfl))) | fail | omega | exact decide_eq_true (by omega) | exact DLe.refl _)
          refine hC _ _ _ _ _ ?_ ⟨k + 1, g, hlt, rfl, rfl, rfl⟩ (weak_forget _ (by simp) (by rw [hst.out]; simp only [Bool.false_eq_true, if_false, List.append_nil]; rfl) (by (repeat' (first | exact trivial | (refine ⟨rfl, ?_⟩)))) (by first | rfl | simp only [belowH, belowE, belowC, belowL, belowR, belowP, belowL_d, belowR_d, belowR_zipG, subRow, faceRow, List.length_cons, List.length_nil, Nat.reduceAdd, Nat.reduceLT, decide_true, Bool.and_self, Bool.and_true]) (by first | rfl | simp only [belowH, belowE, belowC, belowL, belowR, belowP, belowL_d, belowR_d, belowR_zipG, subRow, faceRow, List.length_cons, List.length_nil, Nat.reduceAdd, Nat.reduceLT, decide_true, Bool.and_self, Bool.and_true]))
          have := hm.out; omega
        | true =>
          rw [e1] at hst hbk
          repeat' (first | (with_reducible refine And.intro ?_ ?_) | (with_reducible refine gK_i (fun _ => ?_) (fun _ => ?_)) | (with_reducible refine condS_i (fun _ => ?_) (fun _ => ?_)) | (with_reducible refine drw_i (by kernel_rfl)) | simp -dsimp only [go_sem, seval, *, encT, encV, encBo, hkI, hwr, hlt4, hv, hbk, hbd, undef] | ((with_reducible refine opK_c ?_); simp -dsimp only [go_sem, seval, encT, encV, encBo, hkI, hwr, hlt4, hv, hbk, hbd, undef]; first | refine callK_r (by first | assumption | fail) (by first | exact .inl rfl | exact .inr rfl) ?_ | (refine callK_i (by assumption) ?_ ?_ ?_; (solve | (repeat (first | exact DLe.refl _ | exact DLe.nil _ | (refine DLe.tup ?_) | (refine DLe.agg ?_ rfl) | exact trivial | (refine And.intro ?_ ?_)))); (solve | exact .inl rfl | exact .inr rfl))) | fail | omega | exact decide_eq_true (by omega) | exact DLe.refl _)
          refine hC _ _ _ _ _ ?_ ⟨k + 1, g + 1, hlt, rfl, rfl, rfl⟩ (weak_forget _ (by simp) (by rw [hst.out]; simp only [if_true, List.map_append, List.map_cons, List.map_nil, ← dRows_app]; rfl) (by (repeat' (first | exact trivial | (refine ⟨rfl, ?_⟩)))) (by first | rfl | simp only [belowH, belowE, belowC, belowL, belowR, belowP, belowL_d, belowR_d, belowR_zipG, subRow, faceRow, List.length_cons, List.length_nil, Nat.reduceAdd, Nat.reduceLT, decide_true, Bool.and_self, Bool.and_true]) (by first | rfl | simp only [belowH, belowE, belowC, belowL, belowR, belowP, belowL_d, belowR_d, belowR_zipG, subRow, faceRow, List.length_cons, List.length_nil, Nat.reduceAdd, Nat.reduceLT, decide_true, Bool.and_self, Bool.and_true]))
          have := hm.out; omega
      · obtain rfl : k = n.vpcs.length := by omega
        rw [List.take_length]
        replace hm := Lib.hid hm
        repeat' (first | (with_reducible refine And.intro ?_ ?_) | (with_reducible refine gK_i (fun _ => ?_) (fun _ => ?_)) | (with_reducible refine condS_i (fun _ => ?_) (fun _ => ?_)) | (with_reducible refine drw_i (by kernel_rfl)) | simp -dsimp only [go_sem, seval, *, encT, hlt4, Int.lt_irrefl, undef] | ((with_reducible refine opK_c ?_); simp -dsimp only [go_sem, seval, encT, hlt4, Int.lt_irrefl, undef]; first | refine callK_r (by first | assumption | fail) (by first | exact .inl rfl | exact .inr rfl) ?_ | (refine callK_i (by assumption) ?_ ?_ ?_; (solve | (repeat (first | exact DLe.refl _ | exact DLe.nil _ | (refine DLe.tup ?_) | (refine DLe.agg ?_ rfl) | exact trivial | (refine And.intro ?_ ?_)))); (solve | exact .inl rfl | exact .inr rfl))) | fail | omega | exact decide_eq_true (by omega) | exact DLe.refl _)
        all_goals exact (by repeat (first | exact DLe.refl _ | exact DLe.nil _ | (refine DLe.tup ?_) | (refine DLe.agg ?_ rfl) | exact trivial | (refine And.intro ?_ ?_)))
end Go.Proofs.Ytinnohljknmolaa
namespace Go.Proofs.Ytinnohljknmolaa
open Go Go.RowKit
theorem ordK_lt (y l : Lnk) : ordK y l < 0 ↔ y.a < l.a ∨ (y.a = l.a ∧ y.b < l.b) := by
  unfold ordK
  simp only [orI, cmpI]
  repeat' split
  all_goals omega
theorem clashV_comm (v w : Vpc) : clashV v w = clashV w v := by
  have key : ∀ v w : Vpc, clashV v w = true → clashV w v = true := fun v w h => by
    unfold clashV at h ⊢
    obtain ⟨r, hr, h⟩ := List.any_eq_true.1 h
    obtain ⟨q, hq, h⟩ := List.any_eq_true.1 h
    exact List.any_eq_true.2 ⟨q, hq, List.any_eq_true.2 ⟨r, hr, by rw [meets_comm]; exact h⟩⟩
  rw [Bool.eq_iff_iff]
  exact ⟨key v w, key w v⟩
theorem foeN_comm (n : Net) (v w : Vpc) : foeN n v w = foeN n w v := by
  unfold foeN
  rw [clashV_comm v w, Bool.beq_comm]
/-- Two networks at two places that are at war. -/
theorem peace_war {n : Net} {i j : Nat} {v w : Vpc} (hij : i ≠ j) (hv : n.vpcs[i]? = some v) (hw : n.vpcs[j]? = some w) (h : foeN n v w = true) : peaceN n = false := by
  rcases Nat.lt_or_gt_of_ne hij with hlt | hlt
  · exact peace_bad hlt hw hv (by rw [foeN_comm]; exact h)
  · exact peace_bad hlt hv hw h
theorem rise_ne {n : Net} (hr : n.vpcs.Pairwise fun a b => a.id < b.id) {i : Nat} {v w : Vpc} (hv : n.vpcs[i]? = some v) (hw : w ∈ n.vpcs.take i) : w.id ≠ v.id := by
  obtain ⟨j, hj, rfl⟩ := List.mem_iff_getElem.1 hw
  rw [List.getElem_take]
  obtain ⟨hi, rfl⟩ := List.getElem?_eq_some_iff.1 hv
  have := List.pairwise_iff_getElem.1 hr j i (by rw [List.length_take] at hj; omega) hi (by rw [List.length_take] at hj; omega)
  omega
theorem vpcIx_at {n : Net} (hr : n.vpcs.Pairwise fun a b => a.id < b.id) {j : Nat} {w : Vpc} (hw : n.vpcs[j]? = some w) : vpcIx n w.id = some j := by
  unfold vpcIx
  rw [List.findIdx?_eq_some_iff_getElem]
  obtain ⟨hj, rfl⟩ := List.getElem?_eq_some_iff.1 hw
  refine ⟨hj, by simp, fun i hi => ?_⟩
  have := List.pairwise_iff_getElem.1 hr i j (by omega) hj hi
  simp
  omega
/-- Who is in a group. -/
theorem grp_at {n : Net} (hr : n.vpcs.Pairwise fun a b => a.id < b.id) {id x : Int} {k : Nat} (h : (grpN n id)[k]? = some x) : ∃ j w, n.vpcs[j]? = some w ∧ w.id = x ∧ vpcIx n x = some j ∧ headN n x = headN n id := by
  have hm := List.mem_of_getElem? h
  unfold grpN at hm
  obtain ⟨w, hw, rfl⟩ := List.mem_map.1 hm
  rw [List.mem_filter, beq_iff_eq] at hw
  obtain ⟨j, hj⟩ := List.mem_iff_getElem?.1 hw.1
  exact ⟨j, w, hj, rfl, vpcIx_at hr hj, hw.2⟩
theorem grp_mem {n : Net} {id : Int} {w : Vpc} (hw : w ∈ n.vpcs) (h : headN n w.id = headN n id) : w.id ∈ grpN n id := by
  unfold grpN
  exact List.mem_map.2 ⟨w, List.mem_filter.2 ⟨hw, by simpa using h⟩, rfl⟩
theorem grp_len (n : Net) (id : Int) : (grpN n id).length ≤ n.vpcs.length := by
  unfold grpN
  rw [List.length_map]
  exact List.length_filter_le _ _
theorem lnkB_ix {n : Net} (l : Lnk) : lnkB n l = ((vpcIx n l.a).isSome && ((vpcIx n l.b).isSome && decide (l.a < l.b))) := by
  have key : ∀ x, (findN n x).isSome = (vpcIx n x).isSome := fun x => by
    cases h : vpcIx n x with
    | none => rw [vpcIx_none h]; rfl
    | some i => obtain ⟨v, -, -, -, h2⟩ := vpcIx_some h; rw [h2]; rfl
  unfold lnkB
  rw [key, key]
def NetZ (n : Net) : Prop := ∀ v ∈ n.vpcs, v.subs.length ≤ 9223372036854775807 ∧ ∀ s ∈ v.subs, s.faces.length ≤ 9223372036854775807
set_option maxRecDepth 100000 in
set_option maxHeartbeats 4000000 in
theorem checkNet_p (n : Net) (hz : NetZ n) : PSpec Try.prog 7 [.agg (encT n)] (.v (.int .i64 (chkT n))) := by
  obtain ⟨R, hR⟩ : ∃ R, R = chkT n := ⟨_, rfl⟩
  rw [← hR]
  replace hR := Lib.hid hR
  replace hz := Lib.hid hz
  by_cases h6 : n.vpcs.length > 6
  · have h6I : decide ((n.vpcs.length : Int) > 6) = true := by simp; omega
    have hr : R = 2 := by rw [hR.out, chkT, if_pos (.inl h6)]
    rw [hr]
    replace hr := Lib.hid hr
    refine ps_i tab_ok mixed Try.func7 rfl Try.ntmps7 Try.results7 (by kernel_rfl) ?_
    repeat' (first | (with_reducible refine And.intro ?_ ?_) | (with_reducible refine gK_i (fun _ => ?_) (fun _ => ?_)) | (with_reducible refine condS_i (fun _ => ?_) (fun _ => ?_)) | (with_reducible refine drw_i (by kernel_rfl)) | simp -dsimp only [go_sem, seval, *, encT, h6I, undef] | ((with_reducible refine opK_c ?_); simp -dsimp only [go_sem, seval, encT, h6I, undef]; first | refine callK_r (by first | assumption | fail) (by first | exact .inl rfl | exact .inr rfl) ?_ | (refine callK_i (by assumption) ?_ ?_ ?_; (solve | (repeat (first | exact DLe.refl _ | exact DLe.nil _ | (refine DLe.tup ?_) | (refine DLe.agg ?_ rfl) | exact trivial | (refine And.intro ?_ ?_)))); (solve | exact .inl rfl | exact .inr rfl))) | fail | omega | exact decide_eq_true (by omega) | exact DLe.refl _)
    all_goals exact DLe.refl _
  by_cases h12 : n.links.length > 12
  · have h6I : decide ((n.vpcs.length : Int) > 6) = false := by simp; omega
    have h12I : decide ((n.links.length : Int) > 12) = true := by simp; omega
    have hr : R = 2 := by rw [hR.out, chkT, if_pos (.inr h12)]
    rw [hr]
    replace hr := Lib.hid hr
    refine ps_i tab_ok mixed Try.func7 rfl Try.ntmps7 Try.results7 (by kernel_rfl) ?_
    repeat' (first | (with_reducible refine And.intro ?_ ?_) | (with_reducible refine gK_i (fun _ => ?_) (fun _ => ?_)) | (with_reducible refine condS_i (fun _ => ?_) (fun _ => ?_)) | (with_reducible refine drw_i (by kernel_rfl)) | simp -dsimp only [go_sem, seval, *, encT, h6I, h12I, undef] | ((with_reducible refine opK_c ?_); simp -dsimp only [go_sem, seval, encT, h6I, h12I, undef]; first | refine callK_r (by first | assumption | fail) (by first | exact .inl rfl | exact .inr rfl) ?_ | (refine callK_i (by assumption) ?_ ?_ ?_; (solve | (repeat (first | exact DLe.refl _ | exact DLe.nil _ | (refine DLe.tup ?_) | (refine DLe.agg ?_ rfl) | exact trivial | (refine And.intro ?_ ?_)))); (solve | exact .inl rfl | exact .inr rfl))) | fail | omega | exact decide_eq_true (by omega) | exact DLe.refl _)
    all_goals exact DLe.refl _
  have h6I : decide ((n.vpcs.length : Int) > 6) = false := by simp; omega
  have h12I : decide ((n.links.length : Int) > 12) = false := by simp; omega
  have hno : ¬ (n.vpcs.length > 6 ∨ n.links.length > 12) := by omega
  refine ps_i tab_ok mixed Try.func7 rfl Try.ntmps7 Try.results7 (by kernel_rfl) ?_
  repeat' (first | (with_reducible refine And.intro ?_ ?_) | (with_reducible refine gK_i (fun _ => ?_) (fun _ => ?_)) | (with_reducible refine condS_i (fun _ => ?_) (fun _ => ?_)) | (with_reducible refine drw_i (by kernel_rfl)) | simp -dsimp only [go_sem, seval, *, encT, h6I, h12I, undef] | ((with_reducible refine opK_c ?_); simp -dsimp only [go_sem, seval, encT, h6I, h12I, undef]; first | refine callK_r (by first | assumption | fail) (by first | exact .inl rfl | exact .inr rfl) ?_ | (refine callK_i (by assumption) ?_ ?_ ?_; (solve | (repeat (first | exact DLe.refl _ | exact DLe.nil _ | (refine DLe.tup ?_) | (refine DLe.agg ?_ rfl) | exact trivial | (refine And.intro ?_ ?_)))); (solve | exact .inl rfl | exact .inr rfl))) | fail | omega | exact decide_eq_true (by omega) | exact DLe.refl _)
  refine loopL tab_ok mixed n.vpcs (fun k => (∀ v ∈ n.vpcs.take k, chkV v = 0) ∧ (n.vpcs.take k).Pairwise fun a b => a.id < b.id) (fun k => [(3, .d (.v (.int .i64 k))), (2, .d (.v (.int .i64 0))), (1, .ptr 0 0)]) (fun _ => [.box 25 ((encT n).map .d)]) (by simp) (weak_forget _ (by simp) (by (try simp only [encT]); rfl) (by (repeat' (first | exact trivial | (refine ⟨rfl, ?_⟩)))) (by first | rfl | simp only [belowH, belowE, belowC, belowL, belowR, belowP, belowL_d, belowR_d, List.length_cons, List.length_nil, Nat.reduceAdd, Nat.reduceLT, decide_true, Bool.and_self, Bool.and_true]) (by first | rfl | simp only [belowH, belowE, belowC, belowL, belowR, belowP, belowL_d, belowR_d, List.length_cons, List.length_nil, Nat.reduceAdd, Nat.reduceLT, decide_true, Bool.and_self, Bool.and_true])) ?_ ?_
  · intro k v hv hk hI C hC
    have hkI : (k : Int) < (n.vpcs.length : Int) := by omega
    have hwr : IntKind.i64.wrap ((k : Int) + 1) = ((k + 1 : Nat) : Int) := by rw [IntKind.wrap_i64]; omega
    have htk := take_snoc hv
    have hzv := hz.out v (List.mem_of_getElem? hv)
    have hcv := checkVpc_p v hzv.1 hzv.2
    clear hzv
    by_cases hc : chkV v = 0
    · have hid : 1 ≤ v.id := by have := (vpcOK_of hc).id; simp [idOK] at this; exact this.1
      rw [hc] at hcv
      have hI2 : (lastV (n.vpcs.take k) < v.id) → (∀ v ∈ n.vpcs.take (k + 1), chkV v = 0) ∧ (n.vpcs.take (k + 1)).Pairwise fun a b => a.id < b.id := fun h => by
        rw [htk]
        exact ⟨fun u hu => by
          rcases List.mem_append.1 hu with hu | hu
          · exact hI.1 u hu
          · rw [List.mem_singleton.1 hu]; exact hc, lastV_pair hI.2 h⟩
      have hbad : v.id ≤ lastV (n.vpcs.take k) → R = 1 := fun h => by
        rw [hR.out]
        refine chkT_one hno (.inl ?_)
        cases hb : vpcsB n with
        | false => rfl
        | true =>
          have := (vpcsB_take hb (k + 1)).2
          rw [htk] at this
          exact absurd this (lastV_bad hid h)
      clear hI htk
      replace hc := Lib.hid hc
      replace hI2 := Lib.hid hI2
      replace hbad := Lib.hid hbad
      by_cases hk0 : k = 0
      · have hkz : decide ((k : Int) > 0) = false := by simp; omega
        have hg := hI2.out (by rw [hk0]; simp [lastV]; omega)
        replace hg := Lib.hid hg
        replace hk0 := Lib.hid hk0
        repeat' (first | (with_reducible refine And.intro ?_ ?_) | (with_reducible refine gK_i (fun _ => ?_) (fun _ => ?_)) | (with_reducible refine condS_i (fun _ => ?_) (fun _ => ?_)) | (with_reducible refine drw_i (by kernel_rfl)) | simp -dsimp only [go_sem, seval, *, encT, encV, hkI, hwr, hv, hkz, undef] | ((with_reducible refine opK_c ?_); simp -dsimp only [go_sem, seval, encT, encV, hkI, hwr, hv, hkz, undef]; first | refine callK_r (by first | assumption | exact hcv) (by first | exact .inl rfl | exact .inr rfl) ?_ | (refine callK_i (by assumption) ?_ ?_ ?_; (solve | (repeat (first | exact DLe.refl _ | exact DLe.nil _ | (refine DLe.tup ?_) | (refine DLe.agg ?_ rfl) | exact trivial | (refine And.intro ?_ ?_)))); (solve | exact .inl rfl | exact .inr rfl))) | fail | omega | exact decide_eq_true (by omega) | exact DLe.refl _)
        exact hC _ _ hg.out (weak_forget _ (by simp) (by (try simp only [encT]); rfl) (by (repeat' (first | exact trivial | (refine ⟨rfl, ?_⟩)))) (by first | rfl | simp only [belowH, belowE, belowC, belowL, belowR, belowP, belowL_d, belowR_d, List.length_cons, List.length_nil, Nat.reduceAdd, Nat.reduceLT, decide_true, Bool.and_self, Bool.and_true]) (by first | rfl | simp only [belowH, belowE, belowC, belowL, belowR, belowP, belowL_d, belowR_d, List.length_cons, List.length_nil, Nat.reduceAdd, Nat.reduceLT, decide_true, Bool.and_self, Bool.and_true]))
      · obtain ⟨j, hj⟩ : ∃ j, k = j + 1 := ⟨k - 1, by omega⟩
        obtain ⟨u, hu⟩ : ∃ u, n.vpcs[j]? = some u := ⟨_, List.getElem?_eq_getElem (by omega)⟩
        have hkz : decide ((k : Int) > 0) = true := by simp; omega
        have hw1 : IntKind.i64.wrap ((k : Int) - 1) = (j : Int) := by rw [IntKind.wrap_i64]; omega
        have hjI : (j : Int) < (n.vpcs.length : Int) := by omega
        have hls : lastV (n.vpcs.take k) = u.id := by rw [hj]; unfold lastV; rw [last_take hu]; rfl
        replace hj := Lib.hid hj
        replace hk0 := Lib.hid hk0
        by_cases ho : u.id ≥ v.id
        · have hr : R = 1 := hbad.out (by rw [hls]; exact ho)
          rw [hr]
          replace hr := Lib.hid hr
          replace hls := Lib.hid hls
          repeat' (first | (with_reducible refine And.intro ?_ ?_) | (with_reducible refine gK_i (fun _ => ?_) (fun _ => ?_)) | (with_reducible refine condS_i (fun _ => ?_) (fun _ => ?_)) | (with_reducible refine drw_i (by kernel_rfl)) | simp -dsimp only [go_sem, seval, *, encT, encV, hkI, hwr, hv, hkz, hw1, hjI, hu, ho, undef] | ((with_reducible refine opK_c ?_); simp -dsimp only [go_sem, seval, encT, encV, hkI, hwr, hv, hkz, hw1, hjI, hu, ho, undef]; first | refine callK_r (by first | assumption | exact hcv) (by first | exact .inl rfl | exact .inr rfl) ?_ | (refine callK_i (by assumption) ?_ ?_ ?_; (solve | (repeat (first | exact DLe.refl _ | exact DLe.nil _ | (refine DLe.tup ?_) | (refine DLe.agg ?_ rfl) | exact trivial | (refine And.intro ?_ ?_)))); (solve | exact .inl rfl | exact .inr rfl))) | fail | omega | exact decide_eq_true (by omega) | exact DLe.refl _)
          all_goals exact DLe.refl _
        · have hg := hI2.out (by rw [hls]; omega)
          have hob : decide (u.id ≥ v.id) = false := by simpa using ho
          replace hls := Lib.hid hls
          replace hg := Lib.hid hg
          replace ho := Lib.hid ho
          repeat' (first | (with_reducible refine And.intro ?_ ?_) | (with_reducible refine gK_i (fun _ => ?_) (fun _ => ?_)) | (with_reducible refine condS_i (fun _ => ?_) (fun _ => ?_)) | (with_reducible refine drw_i (by kernel_rfl)) | simp -dsimp only [go_sem, seval, *, encT, encV, hkI, hwr, hv, hkz, hw1, hjI, hu, hob, undef] | ((with_reducible refine opK_c ?_); simp -dsimp only [go_sem, seval, encT, encV, hkI, hwr, hv, hkz, hw1, hjI, hu, hob, undef]; first | refine callK_r (by first | assumption | exact hcv) (by first | exact .inl rfl | exact .inr rfl) ?_ | (refine callK_i (by assumption) ?_ ?_ ?_; (solve | (repeat (first | exact DLe.refl _ | exact DLe.nil _ | (refine DLe.tup ?_) | (refine DLe.agg ?_ rfl) | exact trivial | (refine And.intro ?_ ?_)))); (solve | exact .inl rfl | exact .inr rfl))) | fail | omega | exact decide_eq_true (by omega) | exact DLe.refl _)
          exact hC _ _ hg.out (weak_forget _ (by simp) (by (try simp only [encT]); rfl) (by (repeat' (first | exact trivial | (refine ⟨rfl, ?_⟩)))) (by first | rfl | simp only [belowH, belowE, belowC, belowL, belowR, belowP, belowL_d, belowR_d, List.length_cons, List.length_nil, Nat.reduceAdd, Nat.reduceLT, decide_true, Bool.and_self, Bool.and_true]) (by first | rfl | simp only [belowH, belowE, belowC, belowL, belowR, belowP, belowL_d, belowR_d, List.length_cons, List.length_nil, Nat.reduceAdd, Nat.reduceLT, decide_true, Bool.and_self, Bool.and_true]))
    · have hr : R = 1 := by
        rw [hR.out]
        refine chkT_one hno (.inl ?_)
        cases hb : vpcsB n with
        | false => rfl
        | true => exact absurd ((vpcsB_take hb (k + 1)).1 v (by rw [htk]; simp)) hc
      have hcb : (chkV v != 0) = true := by simpa using hc
      rw [hr]
      clear hr hI hC htk
      replace hc := Lib.hid hc
      repeat' (first | (with_reducible refine And.intro ?_ ?_) | (with_reducible refine gK_i (fun _ => ?_) (fun _ => ?_)) | (with_reducible refine condS_i (fun _ => ?_) (fun _ => ?_)) | (with_reducible refine drw_i (by kernel_rfl)) | simp -dsimp only [go_sem, seval, *, encT, encV, hkI, hv, hcb, undef] | ((with_reducible refine opK_c ?_); simp -dsimp only [go_sem, seval, encT, encV, hkI, hv, hcb, undef]; first | refine callK_r (by first | assumption | exact hcv) (by first | exact .inl rfl | exact .inr rfl) ?_ | (refine callK_i (by assumption) ?_ ?_ ?_; (solve | (repeat (first | exact DLe.refl _ | exact DLe.nil _ | (refine DLe.tup ?_) | (refine DLe.agg ?_ rfl) | exact trivial | (refine And.intro ?_ ?_)))); (solve | exact .inl rfl | exact .inr rfl))) | fail | omega | exact decide_eq_true (by omega) | exact DLe.refl _)
      all_goals exact DLe.refl _
  · intro hI C
    rw [List.take_length] at hI
    have hvB := vpcsB_of hI.1 hI.2
    have hso := hI.2
    replace hI := Lib.hid hI
    replace hso := Lib.hid hso
    replace hvB := Lib.hid hvB
    repeat' (first | (with_reducible refine And.intro ?_ ?_) | (with_reducible refine gK_i (fun _ => ?_) (fun _ => ?_)) | (with_reducible refine condS_i (fun _ => ?_) (fun _ => ?_)) | (with_reducible refine drw_i (by kernel_rfl)) | simp -dsimp only [go_sem, seval, *, encT, Int.lt_irrefl, undef] | ((with_reducible refine opK_c ?_); simp -dsimp only [go_sem, seval, encT, Int.lt_irrefl, undef]; first | refine callK_r (by first | assumption | fail) (by first | exact .inl rfl | exact .inr rfl) ?_ | (refine callK_i (by assumption) ?_ ?_ ?_; (solve | (repeat (first | exact DLe.refl _ | exact DLe.nil _ | (refine DLe.tup ?_) | (refine DLe.agg ?_ rfl) | exact trivial | (refine And.intro ?_ ?_)))); (solve | exact .inl rfl | exact .inr rfl))) | fail | omega | exact decide_eq_true (by omega) | exact DLe.refl _)
    refine loopL tab_ok mixed n.links (fun k => (∀ l ∈ n.links.take k, lnkB n l = true) ∧ risK (n.links.take k) = true) (fun k => [(4, .d (.v (.int .i64 k))), (2, .d (.v (.int .i64 0))), (1, .ptr 0 0)]) (fun _ => [.box 25 ((encT n).map .d)]) (by simp [risK]) (weak_forget _ (by simp) (by (try simp only [encT]); rfl) (by (repeat' (first | exact trivial | (refine ⟨rfl, ?_⟩)))) (by first | rfl | simp only [belowH, belowE, belowC, belowL, belowR, belowP, belowL_d, belowR_d, List.length_cons, List.length_nil, Nat.reduceAdd, Nat.reduceLT, decide_true, Bool.and_self, Bool.and_true]) (by first | rfl | simp only [belowH, belowE, belowC, belowL, belowR, belowP, belowL_d, belowR_d, List.length_cons, List.length_nil, Nat.reduceAdd, Nat.reduceLT, decide_true, Bool.and_self, Bool.and_true])) ?_ ?_
    · intro k l hl hk hJ C hC
      have hkI : (k : Int) < (n.links.length : Int) := by omega
      have hwr : IntKind.i64.wrap ((k : Int) + 1) = ((k + 1 : Nat) : Int) := by rw [IntKind.wrap_i64]; omega
      have htk := take_snoc hl
      have hfa := vpcAt_p n l.a (by omega)
      have hfb := vpcAt_p n l.b (by omega)
      rw [vpcAt_ix] at hfa hfb
      have hbad : lnkB n l = false → R = 1 := fun h => by
        rw [hR.out]
        refine chkT_one hno (.inr (.inl ?_))
        rw [List.all_eq_false]
        exact ⟨l, List.mem_of_getElem? hl, by simp [h]⟩
      have hlb := lnkB_ix (n := n) l
      have hgood : lnkB n l = true → risK (n.links.take (k + 1)) = true → (∀ l ∈ n.links.take (k + 1), lnkB n l = true) ∧ risK (n.links.take (k + 1)) = true := fun h g => by
        refine ⟨?_, g⟩
        rw [htk]
        intro u hu
        rcases List.mem_append.1 hu with hu | hu
        · exact hJ.1 u hu
        · rw [List.mem_singleton.1 hu]; exact h
      have hbad2 : risK (n.links.take (k + 1)) = false → R = 1 := fun h => by
        rw [hR.out]
        refine chkT_one hno (.inr (.inr (.inl ?_)))
        cases hb : risK n.links with
        | false => rfl
        | true => rw [risK_take hb] at h; cases h
      have hrk := risK_snoc (n.links.take k) l
      rw [← htk, hJ.2, Bool.true_and] at hrk
      have hm1 : decide ((-1 : Int) < 0) = true := rfl
      clear htk
      replace hJ := Lib.hid hJ
      replace hbad := Lib.hid hbad
      replace hbad2 := Lib.hid hbad2
      replace hgood := Lib.hid hgood
      by_cases hab : l.a < l.b
      · have hge : decide (l.a ≥ l.b) = false := by simp; omega
        cases ea : vpcIx n l.a with
        | none =>
          rw [ea] at hfa hlb
          simp only at hfa
          have hr : R = 1 := hbad.out (by rw [hlb]; rfl)
          rw [hr]
          clear hr hlb hrk hfb
          replace ea := Lib.hid ea
          replace hab := Lib.hid hab
          repeat' (first | (with_reducible refine And.intro ?_ ?_) | (with_reducible refine gK_i (fun _ => ?_) (fun _ => ?_)) | (with_reducible refine condS_i (fun _ => ?_) (fun _ => ?_)) | (with_reducible refine drw_i (by kernel_rfl)) | simp -dsimp only [go_sem, seval, *, encT, encK, hkI, hl, hge, hm1, undef] | ((with_reducible refine opK_c ?_); simp -dsimp only [go_sem, seval, encT, encK, hkI, hl, hge, hm1, undef]; first | refine callK_r (by first | assumption | exact hfa) (by first | exact .inl rfl | exact .inr rfl) ?_ | (refine callK_i (by assumption) ?_ ?_ ?_; (solve | (repeat (first | exact DLe.refl _ | exact DLe.nil _ | (refine DLe.tup ?_) | (refine DLe.agg ?_ rfl) | exact trivial | (refine And.intro ?_ ?_)))); (solve | exact .inl rfl | exact .inr rfl))) | fail | omega | exact decide_eq_true (by omega) | exact DLe.refl _)
          all_goals exact DLe.refl _
        | some ia =>
          rw [ea] at hfa hlb
          simp only at hfa
          have hia : decide ((ia : Int) < 0) = false := by simp
          replace ea := Lib.hid ea
          cases eb : vpcIx n l.b with
          | none =>
            rw [eb] at hfb hlb
            simp only at hfb
            have hr : R = 1 := hbad.out (by rw [hlb]; rfl)
            rw [hr]
            clear hr hlb hrk
            replace eb := Lib.hid eb
            replace hab := Lib.hid hab
            repeat' (first | (with_reducible refine And.intro ?_ ?_) | (with_reducible refine gK_i (fun _ => ?_) (fun _ => ?_)) | (with_reducible refine condS_i (fun _ => ?_) (fun _ => ?_)) | (with_reducible refine drw_i (by kernel_rfl)) | simp -dsimp only [go_sem, seval, *, encT, encK, hkI, hl, hge, hm1, hia, undef] | ((with_reducible refine opK_c ?_); simp -dsimp only [go_sem, seval, encT, encK, hkI, hl, hge, hm1, hia, undef]; first | refine callK_r (by first | assumption | exact hfa | exact hfb) (by first | exact .inl rfl | exact .inr rfl) ?_ | (refine callK_i (by assumption) ?_ ?_ ?_; (solve | (repeat (first | exact DLe.refl _ | exact DLe.nil _ | (refine DLe.tup ?_) | (refine DLe.agg ?_ rfl) | exact trivial | (refine And.intro ?_ ?_)))); (solve | exact .inl rfl | exact .inr rfl))) | fail | omega | exact decide_eq_true (by omega) | exact DLe.refl _)
            all_goals exact DLe.refl _
          | some ib =>
            rw [eb] at hfb hlb
            simp only at hfb
            have hib : decide ((ib : Int) < 0) = false := by simp
            replace eb := Lib.hid eb
            have hlt : lnkB n l = true := by rw [hlb]; simp [hab]
            clear hlb
            replace hlt := Lib.hid hlt
            replace hab := Lib.hid hab
            by_cases hk0 : k = 0
            · have hkz : decide ((k : Int) > 0) = false := by simp; omega
              have hg := hgood.out hlt.out (by rw [hrk, hk0]; rfl)
              clear hrk
              replace hg := Lib.hid hg
              replace hk0 := Lib.hid hk0
              repeat' (first | (with_reducible refine And.intro ?_ ?_) | (with_reducible refine gK_i (fun _ => ?_) (fun _ => ?_)) | (with_reducible refine condS_i (fun _ => ?_) (fun _ => ?_)) | (with_reducible refine drw_i (by kernel_rfl)) | simp -dsimp only [go_sem, seval, *, encT, encK, hkI, hwr, hl, hge, hkz, hia, hib, undef] | ((with_reducible refine opK_c ?_); simp -dsimp only [go_sem, seval, encT, encK, hkI, hwr, hl, hge, hkz, hia, hib, undef]; first | refine callK_r (by first | assumption | exact hfa | exact hfb) (by first | exact .inl rfl | exact .inr rfl) ?_ | (refine callK_i (by assumption) ?_ ?_ ?_; (solve | (repeat (first | exact DLe.refl _ | exact DLe.nil _ | (refine DLe.tup ?_) | (refine DLe.agg ?_ rfl) | exact trivial | (refine And.intro ?_ ?_)))); (solve | exact .inl rfl | exact .inr rfl))) | fail | omega | exact decide_eq_true (by omega) | exact DLe.refl _)
              exact hC _ _ hg.out (weak_forget _ (by simp) (by (try simp only [encT]); rfl) (by (repeat' (first | exact trivial | (refine ⟨rfl, ?_⟩)))) (by first | rfl | simp only [belowH, belowE, belowC, belowL, belowR, belowP, belowL_d, belowR_d, List.length_cons, List.length_nil, Nat.reduceAdd, Nat.reduceLT, decide_true, Bool.and_self, Bool.and_true]) (by first | rfl | simp only [belowH, belowE, belowC, belowL, belowR, belowP, belowL_d, belowR_d, List.length_cons, List.length_nil, Nat.reduceAdd, Nat.reduceLT, decide_true, Bool.and_self, Bool.and_true]))
            · obtain ⟨j, hj⟩ : ∃ j, k = j + 1 := ⟨k - 1, by omega⟩
              obtain ⟨y, hy⟩ : ∃ y, n.links[j]? = some y := ⟨_, List.getElem?_eq_getElem (by omega)⟩
              have hkz : decide ((k : Int) > 0) = true := by simp; omega
              have hw1 : IntKind.i64.wrap ((k : Int) - 1) = (j : Int) := by rw [IntKind.wrap_i64]; omega
              have hjI : (j : Int) < (n.links.length : Int) := by omega
              have hol := ordK_lt y l
              rw [hj, last_take hy] at hrk
              simp only at hrk
              rw [← hj] at hrk
              replace hj := Lib.hid hj
              replace hk0 := Lib.hid hk0
              by_cases ho : ordK y l < 0
              · have hg := hgood.out hlt.out (by rw [hrk]; simpa using ho)
                have hcs := hol.1 ho
                clear hrk hol ho
                replace hg := Lib.hid hg
                by_cases hlt2 : y.a < l.a
                · have e1 : decide (y.a > l.a) = false := by simp; omega
                  have e2 : (y.a == l.a) = false := by simp; omega
                  clear hcs hlt2
                  repeat' (first | (with_reducible refine And.intro ?_ ?_) | (with_reducible refine gK_i (fun _ => ?_) (fun _ => ?_)) | (with_reducible refine condS_i (fun _ => ?_) (fun _ => ?_)) | (with_reducible refine drw_i (by kernel_rfl)) | simp -dsimp only [go_sem, seval, *, encT, encK, hkI, hwr, hl, hge, hkz, hw1, hjI, hy, hia, hib, e1, e2, undef] | ((with_reducible refine opK_c ?_); simp -dsimp only [go_sem, seval, encT, encK, hkI, hwr, hl, hge, hkz, hw1, hjI, hy, hia, hib, e1, e2, undef]; first | refine callK_r (by first | assumption | exact hfa | exact hfb) (by first | exact .inl rfl | exact .inr rfl) ?_ | (refine callK_i (by assumption) ?_ ?_ ?_; (solve | (repeat (first | exact DLe.refl _ | exact DLe.nil _ | (refine DLe.tup ?_) | (refine DLe.agg ?_ rfl) | exact trivial | (refine And.intro ?_ ?_)))); (solve | exact .inl rfl | exact .inr rfl))) | fail | omega | exact decide_eq_true (by omega) | exact DLe.refl _)
                  exact hC _ _ hg.out (weak_forget _ (by simp) (by (try simp only [encT]); rfl) (by (repeat' (first | exact trivial | (refine ⟨rfl, ?_⟩)))) (by first | rfl | simp only [belowH, belowE, belowC, belowL, belowR, belowP, belowL_d, belowR_d, List.length_cons, List.length_nil, Nat.reduceAdd, Nat.reduceLT, decide_true, Bool.and_self, Bool.and_true]) (by first | rfl | simp only [belowH, belowE, belowC, belowL, belowR, belowP, belowL_d, belowR_d, List.length_cons, List.length_nil, Nat.reduceAdd, Nat.reduceLT, decide_true, Bool.and_self, Bool.and_true]))
                · have e1 : decide (y.a > l.a) = false := by simp; omega
                  have e2 : (y.a == l.a) = true := by simp; omega
                  have e3 : decide (y.b ≥ l.b) = false := by simp; omega
                  clear hcs hlt2
                  repeat' (first | (with_reducible refine And.intro ?_ ?_) | (with_reducible refine gK_i (fun _ => ?_) (fun _ => ?_)) | (with_reducible refine condS_i (fun _ => ?_) (fun _ => ?_)) | (with_reducible refine drw_i (by kernel_rfl)) | simp -dsimp only [go_sem, seval, *, encT, encK, hkI, hwr, hl, hge, hkz, hw1, hjI, hy, hia, hib, e1, e2, e3, undef] | ((with_reducible refine opK_c ?_); simp -dsimp only [go_sem, seval, encT, encK, hkI, hwr, hl, hge, hkz, hw1, hjI, hy, hia, hib, e1, e2, e3, undef]; first | refine callK_r (by first | assumption | exact hfa | exact hfb) (by first | exact .inl rfl | exact .inr rfl) ?_ | (refine callK_i (by assumption) ?_ ?_ ?_; (solve | (repeat (first | exact DLe.refl _ | exact DLe.nil _ | (refine DLe.tup ?_) | (refine DLe.agg ?_ rfl) | exact trivial | (refine And.intro ?_ ?_)))); (solve | exact .inl rfl | exact .inr rfl))) | fail | omega | exact decide_eq_true (by omega) | exact DLe.refl _)
                  exact hC _ _ hg.out (weak_forget _ (by simp) (by (try simp only [encT]); rfl) (by (repeat' (first | exact trivial | (refine ⟨rfl, ?_⟩)))) (by first | rfl | simp only [belowH, belowE, belowC, belowL, belowR, belowP, belowL_d, belowR_d, List.length_cons, List.length_nil, Nat.reduceAdd, Nat.reduceLT, decide_true, Bool.and_self, Bool.and_true]) (by first | rfl | simp only [belowH, belowE, belowC, belowL, belowR, belowP, belowL_d, belowR_d, List.length_cons, List.length_nil, Nat.reduceAdd, Nat.reduceLT, decide_true, Bool.and_self, Bool.and_true]))
              · have hr : R = 1 := hbad2.out (by rw [hrk]; simpa using ho)
                have hcs : ¬ (y.a < l.a ∨ (y.a = l.a ∧ y.b < l.b)) := fun h => ho (hol.2 h)
                rw [hr]
                clear hrk hr hol ho
                by_cases hlt2 : y.a > l.a
                · have e1 : decide (y.a > l.a) = true := by simpa using hlt2
                  clear hcs hlt2
                  repeat' (first | (with_reducible refine And.intro ?_ ?_) | (with_reducible refine gK_i (fun _ => ?_) (fun _ => ?_)) | (with_reducible refine condS_i (fun _ => ?_) (fun _ => ?_)) | (with_reducible refine drw_i (by kernel_rfl)) | simp -dsimp only [go_sem, seval, *, encT, encK, hkI, hwr, hl, hge, hkz, hw1, hjI, hy, hia, hib, e1, undef] | ((with_reducible refine opK_c ?_); simp -dsimp only [go_sem, seval, encT, encK, hkI, hwr, hl, hge, hkz, hw1, hjI, hy, hia, hib, e1, undef]; first | refine callK_r (by first | assumption | exact hfa | exact hfb) (by first | exact .inl rfl | exact .inr rfl) ?_ | (refine callK_i (by assumption) ?_ ?_ ?_; (solve | (repeat (first | exact DLe.refl _ | exact DLe.nil _ | (refine DLe.tup ?_) | (refine DLe.agg ?_ rfl) | exact trivial | (refine And.intro ?_ ?_)))); (solve | exact .inl rfl | exact .inr rfl))) | fail | omega | exact decide_eq_true (by omega) | exact DLe.refl _)
                  all_goals exact DLe.refl _
                · have e1 : decide (y.a > l.a) = false := by simpa using hlt2
                  have e2 : (y.a == l.a) = true := by simp; omega
                  have e3 : decide (y.b ≥ l.b) = true := by simp; omega
                  clear hcs hlt2
                  repeat' (first | (with_reducible refine And.intro ?_ ?_) | (with_reducible refine gK_i (fun _ => ?_) (fun _ => ?_)) | (with_reducible refine condS_i (fun _ => ?_) (fun _ => ?_)) | (with_reducible refine drw_i (by kernel_rfl)) | simp -dsimp only [go_sem, seval, *, encT, encK, hkI, hwr, hl, hge, hkz, hw1, hjI, hy, hia, hib, e1, e2, e3, undef] | ((with_reducible refine opK_c ?_); simp -dsimp only [go_sem, seval, encT, encK, hkI, hwr, hl, hge, hkz, hw1, hjI, hy, hia, hib, e1, e2, e3, undef]; first | refine callK_r (by first | assumption | exact hfa | exact hfb) (by first | exact .inl rfl | exact .inr rfl) ?_ | (refine callK_i (by assumption) ?_ ?_ ?_; (solve | (repeat (first | exact DLe.refl _ | exact DLe.nil _ | (refine DLe.tup ?_) | (refine DLe.agg ?_ rfl) | exact trivial | (refine And.intro ?_ ?_)))); (solve | exact .inl rfl | exact .inr rfl))) | fail | omega | exact decide_eq_true (by omega) | exact DLe.refl _)
                  all_goals exact DLe.refl _
      · have hge : decide (l.a ≥ l.b) = true := by simp; omega
        have hr : R = 1 := hbad.out (by rw [hlb]; simp; omega)
        rw [hr]
        clear hr hlb hrk hfa hfb
        replace hab := Lib.hid hab
        repeat' (first | (with_reducible refine And.intro ?_ ?_) | (with_reducible refine gK_i (fun _ => ?_) (fun _ => ?_)) | (with_reducible refine condS_i (fun _ => ?_) (fun _ => ?_)) | (with_reducible refine drw_i (by kernel_rfl)) | simp -dsimp only [go_sem, seval, *, encT, encK, hkI, hl, hge, undef] | ((with_reducible refine opK_c ?_); simp -dsimp only [go_sem, seval, encT, encK, hkI, hl, hge, undef]; first | refine callK_r (by first | assumption | fail) (by first | exact .inl rfl | exact .inr rfl) ?_ | (refine callK_i (by assumption) ?_ ?_ ?_; (solve | (repeat (first | exact DLe.refl _ | exact DLe.nil _ | (refine DLe.tup ?_) | (refine DLe.agg ?_ rfl) | exact trivial | (refine And.intro ?_ ?_)))); (solve | exact .inl rfl | exact .inr rfl))) | fail | omega | exact decide_eq_true (by omega) | exact DLe.refl _)
        all_goals exact DLe.refl _
    · intro hJ C
      rw [List.take_length] at hJ
      have hids : ∀ l ∈ n.links, l.a ∈ n.vpcs.map (·.id) ∧ l.b ∈ n.vpcs.map (·.id) ∧ l.a < l.b := fun l hl => by
        have := hJ.1 l hl
        unfold lnkB at this
        simp only [Bool.and_eq_true, decide_eq_true_eq] at this
        exact ⟨find_ids this.1, find_ids this.2.1, this.2.2⟩
      replace hJ := Lib.hid hJ
      replace hids := Lib.hid hids
      repeat' (first | (with_reducible refine And.intro ?_ ?_) | (with_reducible refine gK_i (fun _ => ?_) (fun _ => ?_)) | (with_reducible refine condS_i (fun _ => ?_) (fun _ => ?_)) | (with_reducible refine drw_i (by kernel_rfl)) | simp -dsimp only [go_sem, seval, *, encT, Int.lt_irrefl, undef] | ((with_reducible refine opK_c ?_); simp -dsimp only [go_sem, seval, encT, Int.lt_irrefl, undef]; first | refine callK_r (by first | assumption | fail) (by first | exact .inl rfl | exact .inr rfl) ?_ | (refine callK_i (by assumption) ?_ ?_ ?_; (solve | (repeat (first | exact DLe.refl _ | exact DLe.nil _ | (refine DLe.tup ?_) | (refine DLe.agg ?_ rfl) | exact trivial | (refine And.intro ?_ ?_)))); (solve | exact .inl rfl | exact .inr rfl))) | fail | omega | exact decide_eq_true (by omega) | exact DLe.refl _)
      refine loopL tab_ok mixed n.vpcs (fun k => ∀ v ∈ n.vpcs.take k, ∀ w ∈ n.vpcs, w.id ≠ v.id → foeN n v w = false) (fun k => [(6, .d (.v (.int .i64 k))), (2, .d (.v (.int .i64 0))), (1, .ptr 0 0)]) (fun _ => [.box 25 ((encT n).map .d)]) (by simp) (weak_forget _ (by simp) (by (try simp only [encT]); rfl) (by (repeat' (first | exact trivial | (refine ⟨rfl, ?_⟩)))) (by first | rfl | simp only [belowH, belowE, belowC, belowL, belowR, belowP, belowL_d, belowR_d, List.length_cons, List.length_nil, Nat.reduceAdd, Nat.reduceLT, decide_true, Bool.and_self, Bool.and_true]) (by first | rfl | simp only [belowH, belowE, belowC, belowL, belowR, belowP, belowL_d, belowR_d, List.length_cons, List.length_nil, Nat.reduceAdd, Nat.reduceLT, decide_true, Bool.and_self, Bool.and_true])) ?_ ?_
      · intro k v hv hk hK C hC
        have hkI : (k : Int) < (n.vpcs.length : Int) := by omega
        have hwr : IntKind.i64.wrap ((k : Int) + 1) = ((k + 1 : Nat) : Int) := by rw [IntKind.wrap_i64]; omega
        have hgp := groupR_p n v.id k (vpcIx_at hso.out hv) (by omega) (by omega) hso.out hids.out
        have hgl := grp_len n v.id
        have hst : (∀ w ∈ n.vpcs, w.id ≠ v.id → foeN n v w = false) → ∀ v ∈ n.vpcs.take (k + 1), ∀ w ∈ n.vpcs, w.id ≠ v.id → foeN n v w = false := fun h u hu => by
          rw [take_snoc hv] at hu
          rcases List.mem_append.1 hu with hu | hu
          · exact hK u hu
          · rw [List.mem_singleton.1 hu]; exact h
        have hgm : ∀ w ∈ n.vpcs, headN n w.id = headN n v.id → w.id ∈ grpN n v.id := fun w hw h => grp_mem hw h
        have hga : ∀ (k : Nat) (x : Int), (grpN n v.id)[k]? = some x → ∃ j w, n.vpcs[j]? = some w ∧ w.id = x ∧ vpcIx n x = some j ∧ headN n x = headN n v.id := fun k x h => grp_at hso.out h
        replace hK := Lib.hid hK
        replace hst := Lib.hid hst
        replace hgm := Lib.hid hgm
        replace hga := Lib.hid hga
        generalize grpN n v.id = G at *
        repeat' (first | (with_reducible refine And.intro ?_ ?_) | (with_reducible refine gK_i (fun _ => ?_) (fun _ => ?_)) | (with_reducible refine condS_i (fun _ => ?_) (fun _ => ?_)) | (with_reducible refine drw_i (by kernel_rfl)) | simp -dsimp only [go_sem, seval, *, encT, encV, hkI, hv, undef] | ((with_reducible refine opK_c ?_); simp -dsimp only [go_sem, seval, encT, encV, hkI, hv, undef]; first | refine callK_r (by first | assumption | exact hgp) (by first | exact .inl rfl | exact .inr rfl) ?_ | (refine callK_i (by assumption) ?_ ?_ ?_; (solve | (repeat (first | exact DLe.refl _ | exact DLe.nil _ | (refine DLe.tup ?_) | (refine DLe.agg ?_ rfl) | exact trivial | (refine And.intro ?_ ?_)))); (solve | exact .inl rfl | exact .inr rfl))) | fail | omega | exact decide_eq_true (by omega) | exact DLe.refl _)
        refine loopL tab_ok mixed G (fun j => ∀ w ∈ n.vpcs, w.id ∈ G.take j → w.id ≠ v.id → foeN n v w = false) (fun j => [(8, .d (.v (.int .i64 j))), (7, .d (.sl 1 (G.map encA))), (6, .d (.v (.int .i64 k))), (2, .d (.v (.int .i64 0))), (1, .ptr 0 0)]) (fun _ => [.box 25 ((encT n).map .d)]) (by simp) (weak_forget _ (by simp) (by (try simp only [encT]); rfl) (by (repeat' (first | exact trivial | (refine ⟨rfl, ?_⟩)))) (by first | rfl | simp only [belowH, belowE, belowC, belowL, belowR, belowP, belowL_d, belowR_d, List.length_cons, List.length_nil, Nat.reduceAdd, Nat.reduceLT, decide_true, Bool.and_self, Bool.and_true]) (by first | rfl | simp only [belowH, belowE, belowC, belowL, belowR, belowP, belowL_d, belowR_d, List.length_cons, List.length_nil, Nat.reduceAdd, Nat.reduceLT, decide_true, Bool.and_self, Bool.and_true])) ?_ ?_
        · intro j x hx hj hL C2 hC2
          have hjI : (j : Int) < (G.length : Int) := by omega
          have hwj : IntKind.i64.wrap ((j : Int) + 1) = ((j + 1 : Nat) : Int) := by rw [IntKind.wrap_i64]; omega
          obtain ⟨q, w, hw, hwx, hqx, hhx⟩ := hga.out j x hx
          have hL2 : (x ≠ v.id → foeN n v w = false) → ∀ w ∈ n.vpcs, w.id ∈ G.take (j + 1) → w.id ≠ v.id → foeN n v w = false := fun h u hu hug hne => by
            rw [take_snoc hx] at hug
            rcases List.mem_append.1 hug with hug | hug
            · exact hL u hu hug hne
            · have e1 : u.id = x := List.mem_singleton.1 hug
              obtain ⟨p, hp⟩ := List.mem_iff_getElem?.1 hu
              have e2 := vpcIx_at hso.out hp
              rw [e1, hqx] at e2
              cases e2
              rw [hw] at hp
              cases hp
              exact h (by rw [← e1]; exact hne)
          by_cases hxv : x = v.id
          · have e1 : (x != v.id) = false := by simpa using hxv
            have hn := hL2 fun h => absurd hxv h
            clear hL2 hL
            replace hn := Lib.hid hn
            replace hxv := Lib.hid hxv
            replace hwx := Lib.hid hwx
            repeat' (first | (with_reducible refine And.intro ?_ ?_) | (with_reducible refine gK_i (fun _ => ?_) (fun _ => ?_)) | (with_reducible refine condS_i (fun _ => ?_) (fun _ => ?_)) | (with_reducible refine drw_i (by kernel_rfl)) | simp -dsimp only [go_sem, seval, *, encT, encV, encA, hkI, hjI, hwj, hv, hx, e1, undef] | ((with_reducible refine opK_c ?_); simp -dsimp only [go_sem, seval, encT, encV, encA, hkI, hjI, hwj, hv, hx, e1, undef]; first | refine callK_r (by first | assumption | fail) (by first | exact .inl rfl | exact .inr rfl) ?_ | (refine callK_i (by assumption) ?_ ?_ ?_; (solve | (repeat (first | exact DLe.refl _ | exact DLe.nil _ | (refine DLe.tup ?_) | (refine DLe.agg ?_ rfl) | exact trivial | (refine And.intro ?_ ?_)))); (solve | exact .inl rfl | exact .inr rfl))) | fail | omega | exact decide_eq_true (by omega) | exact DLe.refl _)
            exact hC2 _ _ hn.out (weak_forget _ (by simp) (by (try simp only [encT]); rfl) (by (repeat' (first | exact trivial | (refine ⟨rfl, ?_⟩)))) (by first | rfl | simp only [belowH, belowE, belowC, belowL, belowR, belowP, belowL_d, belowR_d, List.length_cons, List.length_nil, Nat.reduceAdd, Nat.reduceLT, decide_true, Bool.and_self, Bool.and_true]) (by first | rfl | simp only [belowH, belowE, belowC, belowL, belowR, belowP, belowL_d, belowR_d, List.length_cons, List.length_nil, Nat.reduceAdd, Nat.reduceLT, decide_true, Bool.and_self, Bool.and_true]))
          · have e1 : (x != v.id) = true := by simpa using hxv
            have hat := vpcAt_p n x (by omega)
            rw [vpcAt_ix, hqx] at hat
            simp only at hat
            have hrv := (vpcOK_of (hI.out.1 v (List.mem_of_getElem? hv))).n4
            have hrw := (vpcOK_of (hI.out.1 w (List.mem_of_getElem? hw))).n4
            have hcl := clashR_p v w (by omega) (by omega)
            have hq0 : (0 : Int) ≤ (q : Int) := by omega
            have hql : (q : Int) < (n.vpcs.length : Int) := by have := (List.getElem?_eq_some_iff.1 hw).1; omega
            have hfe : foeN n v w = clashV v w := by unfold foeN; rw [hwx, hhx]; simp
            have hkq : k ≠ q := fun e => by subst e; rw [hv] at hw; cases hw; exact hxv hwx.symm
            clear hrv hrw
            replace hwx := Lib.hid hwx
            replace hkq := Lib.hid hkq
            replace hqx := Lib.hid hqx
            replace hhx := Lib.hid hhx
            replace hL := Lib.hid hL
            cases b : clashV v w with
            | true =>
              have hr : R = 1 := by
                rw [hR.out]
                exact chkT_one hno (.inr (.inr (.inr (peace_war hkq.out hv hw (by rw [hfe]; exact b)))))
              rw [b] at hcl
              rw [hr]
              clear hr hL2 hfe b
              replace hxv := Lib.hid hxv
              repeat' (first | (with_reducible refine And.intro ?_ ?_) | (with_reducible refine gK_i (fun _ => ?_) (fun _ => ?_)) | (with_reducible refine condS_i (fun _ => ?_) (fun _ => ?_)) | (with_reducible refine drw_i (by kernel_rfl)) | simp -dsimp only [go_sem, seval, *, encT, encV, encA, hkI, hjI, hwj, hv, hx, hw, e1, hq0, hql, undef] | ((with_reducible refine opK_c ?_); simp -dsimp only [go_sem, seval, encT, encV, encA, hkI, hjI, hwj, hv, hx, hw, e1, hq0, hql, undef]; first | refine callK_r (by first | assumption | exact hat | exact hcl) (by first | exact .inl rfl | exact .inr rfl) ?_ | (refine callK_i (by assumption) ?_ ?_ ?_; (solve | (repeat (first | exact DLe.refl _ | exact DLe.nil _ | (refine DLe.tup ?_) | (refine DLe.agg ?_ rfl) | exact trivial | (refine And.intro ?_ ?_)))); (solve | exact .inl rfl | exact .inr rfl))) | fail | omega | exact decide_eq_true (by omega) | exact DLe.refl _)
              all_goals exact DLe.refl _
            | false =>
              have hn := hL2 fun _ => by rw [hfe]; exact b
              rw [b] at hcl
              clear hL2 hfe b
              replace hn := Lib.hid hn
              replace hxv := Lib.hid hxv
              repeat' (first | (with_reducible refine And.intro ?_ ?_) | (with_reducible refine gK_i (fun _ => ?_) (fun _ => ?_)) | (with_reducible refine condS_i (fun _ => ?_) (fun _ => ?_)) | (with_reducible refine drw_i (by kernel_rfl)) | simp -dsimp only [go_sem, seval, *, encT, encV, encA, hkI, hjI, hwj, hv, hx, hw, e1, hq0, hql, undef] | ((with_reducible refine opK_c ?_); simp -dsimp only [go_sem, seval, encT, encV, encA, hkI, hjI, hwj, hv, hx, hw, e1, hq0, hql, undef]; first | refine callK_r (by first | assumption | exact hat | exact hcl) (by first | exact .inl rfl | exact .inr rfl) ?_ | (refine callK_i (by assumption) ?_ ?_ ?_; (solve | (repeat (first | exact DLe.refl _ | exact DLe.nil _ | (refine DLe.tup ?_) | (refine DLe.agg ?_ rfl) | exact trivial | (refine And.intro ?_ ?_)))); (solve | exact .inl rfl | exact .inr rfl))) | fail | omega | exact decide_eq_true (by omega) | exact DLe.refl _)
              exact hC2 _ _ hn.out (weak_forget _ (by simp) (by (try simp only [encT]); rfl) (by (repeat' (first | exact trivial | (refine ⟨rfl, ?_⟩)))) (by first | rfl | simp only [belowH, belowE, belowC, belowL, belowR, belowP, belowL_d, belowR_d, List.length_cons, List.length_nil, Nat.reduceAdd, Nat.reduceLT, decide_true, Bool.and_self, Bool.and_true]) (by first | rfl | simp only [belowH, belowE, belowC, belowL, belowR, belowP, belowL_d, belowR_d, List.length_cons, List.length_nil, Nat.reduceAdd, Nat.reduceLT, decide_true, Bool.and_self, Bool.and_true]))
        · intro hL C2
          rw [List.take_length] at hL
          have hn := hst.out fun w hw hne => by
            by_cases hh : headN n w.id = headN n v.id
            · exact hL w hw (hgm.out w hw hh) hne
            · unfold foeN
              have : (headN n v.id == headN n w.id) = false := by simpa using fun e => hh e.symm
              rw [this]; rfl
          replace hL := Lib.hid hL
          replace hn := Lib.hid hn
          repeat' (first | (with_reducible refine And.intro ?_ ?_) | (with_reducible refine gK_i (fun _ => ?_) (fun _ => ?_)) | (with_reducible refine condS_i (fun _ => ?_) (fun _ => ?_)) | (with_reducible refine drw_i (by kernel_rfl)) | simp -dsimp only [go_sem, seval, *, encT, hwr, Int.lt_irrefl, undef] | ((with_reducible refine opK_c ?_); simp -dsimp only [go_sem, seval, encT, hwr, Int.lt_irrefl, undef]; first | refine callK_r (by first | assumption | fail) (by first | exact .inl rfl | exact .inr rfl) ?_ | (refine callK_i (by assumption) ?_ ?_ ?_; (solve | (repeat (first | exact DLe.refl _ | exact DLe.nil _ | (refine DLe.tup ?_) | (refine DLe.agg ?_ rfl) | exact trivial | (refine And.intro ?_ ?_)))); (solve | exact .inl rfl | exact .inr rfl))) | fail | omega | exact decide_eq_true (by omega) | exact DLe.refl _)
          exact hC _ _ hn.out (weak_forget _ (by simp) (by (try simp only [encT]); rfl) (by (repeat' (first | exact trivial | (refine ⟨rfl, ?_⟩)))) (by first | rfl | simp only [belowH, belowE, belowC, belowL, belowR, belowP, belowL_d, belowR_d, List.length_cons, List.length_nil, Nat.reduceAdd, Nat.reduceLT, decide_true, Bool.and_self, Bool.and_true]) (by first | rfl | simp only [belowH, belowE, belowC, belowL, belowR, belowP, belowL_d, belowR_d, List.length_cons, List.length_nil, Nat.reduceAdd, Nat.reduceLT, decide_true, Bool.and_self, Bool.and_true]))
      · intro hK C
        rw [List.take_length] at hK
        have hr : R = 0 := by
          rw [hR.out]
          refine chkT_zero hno hvB.out (by rw [List.all_eq_true]; exact hJ.out.1) hJ.out.2 (peace_good fun i v w hv hw => ?_)
          exact hK v (List.mem_of_getElem? hv) w (List.mem_of_mem_take hw) (rise_ne hso.out hv hw)
        rw [hr]
        replace hr := Lib.hid hr
        replace hK := Lib.hid hK
        repeat' (first | (with_reducible refine And.intro ?_ ?_) | (with_reducible refine gK_i (fun _ => ?_) (fun _ => ?_)) | (with_reducible refine condS_i (fun _ => ?_) (fun _ => ?_)) | (with_reducible refine drw_i (by kernel_rfl)) | simp -dsimp only [go_sem, seval, *, encT, Int.lt_irrefl, undef] | ((with_reducible refine opK_c ?_); simp -dsimp only [go_sem, seval, encT, Int.lt_irrefl, undef]; first | refine callK_r (by first | assumption | fail) (by first | exact .inl rfl | exact .inr rfl) ?_ | (refine callK_i (by assumption) ?_ ?_ ?_; (solve | (repeat (first | exact DLe.refl _ | exact DLe.nil _ | (refine DLe.tup ?_) | (refine DLe.agg ?_ rfl) | exact trivial | (refine And.intro ?_ ?_)))); (solve | exact .inl rfl | exact .inr rfl))) | fail | omega | exact decide_eq_true (by omega) | exact DLe.refl _)
        all_goals exact DLe.refl _
end Go.Proofs.Ytinnohljknmolaa
namespace Go.Proofs.Ytinnohljknmolaa
open Go Go.RowKit
def vb0 : Vpc := ⟨3, [⟨⟨256, 10⟩, 7⟩], [⟨1, ⟨256, 13⟩, [⟨2, [257]⟩]⟩]⟩
theorem house_p : PSpec Try.prog 23 [] (.agg (encV vb0)) := by
  refine ps_i tab_ok mixed Try.func23 rfl Try.ntmps23 Try.results23 (by kernel_rfl) ?_
  repeat' (first | (with_reducible refine And.intro ?_ ?_) | (with_reducible refine gK_i (fun _ => ?_) (fun _ => ?_)) | (with_reducible refine condS_i (fun _ => ?_) (fun _ => ?_)) | (with_reducible refine drw_i (by kernel_rfl)) | simp -dsimp only [go_sem, seval, *, encV, encG, encN, encF, encA, vb0] | ((with_reducible refine opK_c ?_); simp -dsimp only [go_sem, seval, encV, encG, encN, encF, encA, vb0]; first | refine callK_r (by first | assumption | fail) (by first | exact .inl rfl | exact .inr rfl) ?_ | (refine callK_i (by assumption) ?_ ?_ ?_; (solve | (repeat (first | exact DLe.refl _ | exact DLe.nil _ | (refine DLe.tup ?_) | (refine DLe.agg ?_ rfl) | exact trivial | (refine And.intro ?_ ?_)))); (solve | exact .inl rfl | exact .inr rfl))) | fail | omega | exact decide_eq_true (by omega) | exact DLe.refl _)
  all_goals exact (by repeat (first | exact DLe.refl _ | exact DLe.nil _ | (refine DLe.tup ?_) | (refine DLe.agg ?_ rfl) | exact trivial | (refine And.intro ?_ ?_)))
end Go.Proofs.Ytinnohljknmolaa
namespace Go.Proofs.Ytinnohljknmolaa
open Go Go.RowKit
def rb0 : Net := ⟨[vb0], []⟩
def rb1 : List Rte := [⟨⟨0, 0⟩, 1⟩, ⟨⟨256, 8⟩, 2⟩, ⟨⟨256, 8⟩, 3⟩]
set_option maxRecDepth 100000 in
theorem rb_1 : tableN rb0 3 = ([⟨⟨256, 10⟩, 3⟩], 0) := by kernel_rfl
set_option maxRecDepth 100000 in
theorem rb_2 : findR rb1 300 = (⟨⟨256, 8⟩, 2⟩, true, 0) := by kernel_rfl
set_option maxRecDepth 100000 in
set_option maxHeartbeats 1000000 in
theorem routeBegun_p : PSpec Try.prog 10 [] (.v (.bool true)) := by
  have h0 := house_p
  have h1 := table_p rb0 3
  have h2 := find_p rb1 300
  rw [rb_1] at h1
  rw [rb_2] at h2
  simp only [encT, encV, encG, encN, encF, encA, encP, encK, encRo, rb0, rb1, vb0, List.map_nil, List.map_cons] at h0 h1 h2
  have h1 := h1.args (ds := [.agg [.sl 3 [[.v (.int .i64 3), .sl 3 [[.v (.int .i64 256), .v (.int .i64 10), .v (.int .i64 7)]], .sl 4 [[.v (.int .i64 1), .v (.int .i64 256), .v (.int .i64 13), .sl 2 [[.v (.int .i64 2), .sl 1 [[.v (.int .i64 257)]]]]]]]], .v (.slice none 0 0)], .v (.int .i64 3)]) ⟨(by repeat (first | exact DLe.refl _ | exact DLe.nil _ | (refine DLe.tup ?_) | (refine DLe.agg ?_ rfl) | exact trivial | (refine And.intro ?_ ?_))), DLe.refl _, trivial⟩
  refine ps_i tab_ok mixed Try.func10 rfl Try.ntmps10 Try.results10 (by kernel_rfl) ?_
  repeat' (first | (with_reducible refine And.intro ?_ ?_) | (with_reducible refine gK_i (fun _ => ?_) (fun _ => ?_)) | (with_reducible refine condS_i (fun _ => ?_) (fun _ => ?_)) | (with_reducible refine drw_i (by kernel_rfl)) | simp -dsimp only [go_sem, seval, *, undef] | ((with_reducible refine opK_c ?_); simp -dsimp only [go_sem, seval, undef]; first | refine callK_r (by first | assumption | exact h0 | exact h1 | exact h2) (by first | exact .inl rfl | exact .inr rfl) ?_ | (refine callK_i (by assumption) ?_ ?_ ?_; (solve | (repeat (first | exact DLe.refl _ | exact DLe.nil _ | (refine DLe.tup ?_) | (refine DLe.agg ?_ rfl) | exact trivial | (refine And.intro ?_ ?_)))); (solve | exact .inl rfl | exact .inr rfl))) | fail | omega | exact decide_eq_true (by omega) | exact DLe.refl _)
set_option maxRecDepth 100000 in
set_option maxHeartbeats 1000000 in
theorem routeTables_p (n : Net) (id : Int) (hz : NetZ n) : PSpec Try.prog 3 [.agg (encT n), .v (.int .i64 id)] (.v (.bool true)) := by
  have h0 := routeBegun_p
  have h1 := table_p n id
  have h4 := checkNet_p n hz
  clear hz
  by_cases hc : chkT n = 0
  · have hok := netOK.1 hc
    have hat := vpcAt_p n id (by have := hok.n6; omega)
    rw [vpcAt_ix] at hat
    rw [hc] at h4
    cases hx : vpcIx n id with
    | none =>
      have hg : tableN n id = ([], 5) := by
        have : groupN n id = ([], 5) := by unfold groupN; rw [if_neg (by simpa using hc), if_pos (vpcIx_none hx)]
        unfold tableN; rw [this, if_pos (by simp)]
      rw [hx] at hat
      rw [hg] at h1
      have hm1 : decide ((-1 : Int) < 0) = true := rfl
      simp only at hat
      clear hg hc hok hx
      refine ps_i tab_ok mixed Try.func3 rfl Try.ntmps3 Try.results3 (by kernel_rfl) ?_
      repeat' (first | (with_reducible refine And.intro ?_ ?_) | (with_reducible refine gK_i (fun _ => ?_) (fun _ => ?_)) | (with_reducible refine condS_i (fun _ => ?_) (fun _ => ?_)) | (with_reducible refine drw_i (by kernel_rfl)) | simp -dsimp only [go_sem, seval, *, encT, hm1, undef, beq_self_eq_true] | ((with_reducible refine opK_c ?_); simp -dsimp only [go_sem, seval, encT, hm1, undef, beq_self_eq_true]; first | refine callK_r (by first | assumption | exact h1 | exact h4 | exact hat) (by first | exact .inl rfl | exact .inr rfl) ?_ | (refine callK_i (by assumption) ?_ ?_ ?_; (solve | (repeat (first | exact DLe.refl _ | exact DLe.nil _ | (refine DLe.tup ?_) | (refine DLe.agg ?_ rfl) | exact trivial | (refine And.intro ?_ ?_)))); (solve | exact .inl rfl | exact .inr rfl))) | fail | omega | exact decide_eq_true (by omega) | exact DLe.refl _)
      refine loopL tab_ok mixed ([] : List Rte) (fun _ => True) (fun k => [(9, .d (.v (.int .i64 k))), (7, .d (.v (.int .i64 5))), (6, .d (.v (.int .i64 5))), (5, .d (.sl 3 []))]) (fun _ => []) trivial (weak_forget _ (by simp) (by (try simp only [encT]); rfl) (by (repeat' (first | exact trivial | (refine ⟨rfl, ?_⟩)))) (by first | rfl | simp only [belowH, belowE, belowC, belowL, belowR, belowP, belowL_d, belowR_d, List.length_cons, List.length_nil, Nat.reduceAdd, Nat.reduceLT, decide_true, Bool.and_self, Bool.and_true]) (by first | rfl | simp only [belowH, belowE, belowC, belowL, belowR, belowP, belowL_d, belowR_d, List.length_cons, List.length_nil, Nat.reduceAdd, Nat.reduceLT, decide_true, Bool.and_self, Bool.and_true])) (fun k f hf => by simp at hf) fun _ C => ?_
      repeat' (first | (with_reducible refine And.intro ?_ ?_) | (with_reducible refine gK_i (fun _ => ?_) (fun _ => ?_)) | (with_reducible refine condS_i (fun _ => ?_) (fun _ => ?_)) | (with_reducible refine drw_i (by kernel_rfl)) | simp -dsimp only [go_sem, seval, *, undef, Int.lt_irrefl, beq_self_eq_true] | ((with_reducible refine opK_c ?_); simp -dsimp only [go_sem, seval, undef, Int.lt_irrefl, beq_self_eq_true]; first | refine callK_r (by first | assumption | exact h0) (by first | exact .inl rfl | exact .inr rfl) ?_ | (refine callK_i (by assumption) ?_ ?_ ?_; (solve | (repeat (first | exact DLe.refl _ | exact DLe.nil _ | (refine DLe.tup ?_) | (refine DLe.agg ?_ rfl) | exact trivial | (refine And.intro ?_ ?_)))); (solve | exact .inl rfl | exact .inr rfl))) | fail | omega | exact decide_eq_true (by omega) | exact DLe.refl _)
    | some i =>
      obtain ⟨v, hv, he, hi, hfs⟩ := vpcIx_some hx
      have hg : tableN n id = (tabN n id, 0) := by
        have : groupN n id = (grpN n id, 0) := by unfold groupN; rw [if_neg (by simpa using hc), if_neg (by rw [hfs]; simp)]
        unfold tableN; rw [this, if_neg (by simp)]
      have htr := tableR_p n id hok
      have htl : (tabN n id).length ≤ 28 := by
        have := rtsN_len hok id n.vpcs.length (Nat.le_refl _)
        have := hok.n6
        unfold tabN; rw [(sortR_perm _).length_eq]; omega
      rw [hx] at hat
      rw [hg] at h1
      have hi0 : decide ((i : Int) < 0) = false := by simp
      simp only at hat
      clear hg hc hok hx hv he hfs
      generalize tabN n id = T at *
      refine ps_i tab_ok mixed Try.func3 rfl Try.ntmps3 Try.results3 (by kernel_rfl) ?_
      repeat' (first | (with_reducible refine And.intro ?_ ?_) | (with_reducible refine gK_i (fun _ => ?_) (fun _ => ?_)) | (with_reducible refine condS_i (fun _ => ?_) (fun _ => ?_)) | (with_reducible refine drw_i (by kernel_rfl)) | simp -dsimp only [go_sem, seval, *, encT, hi0, undef, bne_self_eq_false, beq_self_eq_true] | ((with_reducible refine opK_c ?_); simp -dsimp only [go_sem, seval, encT, hi0, undef, bne_self_eq_false, beq_self_eq_true]; first | refine callK_r (by first | assumption | exact h1 | exact h4 | exact hat | exact htr) (by first | exact .inl rfl | exact .inr rfl) ?_ | (refine callK_i (by assumption) ?_ ?_ ?_; (solve | (repeat (first | exact DLe.refl _ | exact DLe.nil _ | (refine DLe.tup ?_) | (refine DLe.agg ?_ rfl) | exact trivial | (refine And.intro ?_ ?_)))); (solve | exact .inl rfl | exact .inr rfl))) | fail | omega | exact decide_eq_true (by omega) | exact DLe.refl _)
      refine loopL tab_ok mixed T (fun _ => True) (fun k => [(9, .d (.v (.int .i64 k))), (8, .d (.sl 3 (T.map encRo))), (7, .d (.v (.int .i64 0))), (6, .d (.v (.int .i64 0))), (5, .d (.sl 3 (T.map encRo)))]) (fun _ => []) trivial (weak_forget _ (by simp) (by (try simp only [encT]); rfl) (by (repeat' (first | exact trivial | (refine ⟨rfl, ?_⟩)))) (by first | rfl | simp only [belowH, belowE, belowC, belowL, belowR, belowP, belowL_d, belowR_d, List.length_cons, List.length_nil, Nat.reduceAdd, Nat.reduceLT, decide_true, Bool.and_self, Bool.and_true]) (by first | rfl | simp only [belowH, belowE, belowC, belowL, belowR, belowP, belowL_d, belowR_d, List.length_cons, List.length_nil, Nat.reduceAdd, Nat.reduceLT, decide_true, Bool.and_self, Bool.and_true])) ?_ ?_
      · intro k r hr hk _ C hC
        have hkI : (k : Int) < (T.length : Int) := by omega
        have hwr : IntKind.i64.wrap ((k : Int) + 1) = ((k + 1 : Nat) : Int) := by rw [IntKind.wrap_i64]; omega
        repeat' (first | (with_reducible refine And.intro ?_ ?_) | (with_reducible refine gK_i (fun _ => ?_) (fun _ => ?_)) | (with_reducible refine condS_i (fun _ => ?_) (fun _ => ?_)) | (with_reducible refine drw_i (by kernel_rfl)) | simp -dsimp only [go_sem, seval, *, encRo, encP, hkI, hwr, hr, undef, bne_self_eq_false, beq_self_eq_true] | ((with_reducible refine opK_c ?_); simp -dsimp only [go_sem, seval, encRo, encP, hkI, hwr, hr, undef, bne_self_eq_false, beq_self_eq_true]; first | refine callK_r (by first | assumption | fail) (by first | exact .inl rfl | exact .inr rfl) ?_ | (refine callK_i (by assumption) ?_ ?_ ?_; (solve | (repeat (first | exact DLe.refl _ | exact DLe.nil _ | (refine DLe.tup ?_) | (refine DLe.agg ?_ rfl) | exact trivial | (refine And.intro ?_ ?_)))); (solve | exact .inl rfl | exact .inr rfl))) | fail | omega | exact decide_eq_true (by omega) | exact DLe.refl _)
        exact hC _ _ trivial (weak_forget _ (by simp) (by (try simp only [encT]); rfl) (by (repeat' (first | exact trivial | (refine ⟨rfl, ?_⟩)))) (by first | rfl | simp only [belowH, belowE, belowC, belowL, belowR, belowP, belowL_d, belowR_d, List.length_cons, List.length_nil, Nat.reduceAdd, Nat.reduceLT, decide_true, Bool.and_self, Bool.and_true]) (by first | rfl | simp only [belowH, belowE, belowC, belowL, belowR, belowP, belowL_d, belowR_d, List.length_cons, List.length_nil, Nat.reduceAdd, Nat.reduceLT, decide_true, Bool.and_self, Bool.and_true]))
      · intro _ C
        repeat' (first | (with_reducible refine And.intro ?_ ?_) | (with_reducible refine gK_i (fun _ => ?_) (fun _ => ?_)) | (with_reducible refine condS_i (fun _ => ?_) (fun _ => ?_)) | (with_reducible refine drw_i (by kernel_rfl)) | simp -dsimp only [go_sem, seval, *, undef, Int.lt_irrefl, beq_self_eq_true] | ((with_reducible refine opK_c ?_); simp -dsimp only [go_sem, seval, undef, Int.lt_irrefl, beq_self_eq_true]; first | refine callK_r (by first | assumption | exact h0) (by first | exact .inl rfl | exact .inr rfl) ?_ | (refine callK_i (by assumption) ?_ ?_ ?_; (solve | (repeat (first | exact DLe.refl _ | exact DLe.nil _ | (refine DLe.tup ?_) | (refine DLe.agg ?_ rfl) | exact trivial | (refine And.intro ?_ ?_)))); (solve | exact .inl rfl | exact .inr rfl))) | fail | omega | exact decide_eq_true (by omega) | exact DLe.refl _)
  · have hg : tableN n id = ([], chkT n) := by
      have : groupN n id = ([], chkT n) := by unfold groupN; rw [if_pos hc]
      unfold tableN; rw [this, if_pos hc]
    have hcb : (chkT n == 0) = false := by simpa using hc
    rw [hg] at h1
    clear hg hc
    generalize chkT n = E at *
    refine ps_i tab_ok mixed Try.func3 rfl Try.ntmps3 Try.results3 (by kernel_rfl) ?_
    repeat' (first | (with_reducible refine And.intro ?_ ?_) | (with_reducible refine gK_i (fun _ => ?_) (fun _ => ?_)) | (with_reducible refine condS_i (fun _ => ?_) (fun _ => ?_)) | (with_reducible refine drw_i (by kernel_rfl)) | simp -dsimp only [go_sem, seval, *, encT, hcb, undef, beq_self_eq_true] | ((with_reducible refine opK_c ?_); simp -dsimp only [go_sem, seval, encT, hcb, undef, beq_self_eq_true]; first | refine callK_r (by first | assumption | exact h1 | exact h4) (by first | exact .inl rfl | exact .inr rfl) ?_ | (refine callK_i (by assumption) ?_ ?_ ?_; (solve | (repeat (first | exact DLe.refl _ | exact DLe.nil _ | (refine DLe.tup ?_) | (refine DLe.agg ?_ rfl) | exact trivial | (refine And.intro ?_ ?_)))); (solve | exact .inl rfl | exact .inr rfl))) | fail | omega | exact decide_eq_true (by omega) | exact DLe.refl _)
    refine loopL tab_ok mixed ([] : List Rte) (fun _ => True) (fun k => [(9, .d (.v (.int .i64 k))), (7, .d (.v (.int .i64 E))), (6, .d (.v (.int .i64 E))), (5, .d (.sl 3 []))]) (fun _ => []) trivial (weak_forget _ (by simp) (by (try simp only [encT]); rfl) (by (repeat' (first | exact trivial | (refine ⟨rfl, ?_⟩)))) (by first | rfl | simp only [belowH, belowE, belowC, belowL, belowR, belowP, belowL_d, belowR_d, List.length_cons, List.length_nil, Nat.reduceAdd, Nat.reduceLT, decide_true, Bool.and_self, Bool.and_true]) (by first | rfl | simp only [belowH, belowE, belowC, belowL, belowR, belowP, belowL_d, belowR_d, List.length_cons, List.length_nil, Nat.reduceAdd, Nat.reduceLT, decide_true, Bool.and_self, Bool.and_true])) (fun k f hf => by simp at hf) fun _ C => ?_
    repeat' (first | (with_reducible refine And.intro ?_ ?_) | (with_reducible refine gK_i (fun _ => ?_) (fun _ => ?_)) | (with_reducible refine condS_i (fun _ => ?_) (fun _ => ?_)) | (with_reducible refine drw_i (by kernel_rfl)) | simp -dsimp only [go_sem, seval, *, undef, Int.lt_irrefl, beq_self_eq_true] | ((with_reducible refine opK_c ?_); simp -dsimp only [go_sem, seval, undef, Int.lt_irrefl, beq_self_eq_true]; first | refine callK_r (by first | assumption | exact h0) (by first | exact .inl rfl | exact .inr rfl) ?_ | (refine callK_i (by assumption) ?_ ?_ ?_; (solve | (repeat (first | exact DLe.refl _ | exact DLe.nil _ | (refine DLe.tup ?_) | (refine DLe.agg ?_ rfl) | exact trivial | (refine And.intro ?_ ?_)))); (solve | exact .inl rfl | exact .inr rfl))) | fail | omega | exact decide_eq_true (by omega) | exact DLe.refl _)
end Go.Proofs.Ytinnohljknmolaa
namespace Go.Proofs.Ytinnohljknmolaa
open Go Go.RowKit Go.Proofs Go.ChangeShapes Go.WideShapes Go.Deep
/-- Nothing may be written. -/
def NM : Nat → Prop := fun _ => False
section
variable {H : Type} {enc : TypeId × Value → H} {P : Program} {w : World} {base : Nat} {spare : Nat → Bool} {held : Bool}
def RdW {α : Type} (enc : TypeId × Value → H) (P : Program) (w : World) (base : Nat) (spare : Nat → Bool) (held : Bool) (t : TypeId) (R : List Value → α → Prop) (S : α → Prop) : Prop :=
  ∀ fuel cs x, DataW.trod enc P w base spare held fuel t cs = some x → ∃ a, R cs a ∧ ((∀ n ∈ x.1.weights P t, n ≤ reachBytes) → S a)
theorem rdw_of {α : Type} {t : TypeId} {R : List Value → α → Prop} (h : Rd enc P w base spare held t R) : RdW enc P w base spare held t R (fun _ => True) := by
  intro fuel cs x hx
  obtain ⟨a, ha⟩ := h fuel cs x hx
  exact ⟨a, ha, fun _ => trivial⟩
theorem weights_all {e : TypeId} : ∀ {l : List (DataW H)} {d : DataW H}, d ∈ l → ∀ n ∈ d.weights P e, n ∈ DataW.weightsAll P e l
  | a :: l, d, h, n, hn => by
    simp only [DataW.weightsAll, List.mem_append]
    rcases List.mem_cons.1 h with rfl | h
    · exact .inl hn
    · exact .inr (weights_all h n hn)
theorem rdw_field {α : Type} {t : TypeId} {fs : Array Field} {fuel : Nat} {cs : List Value} {x : DataW H × List MemPlace} (ht : P.underlying t = some (.struct fs)) (h : DataW.trod enc P w base spare held fuel t cs = some x)
    (j : Nat) {f : Field} (hf : fs[j]? = some f) {R : List Value → α → Prop} {S : α → Prop} (hr : RdW enc P w base spare held f.type R S) : ∃ a, R ((cs.drop f.offset).take (P.cellsOf f.type)) a ∧ ((∀ n ∈ x.1.weights P t, n ≤ reachBytes) → S a) := by
  obtain ⟨xs, n, _, rfl, _, hlen, hg⟩ := DataW.trod_struct ht h
  have h1 := hg j f hf
  have hj : j < xs.length := by rw [hlen]; exact (Array.getElem?_eq_some_iff.1 hf).1
  rw [List.getElem?_eq_getElem hj] at h1
  obtain ⟨a, ha, hs⟩ := hr _ _ _ h1
  refine ⟨a, ha, fun hw => hs fun n hn => hw n ?_⟩
  simp only [DataW.weights, ht]
  exact DataW.weights_mem_each (j := j) (t := f.type) (d := (xs[j]).1) (by simp [hf]) (by simp [List.getElem?_eq_getElem hj]) n hn
theorem rdw_slice {α : Type} {t e : TypeId} {k : Nat} {R : List Value → α → Prop} {S : α → Prop} (ht : P.underlying t = some (.slice e)) (hc : P.cellsOf e = k + 1) (he : RdW enc P w base spare held e R S) :
    RdW enc P w base spare held t (fun cs (l : List α) => ∃ v, cs = [v] ∧ IsSl (inW w) w (k + 1) R v l) (fun l => l.length * P.bytesOf e ≤ reachBytes ∧ ∀ a ∈ l, S a) := by
  intro fuel cs x hx
  rcases open_slice ht hx with ⟨rfl, rfl⟩ | ⟨a, len, cap, m, n, D, Pl, rfl, hb, hl, hm, hmm, rfl, hi⟩
  · exact ⟨[], ⟨_, rfl, none, 0, rfl, ⟨Nat.le_refl _, by decide, fun i h => by simp at h⟩⟩, fun _ => ⟨by simp, fun a h => by simp at h⟩⟩
  · have hlm : len ≤ m := by rw [hmm]; split <;> omega
    obtain ⟨l, hll, hq⟩ := pick_list (Q := fun i y => ∃ cs', w.cells? base (a.add (i * P.cellsOf e)) (P.cellsOf e) = some cs' ∧ R cs' y ∧ ((∀ n ∈ (D i).weights P e, n ≤ reachBytes) → S y)) len fun i h => by
      obtain ⟨cs', h1, h2⟩ := hi i (by omega)
      obtain ⟨y, hy, hs⟩ := he _ _ _ h2
      exact ⟨y, cs', h1, hy, hs⟩
    refine ⟨l, ⟨_, rfl, some a, cap, by rw [hll], ⟨by omega, by unfold maxLen at hm; omega, fun i h => ?_⟩⟩, fun hw => ⟨?_, fun y hy => ?_⟩⟩
    · obtain ⟨cs', h1, h2, -⟩ := hq i h
      rw [hc] at h1
      obtain ⟨_, hcl, hat⟩ := World.cells?_some h1
      obtain ⟨b, off, spot⟩ := a
      have hspot : spot = none := by
        obtain ⟨cs0, g1, _⟩ := hq 0 (by omega)
        rw [hc] at g1
        obtain ⟨_, gcl, gat⟩ := World.cells?_some g1
        have g0 := gat (i := 0) (by omega)
        have g0' : w.cell? ⟨b, off, spot⟩ = some (cs0[0]'(by omega)) := by
          have : ((⟨b, off, spot⟩ : Addr).add (0 * (k + 1))).add 0 = ⟨b, off, spot⟩ := by simp [Addr.add]
          rw [this] at g0
          rw [g0]; exact List.getElem?_eq_getElem (by omega)
        exact World.cell?_spot g0'
      subst hspot
      have hadd : ∀ o j, ((⟨b, o, none⟩ : Addr).add j) = ⟨b, o + j, none⟩ := by
        intro o j; unfold Addr.add; split <;> simp_all
      refine ⟨b, off, cs', rfl, ?_, hcl, h2, fun j hj => ?_⟩
      · have := hat (i := 0) (by omega)
        rw [hadd, hadd] at this
        exact lt_of_cell (this.trans (List.getElem?_eq_getElem (by omega)))
      · have := hat (i := j) (by omega)
        rw [hadd, hadd] at this
        rw [this]
        exact List.getElem?_eq_getElem hj
    · have := hw (((List.range len).map D).length + ((List.range (m - len)).map fun j => D (len + j)).length |> (· * P.bytesOf e)) (by simp [DataW.weights, ht])
      simp only [List.length_map, List.length_range] at this
      rw [hll]
      exact Nat.le_trans (Nat.mul_le_mul_right _ (by omega)) this
    · obtain ⟨i, hil, rfl⟩ := List.mem_iff_getElem.1 hy
      obtain ⟨cs', h1, h2, h3⟩ := hq i hil
      refine h3 fun n hn => hw n ?_
      simp only [DataW.weights, ht]
      refine List.mem_cons_of_mem _ (List.mem_append_left _ (weights_all (d := D i) (List.mem_map.2 ⟨i, by simp; omega, rfl⟩) n hn))
theorem argw {α : Type} {R : List Value → α → Prop} {S : α → Prop} {r : Reach} {b0 : Nat} {t : TypeId} {fs : Array Field} {v : Value} {d : DataW H} {p : List MemPlace} (ht : P.underlying t = some (.struct fs)) (hval : Value.okWide P w r b0 t v) (hd : DataW.Trod enc P w base spare held t v d p)
    (hr : RdW enc P w base spare held t R S) : ∃ cs a, v = .agg cs ∧ R cs.toList a ∧ ((∀ n ∈ d.weights P t, n ≤ reachBytes) → S a) := by
  obtain ⟨cs, rfl, _⟩ := okWide_struct ht hval
  obtain ⟨fuel, hf⟩ := hd
  obtain ⟨a, ha, hs⟩ := hr _ _ _ hf
  exact ⟨cs, a, rfl, by simpa [Value.cells] using ha, hs⟩
end
end Go.Proofs.Ytinnohljknmolaa
namespace Go.Proofs.Ytinnohljknmolaa
open Go Go.RowKit Go.Proofs Go.ChangeShapes Go.WideShapes Go.Deep
set_option maxRecDepth 100000
/-- A slice of what reads as data reads as data. -/
theorem isSl_rep {α : Type} {enc : α → List D} {sz : Nat} {w : World} (h0 : 0 < sz) (hen : ∀ a, (enc a).length = sz ∧ ∀ d ∈ enc a, d.one = true) {v : Value} {l : List α} (h : IsSl (inW w) w sz (fun cs a => RepDs NM w (enc a) cs) v l) : RepD NM w (.sl sz (l.map enc)) v := by
  obtain ⟨ao, cap, rfl, hs⟩ := h
  cases l with
  | nil => exact .nil sz ao cap hs.cap_max
  | cons u us =>
    obtain ⟨b, off, cs, rfl, hAb, hl, hR, hcs⟩ := hs.elem 0 (by simp)
    have key : ∀ i (hi : i < (u :: us).length), ∃ cs : List Value, cs.length = sz ∧ RepDs NM w (enc (u :: us)[i]) cs ∧ cellsAt w b (off + i * sz) cs := by
      intro i hi
      obtain ⟨b', off', cs', e, -, hl', hR', hcs'⟩ := hs.elem i hi
      cases e
      exact ⟨cs', hl', hR', hcs'⟩
    have hlen : ((u :: us).map enc).length = (u :: us).length := by simp
    rw [← hlen]
    refine .sl sz ((u :: us).map enc) b off cap (fun i j => (w.cell? ⟨b, off + i * sz + j, none⟩).getD undef) (fun h => h) hAb (by rw [hlen]; exact hs.cap_le) hs.cap_max (fun r hr => ?_) (fun r hr => ?_) (fun i j hi hj => ?_) (fun i j row d hi hj => ?_)
    · obtain ⟨x, -, rfl⟩ := List.mem_map.1 hr; exact (hen x).1
    · obtain ⟨x, -, rfl⟩ := List.mem_map.1 hr; exact (hen x).2
    · obtain ⟨cs', hl', -, hcs'⟩ := key i (by simpa using hi)
      rw [hcs' j (by omega)]; rfl
    · have hi' : i < (u :: us).length := by have := (List.getElem?_eq_some_iff.1 hi).1; simpa using this
      obtain ⟨cs', hl', hR', hcs'⟩ := key i hi'
      rw [List.getElem?_map, List.getElem?_eq_getElem hi'] at hi
      simp only [Option.map_some, Option.some.injEq] at hi
      subst hi
      have hj' : j < cs'.length := by rw [← hR'.1]; exact (List.getElem?_eq_some_iff.1 hj).1
      rw [hcs' j hj']
      exact hR'.2 j d _ hj (List.getElem?_eq_getElem hj')
section
variable {H : Type} {enc : TypeId × Value → H} {w : World} {base : Nat} {spare : Nat → Bool} {held : Bool}
theorem Try.sizePfx : Try.prog.cellsOf 34 = 2 := by kernel_rfl
theorem Try.sizeInt1 : Try.prog.cellsOf 3 = 1 := by kernel_rfl
theorem Try.sizeInts : Try.prog.cellsOf 51 = 1 := by kernel_rfl
theorem Try.sizeFace : Try.prog.cellsOf 91 = 2 := by kernel_rfl
theorem Try.sizeSub : Try.prog.cellsOf 86 = 4 := by kernel_rfl
theorem Try.sizeRange : Try.prog.cellsOf 49 = 3 := by kernel_rfl
theorem Try.sizeVpc : Try.prog.cellsOf 47 = 3 := by kernel_rfl
theorem Try.sizeFaces : Try.prog.cellsOf 84 = 1 := by kernel_rfl
theorem Try.bytesFace : Try.prog.bytesOf 91 = 32 := by kernel_rfl
theorem Try.sizeSubs : Try.prog.cellsOf 45 = 1 := by kernel_rfl
theorem Try.bytesSub : Try.prog.bytesOf 86 = 48 := by kernel_rfl
theorem Try.sizeRanges : Try.prog.cellsOf 44 = 1 := by kernel_rfl
theorem rd_pfx : Rd enc Try.prog w base spare held 34 Pfx.R := by
  intro fuel cs x hx
  have hl := rd_len Try.underlying34 hx
  rw [Try.sizePfx] at hl
  obtain ⟨a, ha⟩ := rd_field Try.underlying34 hx 0 rfl (rd_int Try.underlying3)
  obtain ⟨b, hb⟩ := rd_field Try.underlying34 hx 1 rfl (rd_int Try.underlying3)
  match cs, hl with
  | [c0, c1], _ =>
    simp [Try.sizeInt1, IntR] at ha hb
    exact ⟨⟨a, b⟩, by simp [Pfx.R, ha.1, hb.1]⟩
theorem repDs_ints (l : List Int) : RepDs NM w (l.map fun n => .v (.int .i64 n)) (l.map fun n => .int .i64 n) := by
  refine ⟨by simp, fun j d x hj hx => ?_⟩
  rw [List.getElem?_map, Option.map_eq_some_iff] at hj hx
  obtain ⟨a, ha, rfl⟩ := hj
  obtain ⟨c, hc, rfl⟩ := hx
  rw [ha] at hc
  obtain rfl := Option.some.inj hc
  exact .v _
theorem repDs_appR {M : Nat → Prop} {w : World} {ds es : List D} {vs us : List Value} (h : RepDs M w ds vs) (g : RepDs M w es us) : RepDs M w (ds ++ es) (vs ++ us) := by
  refine ⟨by simp [h.1, g.1], fun j d x hj hx => ?_⟩
  rcases Nat.lt_or_ge j ds.length with hlt | hge
  · rw [List.getElem?_append_left hlt] at hj
    rw [List.getElem?_append_left (by rw [← h.1]; exact hlt)] at hx
    exact h.2 j d x hj hx
  · rw [List.getElem?_append_right hge] at hj
    rw [List.getElem?_append_right (by rw [← h.1]; exact hge), ← h.1] at hx
    exact g.2 _ d x hj hx
theorem repDs_one {M : Nat → Prop} {w : World} {d : D} {v : Value} (h : RepD M w d v) : RepDs M w [d] [v] := ⟨rfl, fun j e x hj hx => by
  match j with
  | 0 => cases hj; cases hx; exact h
  | j + 1 => simp at hj⟩
theorem rdw_ints : RdW enc Try.prog w base spare held 51 (fun cs (l : List Int) => ∃ v, cs = [v] ∧ RepD NM w (.sl 1 (l.map encA)) v) (fun _ => True) := by
  have h := rdw_slice (enc := enc) (base := base) (spare := spare) (held := held) Try.underlying51 Try.sizeInt1 (rdw_of ((rd_int (w := w) Try.underlying3).map id (R' := fun cs (a : Int) => RepDs NM w (encA a) cs) fun cs a h => by rw [h.1]; exact repDs_ints [a]))
  intro fuel cs x hx
  obtain ⟨l, ⟨v, rfl, hs⟩, hw⟩ := h fuel cs x hx
  refine ⟨l, ⟨v, rfl, isSl_rep (sz := 1) (by omega) (fun a => ⟨rfl, fun d hd => ?_⟩) hs⟩, fun _ => trivial⟩
  simp [encA] at hd
  rcases hd with rfl; rfl
theorem rdw_face : RdW enc Try.prog w base spare held 91 (fun cs (f : Fce) => RepDs NM w (encF f) cs) (fun _ => True) := by
  intro fuel cs x hx
  have hl := rd_len Try.underlying91 hx
  rw [Try.sizeFace] at hl
  obtain ⟨a, ha⟩ := rd_field Try.underlying91 hx 0 rfl (rd_int Try.underlying3)
  obtain ⟨l, hs, hw⟩ := rdw_field Try.underlying91 hx 1 rfl rdw_ints
  match cs, hl with
  | [c0, c1], _ =>
    simp [Try.sizeInt1, Try.sizeInts, IntR] at ha hs
    refine ⟨⟨a, l⟩, ?_, fun _ => trivial⟩
    rw [ha.1]
    exact repDs_appR (repDs_ints [a]) (repDs_one hs)
theorem rdw_faces : RdW enc Try.prog w base spare held 84 (fun cs (l : List Fce) => ∃ v, cs = [v] ∧ RepD NM w (.sl 2 (l.map encF)) v) (fun l => l.length * 32 ≤ reachBytes) := by
  have h := rdw_slice (enc := enc) (base := base) (spare := spare) (held := held) Try.underlying84 Try.sizeFace (rdw_face (w := w))
  intro fuel cs x hx
  obtain ⟨l, ⟨v, rfl, hs⟩, hw⟩ := h fuel cs x hx
  refine ⟨l, ⟨v, rfl, isSl_rep (sz := 2) (by omega) (fun a => ⟨rfl, fun d hd => ?_⟩) hs⟩, fun hh => by have := (hw hh).1; rwa [Try.bytesFace] at this⟩
  simp [encF] at hd
  rcases hd with rfl | rfl <;> rfl
theorem rdw_sub : RdW enc Try.prog w base spare held 86 (fun cs (s : Sbn) => RepDs NM w (encN s) cs) (fun s => s.faces.length * 32 ≤ reachBytes) := by
  intro fuel cs x hx
  have hl := rd_len Try.underlying86 hx
  rw [Try.sizeSub] at hl
  obtain ⟨a, ha⟩ := rd_field Try.underlying86 hx 0 rfl (rd_int Try.underlying3)
  obtain ⟨p, hp⟩ := rd_field Try.underlying86 hx 1 rfl rd_pfx
  obtain ⟨l, hs, hw⟩ := rdw_field Try.underlying86 hx 2 rfl rdw_faces
  match cs, hl with
  | [c0, c1, c2, c3], _ =>
    simp [Try.sizePfx, Try.sizeInt1, Try.sizeFaces, IntR, Pfx.R] at ha hp hs
    refine ⟨⟨a, p, l⟩, ?_, hw⟩
    rw [ha.1, hp.1, hp.2]
    exact repDs_appR (repDs_ints [a, p.at_, p.len]) (repDs_one hs)
theorem rdw_subs : RdW enc Try.prog w base spare held 45 (fun cs (l : List Sbn) => ∃ v, cs = [v] ∧ RepD NM w (.sl 4 (l.map encN)) v) (fun l => l.length * 48 ≤ reachBytes ∧ ∀ s ∈ l, s.faces.length * 32 ≤ reachBytes) := by
  have h := rdw_slice (enc := enc) (base := base) (spare := spare) (held := held) Try.underlying45 Try.sizeSub (rdw_sub (w := w))
  intro fuel cs x hx
  obtain ⟨l, ⟨v, rfl, hs⟩, hw⟩ := h fuel cs x hx
  refine ⟨l, ⟨v, rfl, isSl_rep (sz := 4) (by omega) (fun a => ⟨rfl, fun d hd => ?_⟩) hs⟩, fun hh => ⟨by have := (hw hh).1; rwa [Try.bytesSub] at this, (hw hh).2⟩⟩
  simp [encN] at hd
  rcases hd with rfl | rfl | rfl | rfl <;> rfl
theorem rd_rng : Rd enc Try.prog w base spare held 49 fun cs (r : Rng) => RepDs NM w (encG r) cs := by
  intro fuel cs x hx
  have hl := rd_len Try.underlying49 hx
  rw [Try.sizeRange] at hl
  obtain ⟨p, hp⟩ := rd_field Try.underlying49 hx 0 rfl rd_pfx
  obtain ⟨a, ha⟩ := rd_field Try.underlying49 hx 1 rfl (rd_int Try.underlying3)
  match cs, hl with
  | [c0, c1, c2], _ =>
    simp [Try.sizePfx, Try.sizeInt1, IntR, Pfx.R] at ha hp
    refine ⟨⟨p, a⟩, ?_⟩
    rw [ha.1, hp.1, hp.2]
    exact repDs_ints [p.at_, p.len, a]
theorem rd_rngD : RdW enc Try.prog w base spare held 49 (fun cs (r : Rng) => RepDs NM w (encG r) cs) (fun _ => True) := rdw_of rd_rng
theorem rdw_rngs : RdW enc Try.prog w base spare held 44 (fun cs (l : List Rng) => ∃ v, cs = [v] ∧ RepD NM w (.sl 3 (l.map encG)) v) (fun _ => True) := by
  have h := rdw_slice (enc := enc) (base := base) (spare := spare) (held := held) Try.underlying44 Try.sizeRange (rd_rngD (w := w))
  intro fuel cs x hx
  obtain ⟨l, ⟨v, rfl, hs⟩, hw⟩ := h fuel cs x hx
  refine ⟨l, ⟨v, rfl, isSl_rep (sz := 3) (by omega) (fun a => ⟨rfl, fun d hd => ?_⟩) hs⟩, fun _ => trivial⟩
  simp [encG] at hd
  rcases hd with rfl | rfl | rfl <;> rfl
theorem rdw_vpc : RdW enc Try.prog w base spare held 47 (fun cs (v : Vpc) => RepDs NM w (encV v) cs) (fun v => v.subs.length ≤ 9223372036854775807 ∧ ∀ s ∈ v.subs, s.faces.length ≤ 9223372036854775807) := by
  intro fuel cs x hx
  have hl := rd_len Try.underlying47 hx
  rw [Try.sizeVpc] at hl
  obtain ⟨a, ha⟩ := rd_field Try.underlying47 hx 0 rfl (rd_int Try.underlying3)
  obtain ⟨r, hr, -⟩ := rdw_field Try.underlying47 hx 1 rfl rdw_rngs
  obtain ⟨l, hs, hw⟩ := rdw_field Try.underlying47 hx 2 rfl rdw_subs
  match cs, hl with
  | [c0, c1, c2], _ =>
    simp [Try.sizeInt1, Try.sizeRanges, Try.sizeSubs, IntR] at ha hr hs
    refine ⟨⟨a, r, l⟩, ?_, fun hh => ?_⟩
    · rw [ha.1]
      exact repDs_appR (repDs_ints [a]) (repDs_appR (repDs_one hr) (repDs_one hs))
    · have := hw hh
      unfold reachBytes at this
      exact ⟨by have := this.1; show l.length ≤ 9223372036854775807; omega, fun s hs => by have := this.2 s hs; omega⟩
end
theorem repDs_n {M : Nat → Prop} {w : World} : RepDs M w [] [] := ⟨rfl, fun j d x hj _ => by simp at hj⟩
theorem repDs_c {M : Nat → Prop} {w : World} {d : D} {v : Value} {ds : List D} {vs : List Value} (h : RepD M w d v) (g : RepDs M w ds vs) : RepDs M w (d :: ds) (v :: vs) := ⟨by simp [g.1], fun j e x hj hx => by
  cases j with
  | zero => simp at hj hx; subst hj; subst hx; exact h
  | succ j => exact g.2 j e x (by simpa using hj) (by simpa using hx)⟩
theorem rep_agg {w : World} {cs : Array Value} {ds : List D} (h : RepDs NM w ds cs.toList) (h1 : ds.all D.one = true) : RepD NM w (.agg ds) (.agg cs) := by
  have := RepD.agg (M := NM) (w := w) ds cs.toList h.1 (fun d hd => List.all_eq_true.1 h1 d hd) h.2
  simpa using this
theorem law_of {P : Program} {f : Nat} {args : List D} {vs : List Value} {W : World} (hp : PSpec P f args (.v (.bool true))) (hds : RepDs NM W args vs) : Calls P f vs.toArray W fun e w' => e = .returned (.bool true) ∧ Ext W w' := by
  refine (hp.2 NM W vs (fun b h => h.elim) hds).mono ?_
  rintro e w' ⟨v, rfl, hv, hx⟩
  cases hv
  exact ⟨rfl, hx⟩
section
variable {H : Type} {enc : TypeId × Value → H} {w : World} {base : Nat} {spare : Nat → Bool} {held : Bool}
end
end Go.Proofs.Ytinnohljknmolaa
namespace Go.Proofs.Ytinnohljknmolaa
open Go Go.RowKit
section
variable {H : Type} {enc : TypeId × Value → H} {w : World} {base : Nat} {spare : Nat → Bool} {held : Bool}
theorem Try.sizeLink : Try.prog.cellsOf 56 = 2 := by kernel_rfl
theorem Try.sizeLinks : Try.prog.cellsOf 23 = 1 := by kernel_rfl
theorem Try.sizeVpcs : Try.prog.cellsOf 22 = 1 := by kernel_rfl
theorem Try.sizeNet : Try.prog.cellsOf 25 = 2 := by kernel_rfl
set_option maxRecDepth 100000 in
theorem rd_lnk : Rd enc Try.prog w base spare held 56 fun cs (l : Lnk) => RepDs NM w (encK l) cs := by
  intro fuel cs x hx
  have hl := rd_len Try.underlying56 hx
  rw [Try.sizeLink] at hl
  obtain ⟨a, ha⟩ := rd_field Try.underlying56 hx 0 rfl (rd_int Try.underlying3)
  obtain ⟨b, hb⟩ := rd_field Try.underlying56 hx 1 rfl (rd_int Try.underlying3)
  match cs, hl with
  | [c0, c1], _ =>
    simp [Try.sizeInt1, IntR] at ha hb
    refine ⟨⟨a, b⟩, ?_⟩
    rw [ha.1, hb.1]
    exact repDs_ints [a, b]
theorem rdw_lnks : RdW enc Try.prog w base spare held 23 (fun cs (l : List Lnk) => ∃ v, cs = [v] ∧ RepD NM w (.sl 2 (l.map encK)) v) (fun _ => True) := by
  have h := rdw_slice (enc := enc) (base := base) (spare := spare) (held := held) Try.underlying23 Try.sizeLink (rdw_of (rd_lnk (w := w)))
  intro fuel cs x hx
  obtain ⟨l, ⟨v, rfl, hs⟩, hw⟩ := h fuel cs x hx
  refine ⟨l, ⟨v, rfl, isSl_rep (sz := 2) (by omega) (fun a => ⟨rfl, fun d hd => ?_⟩) hs⟩, fun _ => trivial⟩
  simp [encK] at hd
  rcases hd with rfl | rfl <;> rfl
theorem rdw_vpcs : RdW enc Try.prog w base spare held 22 (fun cs (l : List Vpc) => ∃ v, cs = [v] ∧ RepD NM w (.sl 3 (l.map encV)) v) (fun l => ∀ v ∈ l, v.subs.length ≤ 9223372036854775807 ∧ ∀ s ∈ v.subs, s.faces.length ≤ 9223372036854775807) := by
  have h := rdw_slice (enc := enc) (base := base) (spare := spare) (held := held) Try.underlying22 Try.sizeVpc (rdw_vpc (w := w))
  intro fuel cs x hx
  obtain ⟨l, ⟨v, rfl, hs⟩, hw⟩ := h fuel cs x hx
  refine ⟨l, ⟨v, rfl, isSl_rep (sz := 3) (by omega) (fun a => ⟨rfl, fun d hd => ?_⟩) hs⟩, fun hh => (hw hh).2⟩
  simp [encV] at hd
  rcases hd with rfl | rfl | rfl <;> rfl
set_option maxRecDepth 100000 in
theorem rdw_net : RdW enc Try.prog w base spare held 25 (fun cs (n : Net) => RepDs NM w (encT n) cs) NetZ := by
  intro fuel cs x hx
  have hl := rd_len Try.underlying25 hx
  rw [Try.sizeNet] at hl
  obtain ⟨vs, hv, hw⟩ := rdw_field Try.underlying25 hx 0 rfl rdw_vpcs
  obtain ⟨ls, hk, -⟩ := rdw_field Try.underlying25 hx 1 rfl rdw_lnks
  match cs, hl with
  | [c0, c1], _ =>
    simp [Try.sizeVpcs, Try.sizeLinks] at hv hk
    exact ⟨⟨vs, ls⟩, repDs_appR (repDs_one hv) (repDs_one hk), hw⟩
end
end Go.Proofs.Ytinnohljknmolaa
namespace Go.Proofs.Ytinnohljknmolaa
open Go Go.RowKit Go.Proofs Go.ChangeShapes Go.WideShapes Go.ChangeAt
set_option linter.unusedVariables false
theorem routeTables_own : ownKnob Try.prog.godebug = Option.none := by kernel_rfl
theorem routeTables_laidOut : laidOutB Try.prog = true := by kernel_rfl
set_option maxRecDepth 100000 in
theorem routeTables_lifted (os : Os) (started : os.Started) (H : Type) (enc : TypeId × Value → H) :
    ReturnsInHanded {} Try.checked os 3 .any (Rows.routeTablesSpec.pre6 enc Try.prog Try.f3 Rows.routeTablesRow.domain false) (Rows.routeTablesSpec.post enc Try.prog Try.f3 false true false false) := by
  refine returnsInHanded_of_change_sized (C := Try.checked) routeTables_own started (by kernel_rfl) Try.func3
    (ChangeSpec.witness6 (enc := enc) (C := Try.checked) false ⟨#[], #[.agg #[.slice none 0 0, .slice none 0 0], .int .i64 0], []⟩ 8 (by kernel_rfl) (by kernel_rfl) (by kernel_rfl) (by kernel_rfl)) ?_
  intro W base args ds gs before hval0 hW hcnd hsz _
  have hval : ∀ (j : Nat) t v, Try.f3.params[j]? = some t → args[j]? = some v → Value.okWide Try.prog W .any base t v := hval0
  have hW' := hW
  obtain ⟨p, q, hA0, hV, rfl, hfz, hnd⟩ := hW
  have hA : DataW.TrodAll enc Try.prog W 0 (fun _ => true) true Try.f3.params.toList args.toList ds p := hA0
  rw [Try.params3] at hA hval
  obtain ⟨v0, vs0, d0, ds0, p0, q0, hargs, rfl, rfl, h0, r0⟩ := trodAll_cons hA
  obtain ⟨v1, vs1, d1, ds1, p1, q1, rfl, rfl, rfl, h1, r1⟩ := trodAll_cons r0
  obtain ⟨rfl, rfl, rfl⟩ := trodAll_nil r1
  obtain rfl : args = #[v0, v1] := by cases args; simp_all
  obtain ⟨rfl, rfl⟩ := trodVars_none hV
  obtain ⟨cs0, a0, rfl, w0, s0⟩ := argw Try.underlying25 (hval 0 25 v0 rfl rfl) h0 rdw_net
  replace s0 := s0 (fun n hn => of_decide_eq_true (List.all_eq_true.1 hsz _ (DataW.weights_mem_each (j := 0) (t := 25) rfl rfl n hn)))
  obtain ⟨a1, rfl, w1⟩ := arg_int Try.underlying3 (hval 1 3 v1 rfl rfl) h1
  clear hA0 hval0
  refine (law_of (routeTables_p a0 a1 s0) (vs := [.agg cs0, .int .i64 a1]) (repDs_c (rep_agg w0 rfl) (repDs_c (.v (.int .i64 a1)) repDs_n))).mono fun e W' ⟨he, bel⟩ => ?_
  subst he
  exact ⟨_, rfl, _, _, _, [], _, [], hW', trodAll_mk1 (shut_bool Try.underlying4 _), (trodAll_cons_mk (Below.trod routeTables_laidOut (by kernel_rfl) (of_decide_eq_true (by kernel_rfl)) h0 bel (trod_lts h0)) (trodAll_cons_mk (Below.trod routeTables_laidOut (by kernel_rfl) (of_decide_eq_true (by kernel_rfl)) h1 bel (trod_lts h1)) trodAll_mk0)), rfl, bel.frame _, fun h => by cases h⟩
theorem routeTables_over : Rows.routeTablesRow.holds Try.pinned (OpenSpec.ofChange Rows.routeTablesSpec) :=
  OpenClaim.holds_of_wide 3 Try.f3 rfl rfl rfl rfl rfl rfl rfl ⟨rfl, rfl, rfl, rfl, rfl⟩ rfl rfl rfl rfl rfl (by kernel_rfl) Try.func3 (by kernel_rfl)
    (of_decide_eq_true (by kernel_rfl)) (by unfold Func.isWrapper; first | (rw [if_pos (by decide +kernel)]; kernel_rfl) | (rw [if_neg (by decide +kernel)]; exact ⟨rfl, rfl⟩))
    (fun os started H enc _ => routeTables_lifted os started H enc)
theorem routeTables_holds : Rows.RouteTablesSaid := routeTables_over
#print axioms routeTables_holds
end Go.Proofs.Ytinnohljknmolaa
