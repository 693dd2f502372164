/- Texts of this work, joined: Srt, LV2, Vpc6, VpcR1, VpcR2, VpcR3, VpcR4, VpcR5, VpcR6, VpcR9, DatN, Net1, Net2, Net3, Net4, Net5, Net6, Net7, Net8, Net9, NetA, NetB. -/
import Derived.Test.YtgmbhaclogabeaaGreatZHNetGrows3
import Derived.Shelf.SlSortCmp.WholeK
import Derived.Test.YtgmbhaclogabeaaGreatShelf
set_option linter.unusedSimpArgs false
set_option linter.unusedVariables false
namespace Go.Proofs.YtgmbhaclogabeaaGreat
open Go Go.RowKit Go.Proofs Go.Shelf
/-- A row's cells, and the key that they have. -/
structure SRow (HP : List Value → Int → Prop) (sz : Nat) where
  xs : List Value
  len : xs.length = sz
  one : ∀ v ∈ xs, v.oneCell' = true
  key : Int
  head : HP xs key
/-- The key is the first cell. -/
@[reducible] def HP0 (xs : List Value) (k : Int) : Prop := xs[0]? = some (.int .i64 k)
def cfS {HP : List Value → Int → Prop} {sz : Nat} (x y : SRow HP sz) : Int := cmpI x.key y.key
theorem ltS {HP : List Value → Int → Prop} {sz : Nat} (x y : SRow HP sz) : ltOf cfS x y = decide (x.key < y.key) := cmpI_neg _ _
theorem swoS {HP : List Value → Int → Prop} {sz : Nat} : Sort.SWO (ltOf (cfS (HP := HP) (sz := sz))) where
  irrefl x := by rw [ltS]; simp
  trans x y z h1 h2 := by rw [ltS] at *; simp at *; omega
  ntrans x y z h1 h2 := by rw [ltS] at *; simp at *; omega
@[reducible] def srow_inh (n : Nat) : Inhabited (SRow HP0 (n + 1)) := ⟨⟨List.replicate (n + 1) (.int .i64 0), by simp, fun v hv => by rw [List.eq_of_mem_replicate hv]; rfl, 0, by unfold HP0; simp⟩⟩
theorem putCells_take (F cur : Array Value) (h : F.size ≤ cur.size) : (Sort.putCells id 0 F cur).toList.take F.size = F.toList ∧ (Sort.putCells id 0 F cur).size = cur.size := by
  refine ⟨?_, by simp [Sort.putCells]⟩
  apply List.ext_getElem?
  intro i
  by_cases hi : i < F.size
  · rw [List.getElem?_take_of_lt hi]
    have hc : i < cur.size := by omega
    simp [Sort.putCells, hi, hc]
  · rw [List.getElem?_eq_none (by rw [List.length_take]; omega), List.getElem?_eq_none (by simp; omega)]
theorem flatK_rows {HP : List Value → Int → Prop} {sz : Nat} (n : Nat) (hs : sz = n + 1) [Inhabited (SRow HP sz)] (d : Array (SRow HP sz)) : (Sort.flatK (fun r : SRow HP sz => r.xs) sz d).toList = (d.toList.map (·.xs)).flatten := by
  have hrow : ∀ r ∈ d.toList.map (·.xs), r.length = sz := fun r hr => by
    obtain ⟨x, -, rfl⟩ := List.mem_map.1 hr; exact x.len
  have hlen : (d.toList.map (·.xs)).flatten.length = d.size * sz := by rw [flatten_len hrow]; simp
  apply List.ext_getElem?
  intro t
  by_cases ht : t < d.size * sz
  · have h1 : t / sz < d.size := Nat.div_lt_of_lt_mul (by rw [Nat.mul_comm]; exact ht)
    have h2 : t % sz < sz := Nat.mod_lt _ (by omega)
    have h3 : t / sz * sz + t % sz = t := by rw [Nat.mul_comm]; exact Nat.div_add_mod t sz
    have h4 := flatten_atG hrow (t / sz) (t % sz) h2
    rw [h3] at h4
    rw [h4]
    have h5 := Sort.get_flatK (fun r : SRow HP sz => r.xs) sz d t ht
    have h6 : t < (Sort.flatK (fun r : SRow HP sz => r.xs) sz d).size := by rw [Sort.size_flatK]; exact ht
    rw [getElem!_pos (Sort.flatK (fun r : SRow HP sz => r.xs) sz d) t h6] at h5
    rw [Array.getElem?_toList, Array.getElem?_eq_getElem h6, h5]
    have hl : (d[t / sz]).xs.length = sz := (d[t / sz]).len
    have e7 : (d[t / sz]).xs[t % sz]? = some ((d[t / sz]).xs[t % sz]!) := by
      rw [getElem!_pos (d[t / sz]).xs (t % sz) (by rw [hl]; exact h2)]
      exact List.getElem?_eq_getElem _
    rw [getElem!_pos d (t / sz) h1]
    rw [List.getElem?_map, Array.getElem?_toList, Array.getElem?_eq_getElem h1]
    simp only [Option.map_some, Option.bind_some]
    exact e7.symm
  · rw [List.getElem?_eq_none (by simp; omega), List.getElem?_eq_none (by omega)]
/-- Sorting, said of rows of values. -/
theorem sort_raw {HP : List Value → Int → Prop} {n : Nat} (inh : Inhabited (SRow HP (n + 1))) {P : Program} {ρ : Ren} (L : SlLaysF0.n6 P ρ) {f fc E : Nat} (hf : ρ.f 6 = f) (aE : ∀ w, (isAgg (ρ.t 24)).run P w = .ok true w) (zE : ∀ w, (Go.sizeOf (ρ.t 24)).run P w = .ok (n + 1) w) (eg : ∀ args w, (callFunc fc args).run P w = .ok (.enter fc args) w)
    (hcmp : ∀ (x y : SRow HP (n + 1)) (W : World), Calls P fc #[.agg x.xs.toArray, .agg y.xs.toArray] W fun e w' => e = .returned (.int .i64 (cfS x y)) ∧ ∃ q os', w' = Sort.grow (W.drewN q) os')
    (ds : List (SRow HP (n + 1))) (w : World) (gb cap : Nat) (cur : Array Value) (hh : w.heap[gb]? = some (.cells cur E (0, 0))) (hc : cur.toList.take (ds.length * (n + 1)) = (ds.map (·.xs)).flatten) (hsz : ds.length * (n + 1) ≤ cur.size) (hl : ds.length ≤ 1000000) :
    Calls P f #[.slice (some ⟨gb, 0, none⟩) ds.length cap, .func (.func fc) #[] #[]] w fun e w' => e = .returned (.tuple #[]) ∧ ∃ (ds' : List (SRow HP (n + 1))) (cur' : Array Value), ds'.Perm ds ∧ ds'.Pairwise (fun x y => x.key ≤ y.key) ∧ w'.heap[gb]? = some (.cells cur' E (0, 0)) ∧ cur'.size = cur.size ∧
      cur'.toList.take (ds.length * (n + 1)) = (ds'.map (·.xs)).flatten ∧ OneB w w' (some gb) := by
  have hg : gb < w.heap.size := (Array.getElem?_eq_some_iff.1 hh).1
  have hfl := flatK_rows n rfl ds.toArray
  rw [List.toList_toArray] at hfl
  have hH : Sort.HoldsK (fun r : SRow HP (n + 1) => r.xs) (n + 1) w gb 0 ds.toArray := by
    intro t ht
    have ht2 := ht
    rw [Sort.size_flatK, List.size_toArray] at ht2
    refine ⟨?_, free_of_block hh⟩
    have hcell : ∀ o, w.cell? ⟨gb, o, none⟩ = cur[o]? := fun o => by simp [World.cell?, hh]
    rw [Nat.zero_add, hcell]
    have h1 : (cur.toList.take (ds.length * (n + 1)))[t]? = cur[t]? := by rw [List.getElem?_take_of_lt ht2]; simp
    rw [← h1, hc, ← hfl, Array.getElem?_toList, getElem!_pos (Sort.flatK (fun r : SRow HP (n + 1) => r.xs) (n + 1) ds.toArray) t ht, Array.getElem?_eq_getElem ht]
    rfl
  have hcon := AnyQ.slices_SortFunc L (n + 1) aE zE (fun r : SRow HP (n + 1) => r.xs) (·.len) (·.one) cfS swoS fc #[] gb 0 cap ds.toArray w eg (fun _ _ _ _ x y => hcmp x y _) hH hg (by simp; omega)
  rw [hf, List.size_toArray] at hcon
  refine Calls.mono hcon ?_
  rintro e w' ⟨rfl, d', m, os, ⟨hp1, -, hp⟩, hs, rfl⟩
  replace hp1 : d'.size = ds.length := by simpa using hp1
  have hF : (Sort.flatK (fun r : SRow HP (n + 1) => r.xs) (n + 1) d').size ≤ cur.size := by rw [Sort.size_flatK, hp1]; exact hsz
  obtain ⟨p1, p2⟩ := putCells_take (Sort.flatK (fun r : SRow HP (n + 1) => r.xs) (n + 1) d') cur hF
  refine ⟨rfl, d'.toList, Sort.putCells id 0 (Sort.flatK (fun r : SRow HP (n + 1) => r.xs) (n + 1) d') cur, ?_, ?_, ?_, p2, ?_, ?_⟩
  · have e1 : d'.extract 0 ds.length = d' := by rw [← hp1]; exact Array.extract_size
    have e2 : ds.toArray.extract 0 ds.length = ds.toArray := by simp
    rw [e1, e2] at hp
    simpa using hp
  · rw [List.pairwise_iff_getElem]
    intro i j hi hj hij
    have hj' : j < d'.size := by simpa using hj
    have := hs i j (Nat.zero_le _) hij (by omega)
    rw [ltS, getElem!_pos d' i (by omega), getElem!_pos d' j hj'] at this
    simpa using this
  · show (Sort.grow (Sort.putRow id (Sort.ahead w m) gb 0 (Sort.flatK (fun r : SRow HP (n + 1) => r.xs) (n + 1) d')) os).heap[gb]? = _
    rw [Sort.heap_grow_old _ _ (by simpa using hg)]
    show (w.heap.modify gb (Sort.onCells _))[gb]? = _
    rw [Array.getElem?_modify, if_pos rfl, hh]
    rfl
  · rw [show ds.length * (n + 1) = (Sort.flatK (fun r : SRow HP (n + 1) => r.xs) (n + 1) d').size by rw [Sort.size_flatK, hp1], p1, flatK_rows n rfl]
  · refine ⟨rfl, rfl, rfl, ?_, fun b hb hne => ?_⟩
    · show w.heap.size ≤ (Sort.grow (Sort.putRow id (Sort.ahead w m) gb 0 _) os).heap.size
      rw [Sort.size_grow, Sort.size_putRow, Sort.heap_ahead]; omega
    · show (Sort.grow (Sort.putRow id (Sort.ahead w m) gb 0 (Sort.flatK (fun r : SRow HP (n + 1) => r.xs) (n + 1) d')) os).heap[b]? = _
      rw [Sort.heap_grow_old _ _ (by simpa using hb)]
      show (w.heap.modify gb (Sort.onCells _))[b]? = _
      rw [Array.getElem?_modify, if_neg (fun e => hne (by rw [e]))]
theorem key_sort {α β : Type} {ka : α → Int} {kb : β → Int} {l l' : List α} {d d' : List β} (hk : d.map kb = l.map ka) (hp : l'.Perm l) (hs : l'.Pairwise fun x y => ka x < ka y) (hq : d'.Perm d) (ht : d'.Pairwise fun x y => kb x ≤ kb y) : d'.map kb = l'.map ka :=
  List.Perm.eq_of_pairwise (le := fun x y : Int => x ≤ y) (fun a b _ _ h1 h2 => by omega) (by rw [List.pairwise_map]; exact ht) (by rw [List.pairwise_map]; exact hs.imp fun h => by omega) ((hq.map kb).trans (by rw [hk]; exact (hp.map ka).symm))
set_option maxHeartbeats 1000000 in
/-- slices.SortFunc, where the first integers are all different. -/
theorem sort_hs {HP : List Value → Int → Prop} {n : Nat} (inh : Inhabited (SRow HP (n + 1))) {P : Program} {ρ : Ren} (L : SlLaysF0.n6 P ρ) {f fc E g : Nat} (hf : ρ.f 6 = f) (hfn : FnOK P f) (aE : ∀ w, (isAgg (ρ.t 24)).run P w = .ok true w) (zE : ∀ w, (Go.sizeOf (ρ.t 24)).run P w = .ok (n + 1) w) (eg : ∀ args w, (callFunc fc args).run P w = .ok (.enter fc args) w)
    (hcmp : ∀ (x y : SRow HP (n + 1)) (W : World), Calls P fc #[.agg x.xs.toArray, .agg y.xs.toArray] W fun e w' => e = .returned (.int .i64 (cfS x y)) ∧ ∃ q os', w' = Sort.grow (W.drewN q) os')
    {α : Type} (enc : α → List D) (key : α → Int) {l l' : List α} (hkey : ∀ x ∈ l, ∀ vs : List Value, vs.length = n + 1 → (∀ (j : Nat) (d : D) (v : Value), (enc x)[j]? = some d → vs[j]? = some v → ∃ M w, RepD M w d v) → HP vs (key x)) (hl0 : l ≠ []) (hp : l'.Perm l) (hs : l'.Pairwise fun x y => key x < key y) (hsz : l.length ≤ 1000000) :
    MSpec P f [.own 0 g, .d (.clo fc [])] [.row E (n + 1) g (dRows (l.map enc))] (.d (.tup [])) [.row E (n + 1) g (dRows (l'.map enc))] := by
  refine ⟨hfn, Nat.le_refl _, by simp [belowL, belowP], by simp [belowH, belowC, belowR_d], fun X hP hn hm w c vs hr hps => ?_⟩
  have hlen := hps.1
  match vs, hlen with
  | [v0, v1], _ =>
    have r0 := hps.2 0 _ v0 rfl rfl
    have r1 := repD_inv (hps.2 1 _ v1 rfl rfl)
    have hne : dRows (l.map enc) ≠ [] := by simpa [dRows] using hl0
    have hck := hr.chunk 0
    cases r0 with
    | own _ _ _ hov h1 =>
      obtain ⟨gb, cap, rfl⟩ := own_some hck hov hne
      obtain ⟨cur, xs, q1, q2, q3, q4, q5, q6, q7, q8, q9, q10, q11⟩ := row_cells hck hov hne
      have hxone := RepPs.one q2 (fun d hd => by obtain ⟨r, hr, hd⟩ := List.mem_flatten.1 hd; exact q6 r hr d hd)
      have hln : (dRows (l.map enc)).length = l.length := by rw [dRows_len, List.length_map]
      rw [hln] at q3 q4 q8 q10 hov ⊢
      have hv1 : v1 = .func (.func fc) #[] #[] := by
        cases r1 with
        | clo _ _ vs hl hrep =>
          have : vs = [] := by simpa using hl.symm
          subst this
          rfl
      subst hv1
      have hxs : cur.toList.take (l.length * (n + 1)) = xs := by
        apply List.ext_getElem?
        intro j
        by_cases hj : j < l.length * (n + 1)
        · rw [List.getElem?_take_of_lt hj, Array.getElem?_toList, q4 j hj]
        · rw [List.getElem?_eq_none (by rw [List.length_take]; omega), List.getElem?_eq_none (by omega)]
      -- the rows, as values
      obtain ⟨ds, hdl, hds⟩ := pick_list (Q := fun i (r : SRow HP (n + 1)) => r.xs = (xs.drop (i * (n + 1))).take (n + 1) ∧ ∃ x, l[i]? = some x ∧ r.key = key x) l.length fun i hi => by
        have hb : (i + 1) * (n + 1) ≤ l.length * (n + 1) := Nat.mul_le_mul_right _ hi
        rw [Nat.succ_mul] at hb
        obtain ⟨x, hx⟩ : ∃ x, l[i]? = some x := ⟨_, List.getElem?_eq_getElem hi⟩
        have hxl : ((xs.drop (i * (n + 1))).take (n + 1)).length = n + 1 := by rw [List.length_take, List.length_drop]; omega
        have h0 : HP ((xs.drop (i * (n + 1))).take (n + 1)) (key x) := hkey x (List.mem_of_getElem? hx) _ hxl fun j d v hd hv => by
          have hj : j < n + 1 := by rw [← hxl]; exact (List.getElem?_eq_some_iff.1 hv).1
          rw [List.getElem?_take_of_lt hj, List.getElem?_drop] at hv
          have hfl := flatten_atG q5 i j hj
          rw [dRows_get, List.getElem?_map, hx] at hfl
          simp only [Option.map_some, Option.bind_some, List.getElem?_map, hd] at hfl
          exact ⟨_, _, repD_inv (q2.2 _ _ v hfl hv)⟩
        exact ⟨⟨(xs.drop (i * (n + 1))).take (n + 1), hxl, fun v hv => hxone v (List.mem_of_mem_drop (List.mem_of_mem_take hv)), key x, h0⟩, rfl, x, hx, rfl⟩
      have hdrow : ∀ r ∈ ds.map (·.xs), r.length = n + 1 := fun r hr => by obtain ⟨x, -, rfl⟩ := List.mem_map.1 hr; exact x.len
      have hflat : (ds.map (·.xs)).flatten = xs := by
        apply List.ext_getElem?
        intro t
        by_cases ht : t < l.length * (n + 1)
        · have h1 : t / (n + 1) < l.length := Nat.div_lt_of_lt_mul (by rw [Nat.mul_comm]; exact ht)
          have h2 : t % (n + 1) < n + 1 := Nat.mod_lt _ (by omega)
          have h3 : t / (n + 1) * (n + 1) + t % (n + 1) = t := by rw [Nat.mul_comm]; exact Nat.div_add_mod t (n + 1)
          generalize t / (n + 1) = i at h1 h3
          generalize t % (n + 1) = j at h2 h3
          have h4 := flatten_atG hdrow i j h2
          rw [h3, List.getElem?_map, List.getElem?_eq_getElem (show i < ds.length by omega)] at h4
          rw [h4]
          simp only [Option.map_some, Option.bind_some]
          rw [(hds _ (show i < ds.length by omega)).1, List.getElem?_take_of_lt h2, List.getElem?_drop, h3]
        · rw [List.getElem?_eq_none (by rw [flatten_len hdrow, List.length_map, hdl]; omega), List.getElem?_eq_none (by omega)]
      have hkm : ds.map (·.key) = l.map key := by
        apply List.ext_getElem?
        intro i
        rw [List.getElem?_map, List.getElem?_map]
        by_cases hi : i < l.length
        · obtain ⟨-, x, hx, hk⟩ := hds i (by omega)
          rw [List.getElem?_eq_getElem (by omega), hx]
          simp [hk]
        · rw [List.getElem?_eq_none (show ds.length ≤ i by omega), List.getElem?_eq_none (show l.length ≤ i by omega)]; rfl
      have hcall := sort_raw inh L hf aE zE eg hcmp ds w gb cap cur q1 (by rw [hdl, hxs, hflat]) (by rw [hdl]; exact q8) (by omega)
      rw [hdl] at hcall
      rw [← hP] at hcall
      rw [hP] at hcall
      refine hcall.mono fun e w' ⟨he, ds', cur', hp', hs', hw', hcs, hct, hone⟩ => ?_
      have hkk := key_sort (ka := key) (kb := SRow.key) hkm hp hs hp' hs'
      have hdl' : ds'.length = l.length := by rw [hp'.length_eq, hdl]
      have hll' : l'.length = l.length := hp.length_eq
      have hdrow' : ∀ r ∈ ds'.map (·.xs), r.length = n + 1 := fun r hr => by obtain ⟨x, -, rfl⟩ := List.mem_map.1 hr; exact x.len
      have hin2 : ∀ r ∈ dRows (l'.map enc), r.length = n + 1 := fun r hr => by
        obtain ⟨q, hq, rfl⟩ := dRows_mem hr
        obtain ⟨x, hx, rfl⟩ := List.mem_map.1 hq
        exact q5 _ (List.mem_map.2 ⟨enc x, List.mem_map.2 ⟨x, hp.mem_iff.1 hx, rfl⟩, rfl⟩)
      have hin3 : ∀ r ∈ dRows (l'.map enc), ∀ d ∈ r, d.one = true := fun r hr d hd => by
        obtain ⟨q, hq, rfl⟩ := dRows_mem hr
        obtain ⟨x, hx, rfl⟩ := List.mem_map.1 hq
        exact q6 _ (List.mem_map.2 ⟨enc x, List.mem_map.2 ⟨x, hp.mem_iff.1 hx, rfl⟩, rfl⟩) d hd
      have hnd : ∀ i j (hi : i < l.length) (hj : j < l.length), key l[i] = key l[j] → i = j := by
        have h1 : (l'.map key).Nodup := by
          unfold List.Nodup
          rw [List.pairwise_map]
          exact hs.imp fun h => by omega
        have h2 : (l.map key).Nodup := (hp.map key).nodup_iff.1 h1
        intro i j hi hj h
        rw [List.nodup_iff_pairwise_ne, List.pairwise_iff_getElem] at h2
        rcases Nat.lt_trichotomy i j with hlt | he | hlt
        · exact absurd (by rw [List.getElem_map, List.getElem_map]; exact h) (h2 i j (by simpa using hi) (by simpa using hj) hlt)
        · exact he
        · exact absurd (by rw [List.getElem_map, List.getElem_map]; exact h.symm) (h2 j i (by simpa using hj) (by simpa using hi) hlt)
      have hrep' : RepPs c w (dRows (l'.map enc)).flatten (ds'.map (·.xs)).flatten := by
        refine ⟨by rw [flatten_len hin2, flatten_len hdrow', dRows_len, List.length_map, List.length_map, hdl', hll'], fun t d u ht hu => ?_⟩
        have htl : t < l.length * (n + 1) := by
          have := (List.getElem?_eq_some_iff.1 hu).1
          rw [flatten_len hdrow', List.length_map, hdl'] at this
          exact this
        have h1 : t / (n + 1) < l.length := Nat.div_lt_of_lt_mul (by rw [Nat.mul_comm]; exact htl)
        have h2 : t % (n + 1) < n + 1 := Nat.mod_lt _ (by omega)
        have h3 : t / (n + 1) * (n + 1) + t % (n + 1) = t := by rw [Nat.mul_comm]; exact Nat.div_add_mod t (n + 1)
        generalize t / (n + 1) = i at h1 h3
        generalize t % (n + 1) = j at h2 h3
        have e1 := flatten_atG hin2 (i) (j) h2
        have e2 := flatten_atG hdrow' (i) (j) h2
        rw [h3, dRows_get, List.getElem?_map, List.getElem?_eq_getElem (l := l') (show i < l'.length by omega)] at e1
        rw [h3, List.getElem?_map, List.getElem?_eq_getElem (l := ds') (show i < ds'.length by omega)] at e2
        simp only [Option.map_some, Option.bind_some] at e1 e2
        obtain ⟨p, hpl, hpe⟩ := List.mem_iff_getElem.1 (hp'.mem_iff.1 (List.getElem_mem (show i < ds'.length by omega)))
        obtain ⟨p2, hpl2, hpe2⟩ := List.mem_iff_getElem.1 (hp.mem_iff.1 (List.getElem_mem (show i < l'.length by omega)))
        obtain ⟨g1, x, g2, g3⟩ := hds p hpl
        have hx : l[p]'(by omega) = x := by rw [List.getElem?_eq_getElem (by omega)] at g2; exact Option.some.inj g2
        have hkey2 : (ds'[i]'(by omega)).key = key (l'[i]'(by omega)) := by
          have := congrArg (fun z : List Int => z[i]?) hkk
          simp only [List.getElem?_map] at this
          rw [List.getElem?_eq_getElem (by omega), List.getElem?_eq_getElem (by omega)] at this
          exact Option.some.inj this
        have hpp : p = p2 := hnd p p2 (by omega) hpl2 (by rw [hpe2, ← hkey2, ← hpe, g3, hx])
        subst hpp
        rw [← hpe2, hx] at e1
        rw [← hpe, g1, List.getElem?_take_of_lt h2, List.getElem?_drop] at e2
        have e3 := flatten_atG q5 p (j) h2
        rw [dRows_get, List.getElem?_map, g2] at e3
        simp only [Option.map_some, Option.bind_some] at e3
        rw [← e3] at e1
        rw [e1] at ht
        rw [e2] at hu
        exact q2.2 _ d u ht hu
      have hcap : 0 < cap := by have := List.length_pos_iff.2 hl0; omega
      have hput := hr.put_row (w' := w') (k := 0) (rows' := dRows (l'.map enc)) (xs' := (ds'.map (·.xs)).flatten) rfl hov (by rw [ownB_pos hcap]; exact hone) (by
        rw [dRows_len, List.length_map, hll']
        exact .row gb l.length cap cur' _ hcap hw' q10 q9 (by rw [hcs]; exact q11) (by rw [flatten_len hdrow', List.length_map, hdl']) hct) hrep' hin2 hin3
      have hfun : effH [(0, Chunk.row E (n + 1) g (dRows (l'.map enc)))] (mkF [] [.row E (n + 1) g (dRows (l.map enc))]).heap = hatL [.row E (n + 1) g (dRows (l'.map enc))] := by
        funext k
        rw [effH1]
        cases k with
        | zero => rfl
        | succ k => rfl
      rw [hfun] at hput
      refine ⟨_, c, he, .d _ _ (.tup [] [] rfl fun j d x h => by simp at h), hput⟩
/-- Where the key is the first cell. -/
theorem sort_ms {n : Nat} {P : Program} {ρ : Ren} (L : SlLaysF0.n6 P ρ) {f fc E g : Nat} (hf : ρ.f 6 = f) (hfn : FnOK P f) (aE : ∀ w, (isAgg (ρ.t 24)).run P w = .ok true w) (zE : ∀ w, (Go.sizeOf (ρ.t 24)).run P w = .ok (n + 1) w) (eg : ∀ args w, (callFunc fc args).run P w = .ok (.enter fc args) w)
    (hcmp : ∀ (x y : SRow HP0 (n + 1)) (W : World), Calls P fc #[.agg x.xs.toArray, .agg y.xs.toArray] W fun e w' => e = .returned (.int .i64 (cfS x y)) ∧ ∃ q os', w' = Sort.grow (W.drewN q) os')
    {α : Type} (enc : α → List D) (key : α → Int) (hkey : ∀ x, (enc x)[0]? = some (.v (.int .i64 (key x)))) {l l' : List α} (hl0 : l ≠ []) (hp : l'.Perm l) (hs : l'.Pairwise fun x y => key x < key y) (hsz : l.length ≤ 1000000) :
    MSpec P f [.own 0 g, .d (.clo fc [])] [.row E (n + 1) g (dRows (l.map enc))] (.d (.tup [])) [.row E (n + 1) g (dRows (l'.map enc))] :=
  sort_hs (srow_inh n) L hf hfn aE zE eg hcmp enc key (fun x _ vs hl hr => by
    obtain ⟨v, hv⟩ : ∃ v, vs[0]? = some v := ⟨_, List.getElem?_eq_getElem (by omega)⟩
    obtain ⟨M, w, h⟩ := hr 0 _ v (hkey x) hv
    show vs[0]? = _
    rw [hv]
    cases h
    rfl) hl0 hp hs hsz
end Go.Proofs.YtgmbhaclogabeaaGreat
namespace Go.Proofs.YtgmbhaclogabeaaGreat
open Go Go.RowKit Go.Proofs Go.Shelf
set_option maxRecDepth 100000
theorem isNaN_any (a : Int) (W : World) : Calls Tryz.prog 52 #[.int .i64 a] W fun e w' => e = .returned (.bool false) ∧ w' = W := by
  go_enter Tryz.func52, Tryz.ntmps52
  go_wp2_with fail
  go_ret
  exact ⟨ret_bool (by simp), rfl⟩
theorem compare_any (a b : Int) (W : World) : Calls Tryz.prog 28 #[.int .i64 a, .int .i64 b] W fun e w' => e = .returned (.int .i64 (cmpI a b)) ∧ w' = W := by
  by_cases h : a < b
  · have e : cmpI a b = -1 := by simp [cmpI, h]
    rw [e]
    go_enter Tryz.func28, Tryz.ntmps28
    go_wp2_with fail
    refine (isNaN_any a _).mono ?_
    rintro e w1 ⟨rfl, rfl⟩
    go_wp2_with fail
    refine (isNaN_any b _).mono ?_
    rintro e w1 ⟨rfl, rfl⟩
    go_wp2_with fail
    go_ret
    exact ⟨ret_int rfl, rfl⟩
  · by_cases h2 : b < a
    · have e : cmpI a b = 1 := by simp [cmpI, h, h2]
      rw [e]
      go_enter Tryz.func28, Tryz.ntmps28
      go_wp2_with fail
      refine (isNaN_any a _).mono ?_
      rintro e w1 ⟨rfl, rfl⟩
      go_wp2_with fail
      refine (isNaN_any b _).mono ?_
      rintro e w1 ⟨rfl, rfl⟩
      go_wp2_with fail
      go_ret
      exact ⟨ret_int rfl, rfl⟩
    · have e : cmpI a b = 0 := by simp [cmpI, h, h2]
      rw [e]
      go_enter Tryz.func28, Tryz.ntmps28
      go_wp2_with fail
      refine (isNaN_any a _).mono ?_
      rintro e w1 ⟨rfl, rfl⟩
      go_wp2_with fail
      refine (isNaN_any b _).mono ?_
      rintro e w1 ⟨rfl, rfl⟩
      go_wp2_with fail
      go_ret
      exact ⟨ret_int rfl, rfl⟩
theorem cl_Range (x y : SRow HP0 3) (W : World) : Calls Tryz.prog 60 #[.agg x.xs.toArray, .agg y.xs.toArray] W fun e w' => e = .returned (.int .i64 (cfS x y)) ∧ ∃ q os', w' = Sort.grow (W.drewN q) os' := by
  obtain ⟨xs, xl, x1, a, xh⟩ := x
  obtain ⟨ys, yl, y1, b, yh⟩ := y
  match xs, xl, ys, yl with
  | [u0, u1, u2], _, [v0, v1, v2], _ =>
    simp [HP0] at xh yh
    subst xh
    subst yh
    have hc := compare_any a b
    unfold cfS
    simp only
    generalize cmpI a b = r at *
    replace hc := Lib.hid hc
    clear x1 y1
    go_enter Tryz.func60, Tryz.ntmps60
    go_wp2_with fail
    refine (hc.out _).mono ?_
    rintro e w1 ⟨rfl, rfl⟩
    go_wp2_with fail
    go_ret
    exact ⟨ret_int rfl, 0, _, by rw [Sort.alloc_eq_grow, Sort.alloc_eq_grow, Sort.grow_grow]; rfl⟩
theorem sort_Range {l l' : List Rng} (g : Nat) (hl0 : l ≠ []) (hp : l'.Perm l) (hs : l'.Pairwise fun x y => (fun r : Rng => r.at_.at_) x < (fun r : Rng => r.at_.at_) y) (hsz : l.length ≤ 1000000) :
    MSpec Tryz.prog 59 [.own 0 g, .d (.clo 60 [])] [.row 29 3 g (dRows (l.map encG))] (.d (.tup [])) [.row 29 3 g (dRows (l'.map encG))] :=
  sort_ms Tryz.sortRange rfl (fnok_of Tryz.func59 (by kernel_rfl) rfl) Tryz.isAgg29 Tryz.sizeOf29 (enters_of Tryz.func60 (by kernel_rfl) rfl) cl_Range encG (fun r : Rng => r.at_.at_) (fun _ => rfl) hl0 hp hs hsz
end Go.Proofs.YtgmbhaclogabeaaGreat
namespace Go.Proofs.YtgmbhaclogabeaaGreat
open Go Go.RowKit
/-- One more, at its place. -/
def insK {α : Type} (key : α → Int) (x : α) (l : List α) : List α := l.take (lbN key (key x) l) ++ x :: l.drop (lbN key (key x) l)
theorem lbN_le {α : Type} (key : α → Int) (t : Int) (l : List α) : lbN key t l ≤ l.length := List.findIdx_le_length
theorem insK_perm {α : Type} (key : α → Int) (x : α) (l : List α) : (insK key x l).Perm (l ++ [x]) := by
  unfold insK
  have h : l ++ [x] = (l.take (lbN key (key x) l) ++ l.drop (lbN key (key x) l)) ++ [x] := by rw [List.take_append_drop]
  rw [h, List.append_assoc]
  refine List.Perm.append_left _ ?_
  exact (List.perm_append_singleton _ _).symm
theorem insK_mem {α : Type} {key : α → Int} {x y : α} {l : List α} : y ∈ insK key x l ↔ y = x ∨ y ∈ l := by
  rw [(insK_perm key x l).mem_iff]; simp [or_comm]
theorem insK_len {α : Type} (key : α → Int) (x : α) (l : List α) : (insK key x l).length = l.length + 1 := by
  rw [(insK_perm key x l).length_eq]; simp
theorem insK_sorted {α : Type} {key : α → Int} {x : α} {l : List α} (hs : l.Pairwise fun a b => key a < key b) (hn : ∀ y ∈ l, key y ≠ key x) : (insK key x l).Pairwise fun a b => key a < key b := by
  have hlow : ∀ y ∈ l.take (lbN key (key x) l), key y < key x := by
    intro y hy
    obtain ⟨i, hi, rfl⟩ := List.mem_iff_getElem.1 hy
    rw [List.getElem_take]
    have := List.not_of_lt_findIdx (show i < lbN key (key x) l by rw [List.length_take] at hi; omega)
    simp at this
    exact this
  have hhigh : ∀ y ∈ l.drop (lbN key (key x) l), key x < key y := by
    intro y hy
    have hym := List.mem_of_mem_drop hy
    obtain ⟨i, hi, rfl⟩ := List.mem_iff_getElem.1 hy
    rw [List.getElem_drop] at hym ⊢
    rw [List.length_drop] at hi
    have hlt : lbN key (key x) l < l.length := by omega
    have h0 := List.findIdx_getElem (xs := l) (p := fun y => decide (key x ≤ key y)) (w := hlt)
    simp only [decide_eq_true_eq] at h0
    change key x ≤ key (l[lbN key (key x) l]'hlt) at h0
    have hne := hn _ hym
    rcases Nat.eq_zero_or_pos i with h | h
    · subst h; simp only [Nat.add_zero] at hne ⊢; omega
    · have := List.pairwise_iff_getElem.1 hs _ (lbN key (key x) l + i) hlt (by omega) (by omega)
      omega
  unfold insK
  rw [List.pairwise_append, List.pairwise_cons]
  refine ⟨hs.sublist (List.take_sublist _ _), ⟨hhigh, hs.sublist (List.drop_sublist _ _)⟩, fun a ha b hb => ?_⟩
  rcases List.mem_cons.1 hb with rfl | hb
  · exact hlow a ha
  · have := hlow a ha; have := hhigh b hb; omega
def Vpc.zero : Vpc := ⟨0, [], []⟩
theorem Vpc.zero_le : DLe (.agg [.v (.int .i64 0), .v (.slice none 0 0), .v (.slice none 0 0)]) (.agg (encV Vpc.zero)) := by repeat (first | exact DLe.refl _ | exact DLe.nil _ | (refine DLe.tup ?_) | (refine DLe.agg ?_ rfl) | exact trivial | (refine And.intro ?_ ?_))
/-- A right network. -/
structure VpcOK (v : Vpc) : Prop where
  n4 : v.ranges.length ≤ 4
  n6 : v.subs.length ≤ 6
  n8 : ∀ s ∈ v.subs, s.faces.length ≤ 8 ∧ ∀ f ∈ s.faces, f.addrs.length ≤ 4
  id : idOK v.id = true
  rr : v.ranges.Pairwise fun a b => a.at_.at_ < b.at_.at_
  rs : v.subs.Pairwise fun a b => a.id < b.id
  ranges : ∀ r ∈ v.ranges, rangeB r = true
  subs : ∀ s ∈ v.subs, subB v s = true
  ar : apaF [] (v.ranges.map (·.at_)) = true
  as_ : apaF [] (v.subs.map (·.at_)) = true
theorem vpcOK {v : Vpc} : chkV v = 0 ↔ manyV v = false ∧ fineV v = true ∧ apaF [] (v.ranges.map (·.at_)) = true ∧ apaF [] (v.subs.map (·.at_)) = true := by
  unfold chkV
  generalize apaF [] (v.ranges.map (·.at_)) = A
  generalize apaF [] (v.subs.map (·.at_)) = B
  cases manyV v <;> cases fineV v <;> cases A <;> cases B <;> simp
theorem vpcOK_of {v : Vpc} (h : chkV v = 0) : VpcOK v := by
  obtain ⟨h1, h2, h3, h4⟩ := vpcOK.1 h
  obtain ⟨a, b, c⟩ := manyV_ok h1
  unfold fineV at h2
  simp only [Bool.and_eq_true, List.all_eq_true, risB_pair] at h2
  exact ⟨a, b, c, h2.1.1, h2.1.2.1, h2.1.2.2, h2.2.1, h2.2.2, h3, h4⟩
theorem rangeB_right {r : Rng} (h : rangeB r = true) : r.at_.right = true := by
  unfold rangeB at h
  simp only [Bool.and_eq_true, beq_iff_eq] at h
  simp [Pfx.right, rightB, h.2]
theorem meets_at {p q : Pfx} (hp : p.right = true) (hq : q.right = true) (h : p.meets q = false) : p.at_ ≠ q.at_ := fun e => by
  have b1 := p.hi_bd hp
  have b2 := q.hi_bd hq
  rw [meets_iff.2 ⟨hp, hq, by omega, by omega⟩] at h
  cases h
def growE (v : Vpc) (r : Rng) : Int :=
  if chk r.at_.at_ r.at_.len ≠ 0 ∨ idOK r.pool = false then 1 else
  if (v.ranges.any fun q => q.at_.meets r.at_) = true then 6 else if v.ranges.length = 4 then 2 else 0
/-- Grow's answer. -/
def growV (v : Vpc) (r : Rng) : Vpc × Int :=
  if chkV v ≠ 0 then (Vpc.zero, chkV v) else if growE v r ≠ 0 then (Vpc.zero, growE v r) else ({ v with ranges := insK (·.at_.at_) r v.ranges }, 0)
theorem grow1_p (q r : Rng) : PSpec Tryz.prog 57 [.agg (encG q), .ept (encG r)] (.v (.bool (q.at_.meets r.at_))) := by
  have hm : PSpec Tryz.prog 58 [.agg (encP q.at_), .agg (encP r.at_)] (.v (.bool (q.at_.meets r.at_))) := meets_p _ _
  refine ps_i tab_ok mixed Tryz.func57 rfl Tryz.ntmps57 Tryz.results57 (by kernel_rfl) ?_
  repeat' (first | (with_reducible refine And.intro ?_ ?_) | (with_reducible refine gK_i (fun _ => ?_) (fun _ => ?_)) | (with_reducible refine condS_i (fun _ => ?_) (fun _ => ?_)) | (with_reducible refine drw_i (by kernel_rfl)) | simp -dsimp only [go_sem, seval, *, encG, encP] | ((with_reducible refine opK_c ?_); simp -dsimp only [go_sem, seval, encG, encP]; first | refine callK_r (by first | assumption | exact hm) (by first | exact .inl rfl | exact .inr rfl) ?_ | (refine callK_i (by assumption) ?_ ?_ ?_; (solve | (repeat (first | exact DLe.refl _ | exact DLe.nil _ | (refine DLe.tup ?_) | (refine DLe.agg ?_ rfl) | exact trivial | (refine And.intro ?_ ?_)))); (solve | exact .inl rfl | exact .inr rfl))) | fail | omega | exact decide_eq_true (by omega) | exact DLe.refl _)
set_option maxRecDepth 100000 in
set_option maxHeartbeats 1000000 in
theorem vgrow_p (v : Vpc) (r : Rng) : PSpec Tryz.prog 29 [.agg (encV v), .agg (encG r)] (.tup [.agg (encV (growV v r).1), .v (.int .i64 (growV v r).2)]) := by
  obtain ⟨R, hR⟩ : ∃ R, R = growV v r := ⟨_, rfl⟩
  rw [← hR]
  replace hR := Lib.hid hR
  by_cases hc : chkV v = 0
  · have hk := vpcOK_of hc
    have hbg := beginD_m v hc hk.n4 hk.n6 hk.n8
    have hid := vids_p r.pool
    have hck := check_p r.at_
    have hcn := cntf_Range encG_len (fun q => q.at_.meets r.at_) v.ranges 57 [.ept (encG r)] (by have := hk.n4; omega) (fun q _ => grow1_p q r)
    have hR2 : R = if growE v r ≠ 0 then (Vpc.zero, growE v r) else ({ v with ranges := insK (·.at_.at_) r v.ranges }, 0) := by rw [hR.out]; unfold growV; rw [if_neg (by simpa using hc)]
    have hn4 := hk.n4
    by_cases hbad : growE v r ≠ 0
    · rw [if_pos hbad] at hR2
      unfold growE at hR2 hbad
      generalize chk r.at_.at_ r.at_.len = K at *
      generalize idOK r.pool = I at *
      generalize (v.ranges.any fun q => q.at_.meets r.at_) = M at *
      replace hR2 := Lib.hid hR2
      replace hbad := Lib.hid hbad
      clear hR hc hk
      have hl4 : ((v.ranges.length : Int) == 4) = decide (v.ranges.length = 4) := by rw [Bool.eq_iff_iff]; simp; omega
      refine ps_i tab_ok mixed Tryz.func29 rfl Tryz.ntmps29 Tryz.results29 (by kernel_rfl) ?_
      repeat' (first | (with_reducible refine And.intro ?_ ?_) | (with_reducible refine gK_i (fun _ => ?_) (fun _ => ?_)) | (with_reducible refine condS_i (fun _ => ?_) (fun _ => ?_)) | (with_reducible refine drw_i (by kernel_rfl)) | simp -dsimp only [go_sem, seval, *, encV, encG, encP, hl4] | ((with_reducible refine opK_c ?_); simp -dsimp only [go_sem, seval, encV, encG, encP, hl4]; first | refine callK_r (by first | assumption | exact hid | exact hck | exact hcn) (by first | exact .inl rfl | exact .inr rfl) ?_ | (refine callK_i (by assumption) ?_ ?_ ?_; (solve | (repeat (first | exact DLe.refl _ | exact DLe.nil _ | (refine DLe.tup ?_) | (refine DLe.agg ?_ rfl) | exact trivial | (refine And.intro ?_ ?_)))); (solve | exact .inl rfl | exact .inr rfl))) | (refine opK_M [] (hbg) ?_ ?_ ?_ ?_ ?_ ?_; (solve | rfl | simp only [go_sem, seval, encV]); (solve | rfl); (solve | decide); (solve | simp); (solve | simp only [go_sem, seval, lentOK, encV])) | omega | exact decide_eq_true (by omega) | exact DLe.refl _)
      all_goals
        have h1 := hR2.out
        have h2 := hbad.out
        clear hid hck hcn hbg
        first
          | (exfalso; grind)
          | (rw [show R = (Vpc.zero, 1) from (by rw [h1]; grind)]; exact (by repeat (first | exact DLe.refl _ | exact DLe.nil _ | (refine DLe.tup ?_) | (refine DLe.agg ?_ rfl) | exact trivial | (refine And.intro ?_ ?_))))
          | (rw [show R = (Vpc.zero, 6) from (by rw [h1]; grind)]; exact (by repeat (first | exact DLe.refl _ | exact DLe.nil _ | (refine DLe.tup ?_) | (refine DLe.agg ?_ rfl) | exact trivial | (refine And.intro ?_ ?_))))
          | (rw [show R = (Vpc.zero, 2) from (by rw [h1]; grind)]; exact (by repeat (first | exact DLe.refl _ | exact DLe.nil _ | (refine DLe.tup ?_) | (refine DLe.agg ?_ rfl) | exact trivial | (refine And.intro ?_ ?_))))
    · rw [if_neg hbad] at hR2
      have hg : growE v r = 0 := by simpa using hbad
      obtain ⟨g1, g2, g3, g4⟩ : chk r.at_.at_ r.at_.len = 0 ∧ idOK r.pool = true ∧ (v.ranges.any fun q => q.at_.meets r.at_) = false ∧ v.ranges.length ≠ 4 := by
        unfold growE at hg
        generalize (v.ranges.any fun q => q.at_.meets r.at_) = M at *
        grind
      have hne : ∀ q ∈ v.ranges, q.at_.at_ ≠ r.at_.at_ := fun q hq => meets_at (rangeB_right (hk.ranges q hq)) (by simp [Pfx.right, rightB, g1]) (by have := List.any_eq_false.1 g3 q hq; simpa using this)
      have hso := sort_Range (l := v.ranges ++ [r]) (l' := insK (·.at_.at_) r v.ranges) 2 (by simp) (insK_perm _ _ _) (insK_sorted hk.rr hne) (by simp; omega)
      rw [g1] at hck
      rw [g2] at hid
      rw [g3] at hcn
      have hl4 : ((v.ranges.length : Int) == 4) = false := by simp; omega
      have hb1 : v.ranges.length + 1 ≤ 100 := by omega
      simp only [List.map_append, List.map_cons, List.map_nil] at hso
      rw [hR2]
      clear hR hR2 hc hk hne hg hbad
      refine ps_i tab_ok mixed Tryz.func29 rfl Tryz.ntmps29 Tryz.results29 (by kernel_rfl) ?_
      repeat' (first | (with_reducible refine And.intro ?_ ?_) | (with_reducible refine gK_i (fun _ => ?_) (fun _ => ?_)) | (with_reducible refine condS_i (fun _ => ?_) (fun _ => ?_)) | (with_reducible refine drw_i (by kernel_rfl)) | simp -dsimp only [go_sem, seval, *, encV, encG, encP, hl4, hb1] | ((with_reducible refine opK_c ?_); simp -dsimp only [go_sem, seval, encV, encG, encP, hl4, hb1]; first | refine callK_r (by first | assumption | exact hid | exact hck | exact hcn) (by first | exact .inl rfl | exact .inr rfl) ?_ | (refine callK_i (by assumption) ?_ ?_ ?_; (solve | (repeat (first | exact DLe.refl _ | exact DLe.nil _ | (refine DLe.tup ?_) | (refine DLe.agg ?_ rfl) | exact trivial | (refine And.intro ?_ ?_)))); (solve | exact .inl rfl | exact .inr rfl))) | (refine opK_M [] (hbg) ?_ ?_ ?_ ?_ ?_ ?_; (solve | rfl | simp only [go_sem, seval, encV]); (solve | rfl); (solve | decide); (solve | simp); (solve | simp only [go_sem, seval, lentOK, encV])) | (refine opK_M [4] (hso) ?_ ?_ ?_ ?_ ?_ ?_; (solve | rfl | simp only [go_sem, seval, encG]); (solve | rfl); (solve | decide); (solve | simp); (solve | simp only [go_sem, seval, lentOK, encG])) | omega | exact decide_eq_true (by omega) | exact DLe.refl _)
  · have hbg := beginE_m v hc
    have h1 : (chkV v != 0) = true := by simpa using hc
    have hr : R = (Vpc.zero, chkV v) := by rw [hR.out]; unfold growV; rw [if_pos hc]
    rw [hr]
    replace hr := Lib.hid hr
    refine ps_i tab_ok mixed Tryz.func29 rfl Tryz.ntmps29 Tryz.results29 (by kernel_rfl) ?_
    repeat' (first | (with_reducible refine And.intro ?_ ?_) | (with_reducible refine gK_i (fun _ => ?_) (fun _ => ?_)) | (with_reducible refine condS_i (fun _ => ?_) (fun _ => ?_)) | (with_reducible refine drw_i (by kernel_rfl)) | simp -dsimp only [go_sem, seval, *, encV, encG, h1] | ((with_reducible refine opK_c ?_); simp -dsimp only [go_sem, seval, encV, encG, h1]; first | refine callK_r (by first | assumption | fail) (by first | exact .inl rfl | exact .inr rfl) ?_ | (refine callK_i (by assumption) ?_ ?_ ?_; (solve | (repeat (first | exact DLe.refl _ | exact DLe.nil _ | (refine DLe.tup ?_) | (refine DLe.agg ?_ rfl) | exact trivial | (refine And.intro ?_ ?_)))); (solve | exact .inl rfl | exact .inr rfl))) | (refine opK_M [] (hbg) ?_ ?_ ?_ ?_ ?_ ?_; (solve | rfl | simp only [go_sem, seval, encV]); (solve | rfl); (solve | decide); (solve | simp); (solve | simp only [go_sem, seval, lentOK, encV])) | omega | exact decide_eq_true (by omega) | exact DLe.refl _)
    exact (by repeat (first | exact DLe.refl _ | exact DLe.nil _ | (refine DLe.tup ?_) | (refine DLe.agg ?_ rfl) | exact trivial | (refine And.intro ?_ ?_)))
theorem eqP_list (p q : Pfx) : ([p.at_, p.len] == [q.at_, q.len]) = decide (p = q) := by
  rw [Bool.eq_iff_iff]
  cases p; cases q
  simp
end Go.Proofs.YtgmbhaclogabeaaGreat
namespace Go.Proofs.YtgmbhaclogabeaaGreat
open Go Go.RowKit
theorem withinR_p (n lo hi : Int) : PSpec Tryz.prog 34 [.v (.int .i64 n), .v (.int .i64 lo), .v (.int .i64 hi)] (.v (.bool (decide (lo ≤ n) && decide (n ≤ hi)))) := by
  refine ps_i tab_ok mixed Tryz.func34 rfl Tryz.ntmps34 Tryz.results34 (by kernel_rfl) ?_
  repeat' (first | (with_reducible refine And.intro ?_ ?_) | (with_reducible refine gK_i (fun _ => ?_) (fun _ => ?_)) | (with_reducible refine condS_i (fun _ => ?_) (fun _ => ?_)) | (with_reducible refine drw_i (by kernel_rfl)) | simp -dsimp only [go_sem, seval, *, bne_self_eq_false] | ((with_reducible refine opK_c ?_); simp -dsimp only [go_sem, seval, bne_self_eq_false]; first | refine callK_r (by first | assumption | fail) (by first | exact .inl rfl | exact .inr rfl) ?_ | (refine callK_i (by assumption) ?_ ?_ ?_; (solve | (repeat (first | exact DLe.refl _ | exact DLe.nil _ | (refine DLe.tup ?_) | (refine DLe.agg ?_ rfl) | exact trivial | (refine And.intro ?_ ?_)))); (solve | exact .inl rfl | exact .inr rfl))) | fail | omega | exact decide_eq_true (by omega) | exact DLe.refl _)
  all_goals exact dle_b (by grind)
/-- The first that is so has been found. -/
theorem idxI_hit {α : Type} {p : α → Bool} {l : List α} {k : Nat} {x : α} (hx : l[k]? = some x) (hp : p x = true) (hno : (l.take k).all (fun y => !p y) = true) : idxI p l = k :=
  idxI_some hx hp fun y hy => by have := List.all_eq_true.1 hno y hy; simpa using this
theorem idxI_no {α : Type} {p : α → Bool} {l : List α} (hno : (l.take l.length).all (fun y => !p y) = true) : idxI p l = -1 :=
  idxI_none fun y hy => by rw [List.take_length] at hno; have := List.all_eq_true.1 hno y hy; simpa using this
theorem no_snoc {α : Type} {p : α → Bool} {l : List α} {k : Nat} {x : α} (hx : l[k]? = some x) (hno : (l.take k).all p = true) (h : p x = true) : (l.take (k + 1)).all p = true := by rw [all_snoc hx, hno, h]; rfl
theorem inRange_p (v : Vpc) (p : Pfx) (hl : v.ranges.length ≤ 1000000000) : PSpec Tryz.prog 65 [.agg (encV v), .agg (encP p)] (.v (.bool (holdsV v p))) := by
  obtain ⟨R, hR⟩ : ∃ R, R = holdsV v p := ⟨_, rfl⟩
  rw [← hR]
  replace hR := Lib.hid hR
  refine ps_i tab_ok mixed Tryz.func65 rfl Tryz.ntmps65 Tryz.results65 (by kernel_rfl) ?_
  repeat' (first | (with_reducible refine And.intro ?_ ?_) | (with_reducible refine gK_i (fun _ => ?_) (fun _ => ?_)) | (with_reducible refine condS_i (fun _ => ?_) (fun _ => ?_)) | (with_reducible refine drw_i (by kernel_rfl)) | simp -dsimp only [go_sem, seval, *, encV, encP] | ((with_reducible refine opK_c ?_); simp -dsimp only [go_sem, seval, encV, encP]; first | refine callK_r (by first | assumption | fail) (by first | exact .inl rfl | exact .inr rfl) ?_ | (refine callK_i (by assumption) ?_ ?_ ?_; (solve | (repeat (first | exact DLe.refl _ | exact DLe.nil _ | (refine DLe.tup ?_) | (refine DLe.agg ?_ rfl) | exact trivial | (refine And.intro ?_ ?_)))); (solve | exact .inl rfl | exact .inr rfl))) | fail | omega | exact decide_eq_true (by omega) | exact DLe.refl _)
  refine loopL tab_ok mixed v.ranges (fun k => (v.ranges.take k).all (fun r => !(insQ p r.at_)) = true) (fun k => [(5, .d (.v (.int .i64 k))), (4, .d (.v (.bool false))), (3, .ptr 1 0), (2, .ptr 0 0)]) (fun _ => [.box 56 ((encV v).map .d), .box 27 ((encP p).map .d)]) rfl (weak_forget _ (by simp) (by (try simp only [encV, encP]); rfl) (by (repeat' (first | exact trivial | (refine ⟨rfl, ?_⟩)))) (by first | rfl | simp only [belowH, belowE, belowC, belowL, belowR, belowP, belowL_d, belowR_d, List.length_cons, List.length_nil, Nat.reduceAdd, Nat.reduceLT, decide_true, Bool.and_self, Bool.and_true]) (by first | rfl | simp only [belowH, belowE, belowC, belowL, belowR, belowP, belowL_d, belowR_d, List.length_cons, List.length_nil, Nat.reduceAdd, Nat.reduceLT, decide_true, Bool.and_self, Bool.and_true])) ?_ ?_
  · intro k r hr hk hI C hC
    have hkI : (k : Int) < (v.ranges.length : Int) := by omega
    have hwr : IntKind.i64.wrap ((k : Int) + 1) = ((k + 1 : Nat) : Int) := by rw [IntKind.wrap_i64]; omega
    have hi := insideOf_p p r.at_
    rw [insR_eq] at hi
    replace hI := Lib.hid hI
    cases h1 : insQ p r.at_ with
    | true =>
      rw [h1] at hi
      have hb : R = true := by rw [hR.out]; exact List.any_eq_true.2 ⟨r, List.mem_of_getElem? hr, h1⟩
      rw [hb]
      replace hb := Lib.hid hb
      repeat' (first | (with_reducible refine And.intro ?_ ?_) | (with_reducible refine gK_i (fun _ => ?_) (fun _ => ?_)) | (with_reducible refine condS_i (fun _ => ?_) (fun _ => ?_)) | (with_reducible refine drw_i (by kernel_rfl)) | simp -dsimp only [go_sem, seval, *, encV, encG, encP, hkI, hwr, hr] | ((with_reducible refine opK_c ?_); simp -dsimp only [go_sem, seval, encV, encG, encP, hkI, hwr, hr]; first | refine callK_r (by first | assumption | exact hi) (by first | exact .inl rfl | exact .inr rfl) ?_ | (refine callK_i (by assumption) ?_ ?_ ?_; (solve | (repeat (first | exact DLe.refl _ | exact DLe.nil _ | (refine DLe.tup ?_) | (refine DLe.agg ?_ rfl) | exact trivial | (refine And.intro ?_ ?_)))); (solve | exact .inl rfl | exact .inr rfl))) | fail | omega | exact decide_eq_true (by omega) | exact DLe.refl _)
      all_goals exact DLe.refl _
    | false =>
      rw [h1] at hi
      have hI2 := Lib.hid (no_snoc (p := fun r : Rng => !(insQ p r.at_)) hr hI.out (by rw [h1]; rfl))
      repeat' (first | (with_reducible refine And.intro ?_ ?_) | (with_reducible refine gK_i (fun _ => ?_) (fun _ => ?_)) | (with_reducible refine condS_i (fun _ => ?_) (fun _ => ?_)) | (with_reducible refine drw_i (by kernel_rfl)) | simp -dsimp only [go_sem, seval, *, encV, encG, encP, hkI, hwr, hr] | ((with_reducible refine opK_c ?_); simp -dsimp only [go_sem, seval, encV, encG, encP, hkI, hwr, hr]; first | refine callK_r (by first | assumption | exact hi) (by first | exact .inl rfl | exact .inr rfl) ?_ | (refine callK_i (by assumption) ?_ ?_ ?_; (solve | (repeat (first | exact DLe.refl _ | exact DLe.nil _ | (refine DLe.tup ?_) | (refine DLe.agg ?_ rfl) | exact trivial | (refine And.intro ?_ ?_)))); (solve | exact .inl rfl | exact .inr rfl))) | fail | omega | exact decide_eq_true (by omega) | exact DLe.refl _)
      exact hC _ _ hI2.out (weak_forget _ (by simp) (by (try simp only [encV, encP]); rfl) (by (repeat' (first | exact trivial | (refine ⟨rfl, ?_⟩)))) (by first | rfl | simp only [belowH, belowE, belowC, belowL, belowR, belowP, belowL_d, belowR_d, List.length_cons, List.length_nil, Nat.reduceAdd, Nat.reduceLT, decide_true, Bool.and_self, Bool.and_true]) (by first | rfl | simp only [belowH, belowE, belowC, belowL, belowR, belowP, belowL_d, belowR_d, List.length_cons, List.length_nil, Nat.reduceAdd, Nat.reduceLT, decide_true, Bool.and_self, Bool.and_true]))
  · intro hI C
    rw [List.take_length] at hI
    have hb : R = false := by rw [hR.out]; unfold holdsV; rw [List.any_eq_false]; intro x hx; have := List.all_eq_true.1 hI x hx; simpa using this
    rw [hb]
    replace hb := Lib.hid hb
    replace hI := Lib.hid hI
    repeat' (first | (with_reducible refine And.intro ?_ ?_) | (with_reducible refine gK_i (fun _ => ?_) (fun _ => ?_)) | (with_reducible refine condS_i (fun _ => ?_) (fun _ => ?_)) | (with_reducible refine drw_i (by kernel_rfl)) | simp -dsimp only [go_sem, seval, *, encV, Int.lt_irrefl] | ((with_reducible refine opK_c ?_); simp -dsimp only [go_sem, seval, encV, Int.lt_irrefl]; first | refine callK_r (by first | assumption | fail) (by first | exact .inl rfl | exact .inr rfl) ?_ | (refine callK_i (by assumption) ?_ ?_ ?_; (solve | (repeat (first | exact DLe.refl _ | exact DLe.nil _ | (refine DLe.tup ?_) | (refine DLe.agg ?_ rfl) | exact trivial | (refine And.intro ?_ ?_)))); (solve | exact .inl rfl | exact .inr rfl))) | fail | omega | exact decide_eq_true (by omega) | exact DLe.refl _)
    all_goals exact DLe.refl _
set_option maxRecDepth 100000 in
theorem innerR_p (s : Sbn) (x : Int) : PSpec Tryz.prog 97 [.agg (encN s), .v (.int .i64 x)] (.v (.bool (innB s.at_ x))) := by
  have hh : PSpec Tryz.prog 133 [.agg (encP s.at_), .v (.int .i64 x)] (.v (.bool (holdB s.at_.at_ s.at_.len x))) := holdsIt_p s.at_ x
  cases h1 : holdB s.at_.at_ s.at_.len x with
  | false =>
    have hr : innB s.at_ x = false := by unfold innB; rw [holdP_eq, h1]; rfl
    rw [h1] at hh
    rw [hr]
    refine ps_i tab_ok mixed Tryz.func97 rfl Tryz.ntmps97 Tryz.results97 (by kernel_rfl) ?_
    repeat' (first | (with_reducible refine And.intro ?_ ?_) | (with_reducible refine gK_i (fun _ => ?_) (fun _ => ?_)) | (with_reducible refine condS_i (fun _ => ?_) (fun _ => ?_)) | (with_reducible refine drw_i (by kernel_rfl)) | simp -dsimp only [go_sem, seval, *, encN, undef] | ((with_reducible refine opK_c ?_); simp -dsimp only [go_sem, seval, encN, undef]; first | refine callK_r (by first | assumption | exact hh) (by first | exact .inl rfl | exact .inr rfl) ?_ | (refine callK_i (by assumption) ?_ ?_ ?_; (solve | (repeat (first | exact DLe.refl _ | exact DLe.nil _ | (refine DLe.tup ?_) | (refine DLe.agg ?_ rfl) | exact trivial | (refine And.intro ?_ ?_)))); (solve | exact .inl rfl | exact .inr rfl))) | fail | omega | exact decide_eq_true (by omega) | exact DLe.refl _)
    all_goals exact DLe.refl _
  | true =>
    have hrt := holdB_iff.1 h1
    have hla := last_p s.at_ (by rw [← Pfx.right]; exact hrt.1)
    have hla2 : lastI s.at_.at_ s.at_.len = s.at_.hi - 1 := rfl
    have hr : innB s.at_ x = ((x != s.at_.at_) && (x != s.at_.hi - 1)) := by
      unfold innB
      rw [holdP_eq, h1, Bool.true_and, Bool.eq_iff_iff]
      have : s.at_.hi = s.at_.at_ + szI s.at_.len := rfl
      simp only [Bool.and_eq_true, decide_eq_true_eq, bne_iff_ne]
      omega
    rw [hla2] at hla
    rw [h1] at hh
    rw [hr]
    have hla : PSpec Tryz.prog 95 [.agg (encP s.at_)] (.v (.int .i64 (s.at_.hi - 1))) := hla
    generalize s.at_.hi - 1 = Z at *
    cases h2 : (x != s.at_.at_) with
    | false =>
      refine ps_i tab_ok mixed Tryz.func97 rfl Tryz.ntmps97 Tryz.results97 (by kernel_rfl) ?_
      repeat' (first | (with_reducible refine And.intro ?_ ?_) | (with_reducible refine gK_i (fun _ => ?_) (fun _ => ?_)) | (with_reducible refine condS_i (fun _ => ?_) (fun _ => ?_)) | (with_reducible refine drw_i (by kernel_rfl)) | simp -dsimp only [go_sem, seval, *, encN, encP, h2, undef] | ((with_reducible refine opK_c ?_); simp -dsimp only [go_sem, seval, encN, encP, h2, undef]; first | refine callK_r (by first | assumption | exact hh) (by first | exact .inl rfl | exact .inr rfl) ?_ | (refine callK_i (by assumption) ?_ ?_ ?_; (solve | (repeat (first | exact DLe.refl _ | exact DLe.nil _ | (refine DLe.tup ?_) | (refine DLe.agg ?_ rfl) | exact trivial | (refine And.intro ?_ ?_)))); (solve | exact .inl rfl | exact .inr rfl))) | fail | omega | exact decide_eq_true (by omega) | exact DLe.refl _)
      all_goals exact DLe.refl _
    | true =>
      refine ps_i tab_ok mixed Tryz.func97 rfl Tryz.ntmps97 Tryz.results97 (by kernel_rfl) ?_
      repeat' (first | (with_reducible refine And.intro ?_ ?_) | (with_reducible refine gK_i (fun _ => ?_) (fun _ => ?_)) | (with_reducible refine condS_i (fun _ => ?_) (fun _ => ?_)) | (with_reducible refine drw_i (by kernel_rfl)) | simp -dsimp only [go_sem, seval, *, encN, encP, h2, undef] | ((with_reducible refine opK_c ?_); simp -dsimp only [go_sem, seval, encN, encP, h2, undef]; first | refine callK_r (by first | assumption | exact hh | exact hla) (by first | exact .inl rfl | exact .inr rfl) ?_ | (refine callK_i (by assumption) ?_ ?_ ?_; (solve | (repeat (first | exact DLe.refl _ | exact DLe.nil _ | (refine DLe.tup ?_) | (refine DLe.agg ?_ rfl) | exact trivial | (refine And.intro ?_ ?_)))); (solve | exact .inl rfl | exact .inr rfl))) | fail | omega | exact decide_eq_true (by omega) | exact DLe.refl _)
      all_goals exact DLe.refl _
/-- Are two rows of numbers the same? -/
theorem sameInts_p (l m : List Int) (hl : l.length ≤ 1000000000) (hm : m.length ≤ 1000000000) : PSpec Tryz.prog 16 [.sl 1 (l.map encA), .sl 1 (m.map encA)] (.v (.bool (decide (l = m)))) := by
  obtain ⟨R, hR⟩ : ∃ R, R = decide (l = m) := ⟨_, rfl⟩
  rw [← hR]
  replace hR := Lib.hid hR
  refine ps_i tab_ok mixed Tryz.func16 rfl Tryz.ntmps16 Tryz.results16 (by kernel_rfl) ?_
  repeat' (first | (with_reducible refine And.intro ?_ ?_) | (with_reducible refine gK_i (fun _ => ?_) (fun _ => ?_)) | (with_reducible refine condS_i (fun _ => ?_) (fun _ => ?_)) | (with_reducible refine drw_i (by kernel_rfl)) | simp -dsimp only [go_sem, seval, *, bne_self_eq_false] | ((with_reducible refine opK_c ?_); simp -dsimp only [go_sem, seval, bne_self_eq_false]; first | refine callK_r (by first | assumption | fail) (by first | exact .inl rfl | exact .inr rfl) ?_ | (refine callK_i (by assumption) ?_ ?_ ?_; (solve | (repeat (first | exact DLe.refl _ | exact DLe.nil _ | (refine DLe.tup ?_) | (refine DLe.agg ?_ rfl) | exact trivial | (refine And.intro ?_ ?_)))); (solve | exact .inl rfl | exact .inr rfl))) | fail | omega | exact decide_eq_true (by omega) | exact DLe.refl _)
  · rename_i h1
    exact dle_b (by rw [hR.out, decide_eq_false]; rintro rfl; simp at h1)
  · rename_i h1
    have hlm : l.length = m.length := by simp at h1; omega
    clear h1
    replace hlm := Lib.hid hlm
    refine loopL tab_ok mixed l (fun k => l.take k = m.take k) (fun k => [(5, .d (.v (.int .i64 k))), (4, .d (.v (.bool false))), (1, .d (.sl 1 (m.map encA))), (0, .d (.sl 1 (l.map encA)))]) (fun _ => []) rfl (weak_forget _ (by simp) (by (try simp only [encA]); rfl) (by (repeat' (first | exact trivial | (refine ⟨rfl, ?_⟩)))) (by first | rfl | simp only [belowH, belowE, belowC, belowL, belowR, belowP, belowL_d, belowR_d, List.length_cons, List.length_nil, Nat.reduceAdd, Nat.reduceLT, decide_true, Bool.and_self, Bool.and_true]) (by first | rfl | simp only [belowH, belowE, belowC, belowL, belowR, belowP, belowL_d, belowR_d, List.length_cons, List.length_nil, Nat.reduceAdd, Nat.reduceLT, decide_true, Bool.and_self, Bool.and_true])) ?_ ?_
    · intro k x hx hk hI C hC
      have hkI : (k : Int) < (l.length : Int) := by omega
      have hwr : IntKind.i64.wrap ((k : Int) + 1) = ((k + 1 : Nat) : Int) := by rw [IntKind.wrap_i64]; omega
      obtain ⟨y, hy⟩ : ∃ y, m[k]? = some y := ⟨_, List.getElem?_eq_getElem (by have := hlm.out; omega)⟩
      replace hI := Lib.hid hI
      cases h1 : (x != y) with
      | true =>
        have hb : R = false := by
          rw [hR.out, decide_eq_false]
          rintro rfl
          rw [hx] at hy
          rw [Option.some.inj hy] at h1; simp at h1
        rw [hb]
        replace hb := Lib.hid hb
        repeat' (first | (with_reducible refine And.intro ?_ ?_) | (with_reducible refine gK_i (fun _ => ?_) (fun _ => ?_)) | (with_reducible refine condS_i (fun _ => ?_) (fun _ => ?_)) | (with_reducible refine drw_i (by kernel_rfl)) | simp -dsimp only [go_sem, seval, *, encA, hkI, hwr, hx, hy, h1] | ((with_reducible refine opK_c ?_); simp -dsimp only [go_sem, seval, encA, hkI, hwr, hx, hy, h1]; first | refine callK_r (by first | assumption | fail) (by first | exact .inl rfl | exact .inr rfl) ?_ | (refine callK_i (by assumption) ?_ ?_ ?_; (solve | (repeat (first | exact DLe.refl _ | exact DLe.nil _ | (refine DLe.tup ?_) | (refine DLe.agg ?_ rfl) | exact trivial | (refine And.intro ?_ ?_)))); (solve | exact .inl rfl | exact .inr rfl))) | fail | omega | exact decide_eq_true (by omega) | exact DLe.refl _)
        all_goals exact DLe.refl _
      | false =>
        have hI2 : l.take (k + 1) = m.take (k + 1) := by rw [take_snoc hx, take_snoc hy, hI.out]; simp at h1; rw [h1]
        replace hI2 := Lib.hid hI2
        repeat' (first | (with_reducible refine And.intro ?_ ?_) | (with_reducible refine gK_i (fun _ => ?_) (fun _ => ?_)) | (with_reducible refine condS_i (fun _ => ?_) (fun _ => ?_)) | (with_reducible refine drw_i (by kernel_rfl)) | simp -dsimp only [go_sem, seval, *, encA, hkI, hwr, hx, hy, h1] | ((with_reducible refine opK_c ?_); simp -dsimp only [go_sem, seval, encA, hkI, hwr, hx, hy, h1]; first | refine callK_r (by first | assumption | fail) (by first | exact .inl rfl | exact .inr rfl) ?_ | (refine callK_i (by assumption) ?_ ?_ ?_; (solve | (repeat (first | exact DLe.refl _ | exact DLe.nil _ | (refine DLe.tup ?_) | (refine DLe.agg ?_ rfl) | exact trivial | (refine And.intro ?_ ?_)))); (solve | exact .inl rfl | exact .inr rfl))) | fail | omega | exact decide_eq_true (by omega) | exact DLe.refl _)
        exact hC _ _ hI2.out (weak_forget _ (by simp) (by (try simp only [encA]); rfl) (by (repeat' (first | exact trivial | (refine ⟨rfl, ?_⟩)))) (by first | rfl | simp only [belowH, belowE, belowC, belowL, belowR, belowP, belowL_d, belowR_d, List.length_cons, List.length_nil, Nat.reduceAdd, Nat.reduceLT, decide_true, Bool.and_self, Bool.and_true]) (by first | rfl | simp only [belowH, belowE, belowC, belowL, belowR, belowP, belowL_d, belowR_d, List.length_cons, List.length_nil, Nat.reduceAdd, Nat.reduceLT, decide_true, Bool.and_self, Bool.and_true]))
    · intro hI C
      have hb : R = true := by
        rw [hR.out, decide_eq_true_eq]
        rw [List.take_length, hlm.out, List.take_length] at hI; exact hI
      rw [hb]
      replace hb := Lib.hid hb
      replace hI := Lib.hid hI
      repeat' (first | (with_reducible refine And.intro ?_ ?_) | (with_reducible refine gK_i (fun _ => ?_) (fun _ => ?_)) | (with_reducible refine condS_i (fun _ => ?_) (fun _ => ?_)) | (with_reducible refine drw_i (by kernel_rfl)) | simp -dsimp only [go_sem, seval, *, Int.lt_irrefl] | ((with_reducible refine opK_c ?_); simp -dsimp only [go_sem, seval, Int.lt_irrefl]; first | refine callK_r (by first | assumption | fail) (by first | exact .inl rfl | exact .inr rfl) ?_ | (refine callK_i (by assumption) ?_ ?_ ?_; (solve | (repeat (first | exact DLe.refl _ | exact DLe.nil _ | (refine DLe.tup ?_) | (refine DLe.agg ?_ rfl) | exact trivial | (refine And.intro ?_ ?_)))); (solve | exact .inl rfl | exact .inr rfl))) | fail | omega | exact decide_eq_true (by omega) | exact DLe.refl _)
      all_goals exact DLe.refl _
end Go.Proofs.YtgmbhaclogabeaaGreat
namespace Go.Proofs.YtgmbhaclogabeaaGreat
open Go Go.RowKit
set_option maxRecDepth 100000 in
set_option maxHeartbeats 1000000 in
theorem vpcMany_p (v : Vpc) (hl : v.subs.length ≤ 9223372036854775807) (hf : ∀ s ∈ v.subs, s.faces.length ≤ 9223372036854775807) : PSpec Tryz.prog 62 [.agg (encV v)] (.v (.bool (manyV v))) := by
  obtain ⟨R, hR⟩ : ∃ R, R = manyV v := ⟨_, rfl⟩
  rw [← hR]
  replace hR := Lib.hid hR
  unfold manyV at hR
  cases h1 : decide ((v.ranges.length : Int) > 4) with
  | true =>
    have hb : R = true := by rw [hR.out, h1]; rfl
    rw [hb]
    replace hb := Lib.hid hb
    refine ps_i tab_ok mixed Tryz.func62 rfl Tryz.ntmps62 Tryz.results62 (by kernel_rfl) ?_
    repeat' (first | (with_reducible refine And.intro ?_ ?_) | (with_reducible refine gK_i (fun _ => ?_) (fun _ => ?_)) | (with_reducible refine condS_i (fun _ => ?_) (fun _ => ?_)) | (with_reducible refine drw_i (by kernel_rfl)) | simp -dsimp only [go_sem, seval, *, encV, h1, undef] | ((with_reducible refine opK_c ?_); simp -dsimp only [go_sem, seval, encV, h1, undef]; first | refine callK_r (by first | assumption | fail) (by first | exact .inl rfl | exact .inr rfl) ?_ | (refine callK_i (by assumption) ?_ ?_ ?_; (solve | (repeat (first | exact DLe.refl _ | exact DLe.nil _ | (refine DLe.tup ?_) | (refine DLe.agg ?_ rfl) | exact trivial | (refine And.intro ?_ ?_)))); (solve | exact .inl rfl | exact .inr rfl))) | fail | omega | exact decide_eq_true (by omega) | exact DLe.refl _)
    all_goals exact DLe.refl _
  | false =>
    cases h2 : decide ((v.subs.length : Int) > 6) with
    | true =>
      have hb : R = true := by rw [hR.out, h1, h2]; rfl
      rw [hb]
      replace hb := Lib.hid hb
      refine ps_i tab_ok mixed Tryz.func62 rfl Tryz.ntmps62 Tryz.results62 (by kernel_rfl) ?_
      repeat' (first | (with_reducible refine And.intro ?_ ?_) | (with_reducible refine gK_i (fun _ => ?_) (fun _ => ?_)) | (with_reducible refine condS_i (fun _ => ?_) (fun _ => ?_)) | (with_reducible refine drw_i (by kernel_rfl)) | simp -dsimp only [go_sem, seval, *, encV, h1, h2, undef] | ((with_reducible refine opK_c ?_); simp -dsimp only [go_sem, seval, encV, h1, h2, undef]; first | refine callK_r (by first | assumption | fail) (by first | exact .inl rfl | exact .inr rfl) ?_ | (refine callK_i (by assumption) ?_ ?_ ?_; (solve | (repeat (first | exact DLe.refl _ | exact DLe.nil _ | (refine DLe.tup ?_) | (refine DLe.agg ?_ rfl) | exact trivial | (refine And.intro ?_ ?_)))); (solve | exact .inl rfl | exact .inr rfl))) | fail | omega | exact decide_eq_true (by omega) | exact DLe.refl _)
      all_goals exact DLe.refl _
    | false =>
      have hR2 : R = v.subs.any manyN := by rw [hR.out, h1, h2]; rfl
      clear hR
      replace hR2 := Lib.hid hR2
      refine ps_i tab_ok mixed Tryz.func62 rfl Tryz.ntmps62 Tryz.results62 (by kernel_rfl) ?_
      repeat' (first | (with_reducible refine And.intro ?_ ?_) | (with_reducible refine gK_i (fun _ => ?_) (fun _ => ?_)) | (with_reducible refine condS_i (fun _ => ?_) (fun _ => ?_)) | (with_reducible refine drw_i (by kernel_rfl)) | simp -dsimp only [go_sem, seval, *, encV, h1, h2, undef] | ((with_reducible refine opK_c ?_); simp -dsimp only [go_sem, seval, encV, h1, h2, undef]; first | refine callK_r (by first | assumption | fail) (by first | exact .inl rfl | exact .inr rfl) ?_ | (refine callK_i (by assumption) ?_ ?_ ?_; (solve | (repeat (first | exact DLe.refl _ | exact DLe.nil _ | (refine DLe.tup ?_) | (refine DLe.agg ?_ rfl) | exact trivial | (refine And.intro ?_ ?_)))); (solve | exact .inl rfl | exact .inr rfl))) | fail | omega | exact decide_eq_true (by omega) | exact DLe.refl _)
      refine loopL tab_ok mixed v.subs (fun k => (v.subs.take k).all (fun s => !(manyN s)) = true) (fun k => [(3, .d (.v (.int .i64 k))), (2, .d (.v (.bool false))), (1, .ptr 0 0)]) (fun _ => [.box 56 ((encV v).map .d)]) rfl (weak_forget _ (by simp) (by (try simp only [encV]); rfl) (by (repeat' (first | exact trivial | (refine ⟨rfl, ?_⟩)))) (by first | rfl | simp only [belowH, belowE, belowC, belowL, belowR, belowP, belowL_d, belowR_d, List.length_cons, List.length_nil, Nat.reduceAdd, Nat.reduceLT, decide_true, Bool.and_self, Bool.and_true]) (by first | rfl | simp only [belowH, belowE, belowC, belowL, belowR, belowP, belowL_d, belowR_d, List.length_cons, List.length_nil, Nat.reduceAdd, Nat.reduceLT, decide_true, Bool.and_self, Bool.and_true])) ?_ ?_
      · intro k s hs hk hI C hC
        have hkI : (k : Int) < (v.subs.length : Int) := by omega
        have hwr : IntKind.i64.wrap ((k : Int) + 1) = ((k + 1 : Nat) : Int) := by rw [IntKind.wrap_i64]; omega
        have hfl := hf s (List.mem_of_getElem? hs)
        have hmn : manyN s = true → R = true := fun h => by rw [hR2.out]; exact List.any_eq_true.2 ⟨s, List.mem_of_getElem? hs, h⟩
        have hst : manyN s = false → (v.subs.take (k + 1)).all (fun s => !(manyN s)) = true := fun h => no_snoc hs hI (by rw [h]; rfl)
        have hmd : manyN s = (decide ((s.faces.length : Int) > 8) || s.faces.any manyF) := rfl
        replace hI := Lib.hid hI
        replace hst := Lib.hid hst
        cases h3 : decide ((s.faces.length : Int) > 8) with
        | true =>
          have hb : R = true := hmn (by rw [hmd, h3]; rfl)
          rw [hb]
          replace hb := Lib.hid hb
          clear hmn hmd
          repeat' (first | (with_reducible refine And.intro ?_ ?_) | (with_reducible refine gK_i (fun _ => ?_) (fun _ => ?_)) | (with_reducible refine condS_i (fun _ => ?_) (fun _ => ?_)) | (with_reducible refine drw_i (by kernel_rfl)) | simp -dsimp only [go_sem, seval, *, encV, encN, hkI, hwr, hs, h3] | ((with_reducible refine opK_c ?_); simp -dsimp only [go_sem, seval, encV, encN, hkI, hwr, hs, h3]; first | refine callK_r (by first | assumption | fail) (by first | exact .inl rfl | exact .inr rfl) ?_ | (refine callK_i (by assumption) ?_ ?_ ?_; (solve | (repeat (first | exact DLe.refl _ | exact DLe.nil _ | (refine DLe.tup ?_) | (refine DLe.agg ?_ rfl) | exact trivial | (refine And.intro ?_ ?_)))); (solve | exact .inl rfl | exact .inr rfl))) | fail | omega | exact decide_eq_true (by omega) | exact DLe.refl _)
          all_goals exact DLe.refl _
        | false =>
          rw [h3, Bool.false_or] at hmd
          replace hmn := Lib.hid hmn
          replace hmd := Lib.hid hmd
          repeat' (first | (with_reducible refine And.intro ?_ ?_) | (with_reducible refine gK_i (fun _ => ?_) (fun _ => ?_)) | (with_reducible refine condS_i (fun _ => ?_) (fun _ => ?_)) | (with_reducible refine drw_i (by kernel_rfl)) | simp -dsimp only [go_sem, seval, *, encV, encN, hkI, hs, h3] | ((with_reducible refine opK_c ?_); simp -dsimp only [go_sem, seval, encV, encN, hkI, hs, h3]; first | refine callK_r (by first | assumption | fail) (by first | exact .inl rfl | exact .inr rfl) ?_ | (refine callK_i (by assumption) ?_ ?_ ?_; (solve | (repeat (first | exact DLe.refl _ | exact DLe.nil _ | (refine DLe.tup ?_) | (refine DLe.agg ?_ rfl) | exact trivial | (refine And.intro ?_ ?_)))); (solve | exact .inl rfl | exact .inr rfl))) | fail | omega | exact decide_eq_true (by omega) | exact DLe.refl _)
          refine loopL tab_ok mixed s.faces (fun j => (s.faces.take j).all (fun f => !(manyF f)) = true) (fun j => [(4, .d (.v (.int .i64 j))), (3, .d (.v (.int .i64 k))), (2, .d (.v (.bool false))), (1, .ptr 0 0)]) (fun _ => [.box 56 ((encV v).map .d)]) rfl (weak_forget _ (by simp) (by (try simp only [encV]); rfl) (by (repeat' (first | exact trivial | (refine ⟨rfl, ?_⟩)))) (by first | rfl | simp only [belowH, belowE, belowC, belowL, belowR, belowP, belowL_d, belowR_d, List.length_cons, List.length_nil, Nat.reduceAdd, Nat.reduceLT, decide_true, Bool.and_self, Bool.and_true]) (by first | rfl | simp only [belowH, belowE, belowC, belowL, belowR, belowP, belowL_d, belowR_d, List.length_cons, List.length_nil, Nat.reduceAdd, Nat.reduceLT, decide_true, Bool.and_self, Bool.and_true])) ?_ ?_
          · intro j f hfj hj hJ C2 hC2
            have hjI : (j : Int) < (s.faces.length : Int) := by omega
            have hwj : IntKind.i64.wrap ((j : Int) + 1) = ((j + 1 : Nat) : Int) := by rw [IntKind.wrap_i64]; omega
            replace hJ := Lib.hid hJ
            cases h4 : decide ((f.addrs.length : Int) > 4) with
            | true =>
              have hb : R = true := hmn.out (by rw [hmd.out]; exact List.any_eq_true.2 ⟨f, List.mem_of_getElem? hfj, h4⟩)
              rw [hb]
              replace hb := Lib.hid hb
              repeat' (first | (with_reducible refine And.intro ?_ ?_) | (with_reducible refine gK_i (fun _ => ?_) (fun _ => ?_)) | (with_reducible refine condS_i (fun _ => ?_) (fun _ => ?_)) | (with_reducible refine drw_i (by kernel_rfl)) | simp -dsimp only [go_sem, seval, *, encV, encN, encF, hkI, hs, hjI, hwj, hfj, h4] | ((with_reducible refine opK_c ?_); simp -dsimp only [go_sem, seval, encV, encN, encF, hkI, hs, hjI, hwj, hfj, h4]; first | refine callK_r (by first | assumption | fail) (by first | exact .inl rfl | exact .inr rfl) ?_ | (refine callK_i (by assumption) ?_ ?_ ?_; (solve | (repeat (first | exact DLe.refl _ | exact DLe.nil _ | (refine DLe.tup ?_) | (refine DLe.agg ?_ rfl) | exact trivial | (refine And.intro ?_ ?_)))); (solve | exact .inl rfl | exact .inr rfl))) | fail | omega | exact decide_eq_true (by omega) | exact DLe.refl _)
              all_goals exact DLe.refl _
            | false =>
              have hJ2 := Lib.hid (no_snoc (p := fun f : Fce => !(manyF f)) hfj hJ.out (by unfold manyF; rw [h4]; rfl))
              repeat' (first | (with_reducible refine And.intro ?_ ?_) | (with_reducible refine gK_i (fun _ => ?_) (fun _ => ?_)) | (with_reducible refine condS_i (fun _ => ?_) (fun _ => ?_)) | (with_reducible refine drw_i (by kernel_rfl)) | simp -dsimp only [go_sem, seval, *, encV, encN, encF, hkI, hs, hjI, hwj, hfj, h4] | ((with_reducible refine opK_c ?_); simp -dsimp only [go_sem, seval, encV, encN, encF, hkI, hs, hjI, hwj, hfj, h4]; first | refine callK_r (by first | assumption | fail) (by first | exact .inl rfl | exact .inr rfl) ?_ | (refine callK_i (by assumption) ?_ ?_ ?_; (solve | (repeat (first | exact DLe.refl _ | exact DLe.nil _ | (refine DLe.tup ?_) | (refine DLe.agg ?_ rfl) | exact trivial | (refine And.intro ?_ ?_)))); (solve | exact .inl rfl | exact .inr rfl))) | fail | omega | exact decide_eq_true (by omega) | exact DLe.refl _)
              exact hC2 _ _ hJ2.out (weak_forget _ (by simp) (by (try simp only [encV]); rfl) (by (repeat' (first | exact trivial | (refine ⟨rfl, ?_⟩)))) (by first | rfl | simp only [belowH, belowE, belowC, belowL, belowR, belowP, belowL_d, belowR_d, List.length_cons, List.length_nil, Nat.reduceAdd, Nat.reduceLT, decide_true, Bool.and_self, Bool.and_true]) (by first | rfl | simp only [belowH, belowE, belowC, belowL, belowR, belowP, belowL_d, belowR_d, List.length_cons, List.length_nil, Nat.reduceAdd, Nat.reduceLT, decide_true, Bool.and_self, Bool.and_true]))
          · intro hJ C2
            rw [List.take_length] at hJ
            have hI2 := hst.out (by rw [hmd.out, List.any_eq_false]; intro x hx; have := List.all_eq_true.1 hJ x hx; simpa using this)
            replace hJ := Lib.hid hJ
            replace hI2 := Lib.hid hI2
            repeat' (first | (with_reducible refine And.intro ?_ ?_) | (with_reducible refine gK_i (fun _ => ?_) (fun _ => ?_)) | (with_reducible refine condS_i (fun _ => ?_) (fun _ => ?_)) | (with_reducible refine drw_i (by kernel_rfl)) | simp -dsimp only [go_sem, seval, *, encV, encN, hkI, hwr, hs, Int.lt_irrefl] | ((with_reducible refine opK_c ?_); simp -dsimp only [go_sem, seval, encV, encN, hkI, hwr, hs, Int.lt_irrefl]; first | refine callK_r (by first | assumption | fail) (by first | exact .inl rfl | exact .inr rfl) ?_ | (refine callK_i (by assumption) ?_ ?_ ?_; (solve | (repeat (first | exact DLe.refl _ | exact DLe.nil _ | (refine DLe.tup ?_) | (refine DLe.agg ?_ rfl) | exact trivial | (refine And.intro ?_ ?_)))); (solve | exact .inl rfl | exact .inr rfl))) | fail | omega | exact decide_eq_true (by omega) | exact DLe.refl _)
            exact hC _ _ hI2.out (weak_forget _ (by simp) (by (try simp only [encV]); rfl) (by (repeat' (first | exact trivial | (refine ⟨rfl, ?_⟩)))) (by first | rfl | simp only [belowH, belowE, belowC, belowL, belowR, belowP, belowL_d, belowR_d, List.length_cons, List.length_nil, Nat.reduceAdd, Nat.reduceLT, decide_true, Bool.and_self, Bool.and_true]) (by first | rfl | simp only [belowH, belowE, belowC, belowL, belowR, belowP, belowL_d, belowR_d, List.length_cons, List.length_nil, Nat.reduceAdd, Nat.reduceLT, decide_true, Bool.and_self, Bool.and_true]))
      · intro hI C
        rw [List.take_length] at hI
        have hb : R = false := by rw [hR2.out, List.any_eq_false]; intro x hx; have := List.all_eq_true.1 hI x hx; simpa using this
        rw [hb]
        replace hb := Lib.hid hb
        replace hI := Lib.hid hI
        repeat' (first | (with_reducible refine And.intro ?_ ?_) | (with_reducible refine gK_i (fun _ => ?_) (fun _ => ?_)) | (with_reducible refine condS_i (fun _ => ?_) (fun _ => ?_)) | (with_reducible refine drw_i (by kernel_rfl)) | simp -dsimp only [go_sem, seval, *, encV, Int.lt_irrefl] | ((with_reducible refine opK_c ?_); simp -dsimp only [go_sem, seval, encV, Int.lt_irrefl]; first | refine callK_r (by first | assumption | fail) (by first | exact .inl rfl | exact .inr rfl) ?_ | (refine callK_i (by assumption) ?_ ?_ ?_; (solve | (repeat (first | exact DLe.refl _ | exact DLe.nil _ | (refine DLe.tup ?_) | (refine DLe.agg ?_ rfl) | exact trivial | (refine And.intro ?_ ?_)))); (solve | exact .inl rfl | exact .inr rfl))) | fail | omega | exact decide_eq_true (by omega) | exact DLe.refl _)
        all_goals exact DLe.refl _
end Go.Proofs.YtgmbhaclogabeaaGreat
namespace Go.Proofs.YtgmbhaclogabeaaGreat
open Go Go.RowKit
theorem facesB_bad {s : Sbn} {f : Fce} (hf : f ∈ s.faces) (h : faceB s.at_ f = false) : facesB s = false := by
  unfold facesB
  rw [show s.faces.all (faceB s.at_) = false from by rw [List.all_eq_false]; exact ⟨f, hf, by rw [h]; simp⟩]; rfl
theorem facesB_rise {s : Sbn} {k : Nat} {x y : Fce} (h0 : 0 < k) (hx : s.faces[k - 1]? = some x) (hy : s.faces[k]? = some y) (h : x.id ≥ y.id) : facesB s = false := by
  have : risB (fun f : Fce => f.id) s.faces = false := by
    rw [Bool.eq_false_iff, ne_eq, risB_at]
    intro hr
    obtain ⟨hl, he⟩ := List.getElem?_eq_some_iff.1 hy
    obtain ⟨hl1, he1⟩ := List.getElem?_eq_some_iff.1 hx
    have h1 := hr (k - 1) (by omega)
    simp only [show k - 1 + 1 = k by omega, he, he1] at h1
    omega
  unfold facesB
  simp only [this, Bool.and_false]
theorem faceB_rise {p : Pfx} {f : Fce} {k : Nat} {x y : Int} (h0 : 0 < k) (hx : f.addrs[k - 1]? = some x) (hy : f.addrs[k]? = some y) (h : x ≥ y) : faceB p f = false := by
  have : risB (fun x => x) f.addrs = false := by
    rw [Bool.eq_false_iff, ne_eq, risB_at]
    intro hr
    obtain ⟨hl, he⟩ := List.getElem?_eq_some_iff.1 hy
    obtain ⟨hl1, he1⟩ := List.getElem?_eq_some_iff.1 hx
    have h1 := hr (k - 1) (by omega)
    simp only [show k - 1 + 1 = k by omega, he, he1] at h1
    omega
  unfold faceB
  simp [this]
theorem facesB_dup {s : Sbn} {k : Nat} {f : Fce} {a : Int} (hf : s.faces[k]? = some f) (ha : a ∈ f.addrs) (hd : a ∈ (s.faces.take k).flatMap (·.addrs)) : facesB s = false := by
  have : ¬ (s.faces.flatMap (·.addrs)).Nodup := by
    intro hn
    rw [← List.take_append_drop k s.faces, drop_get hf, List.flatMap_append, List.flatMap_cons, List.nodup_append] at hn
    exact hn.2.2 a hd a (List.mem_append_left _ ha) rfl
  unfold facesB
  simp [this]
theorem ris_step {α : Type} {key : α → Int} {l : List α} {k : Nat} {y : α} (hy : l[k]? = some y) (h : ∀ j (h : j + 1 < l.length), j + 1 < k → key l[j] < key l[j + 1]) (hs : ∀ x, 0 < k → l[k - 1]? = some x → key x < key y) : ∀ j (h : j + 1 < l.length), j + 1 < k + 1 → key l[j] < key l[j + 1] := by
  intro j hj hjk
  rcases Nat.lt_or_ge (j + 1) k with h1 | h1
  · exact h j hj h1
  · obtain rfl : k = j + 1 := by omega
    obtain ⟨hl, he⟩ := List.getElem?_eq_some_iff.1 hy
    rw [he]
    exact hs _ (by omega) (List.getElem?_eq_getElem (by omega))
set_option maxRecDepth 100000 in
set_option maxHeartbeats 4000000 in
theorem facesFine_p (s : Sbn) (h8 : s.faces.length ≤ 8) (h4 : ∀ f ∈ s.faces, f.addrs.length ≤ 4) : PSpec Tryz.prog 66 [.agg (encN s)] (.v (.bool (facesB s))) := by
  obtain ⟨R, hR⟩ : ∃ R, R = facesB s := ⟨_, rfl⟩
  rw [← hR]
  replace hR := Lib.hid hR
  refine ps_i tab_ok mixed Tryz.func66 rfl Tryz.ntmps66 Tryz.results66 (by kernel_rfl) ?_
  repeat' (first | (with_reducible refine And.intro ?_ ?_) | (with_reducible refine gK_i (fun _ => ?_) (fun _ => ?_)) | (with_reducible refine condS_i (fun _ => ?_) (fun _ => ?_)) | (with_reducible refine drw_i (by kernel_rfl)) | simp -dsimp only [go_sem, seval, *, encN] | ((with_reducible refine opK_c ?_); simp -dsimp only [go_sem, seval, encN]; first | refine callK_r (by first | assumption | fail) (by first | exact .inl rfl | exact .inr rfl) ?_ | (refine callK_i (by assumption) ?_ ?_ ?_; (solve | (repeat (first | exact DLe.refl _ | exact DLe.nil _ | (refine DLe.tup ?_) | (refine DLe.agg ?_ rfl) | exact trivial | (refine And.intro ?_ ?_)))); (solve | exact .inl rfl | exact .inr rfl))) | fail | omega | exact decide_eq_true (by omega) | exact DLe.refl _)
  refine loopG tab_ok mixed (fun m e h => ∃ (k g : Nat) (A : List Int), k ≤ s.faces.length ∧ A = (s.faces.take k).flatMap (·.addrs) ∧ A.length ≤ 4 * k ∧ A.Nodup ∧ (s.faces.take k).all (faceB s.at_) = true ∧ (∀ j (h : j + 1 < s.faces.length), j + 1 < k → s.faces[j].id < s.faces[j + 1].id) ∧ m = s.faces.length - k ∧
    e = [(4, .d (.v (.int .i64 k))), (3, .own 1 g), (2, .d (.v (.bool false))), (1, .ptr 0 0)] ∧ h = [.box 86 ((encN s).map .d), .row 3 1 g (dRows (A.map encA))]) _ _ _ ⟨0, 0, [], Nat.zero_le _, rfl, Nat.zero_le _, List.nodup_nil, rfl, fun j h h1 => by omega, rfl, rfl, rfl⟩ ((weak_adopt (Nat.zero_le _) 3 3 1 rfl).trans (weak_forget _ (by simp) (by (try simp only [encN]); rfl) (by (repeat' (first | exact trivial | (refine ⟨rfl, ?_⟩)))) (by first | rfl | simp only [belowH, belowE, belowC, belowL, belowR, belowP, belowL_d, belowR_d, List.length_cons, List.length_nil, Nat.reduceAdd, Nat.reduceLT, decide_true, Bool.and_self, Bool.and_true]) (by first | rfl | simp only [belowH, belowE, belowC, belowL, belowR, belowP, belowL_d, belowR_d, List.length_cons, List.length_nil, Nat.reduceAdd, Nat.reduceLT, decide_true, Bool.and_self, Bool.and_true]))) ?_
  rintro m e h ⟨k, g, A, hk, hA, hAl, hnd, hall, hris, hm, rfl, rfl⟩ C hC
  replace hm := Lib.hid hm
  replace hA := Lib.hid hA
  replace hnd := Lib.hid hnd
  replace hall := Lib.hid hall
  replace hris := Lib.hid hris
  by_cases hlt : k < s.faces.length
  · have hkI : (k : Int) < (s.faces.length : Int) := by omega
    have hwr : IntKind.i64.wrap ((k : Int) + 1) = ((k + 1 : Nat) : Int) := by rw [IntKind.wrap_i64]; omega
    have hwm : decide ((k : Int) > 0) = true → IntKind.i64.wrap ((k : Int) - 1) = ((k - 1 : Nat) : Int) := fun h => by have := of_decide_eq_true h; rw [IntKind.wrap_i64]; omega
    obtain ⟨f, hf⟩ : ∃ f, s.faces[k]? = some f := ⟨_, List.getElem?_eq_getElem hlt⟩
    obtain ⟨y, hy⟩ : ∃ y, s.faces[k - 1]? = some y := ⟨_, List.getElem?_eq_getElem (by omega)⟩
    have hfm := List.mem_of_getElem? hf
    have hfl := h4 f hfm
    have hw : PSpec Tryz.prog 34 [.v (.int .i64 f.id), .v (.int .i64 1), .v (.int .i64 65536)] (.v (.bool (idOK f.id))) := withinR_p _ _ _
    have hbr : (0 < k ∧ y.id ≥ f.id) → R = false := fun h => by rw [hR.out]; exact facesB_rise h.1 hy hf h.2
    have hbf : faceB s.at_ f = false → R = false := fun h => by rw [hR.out]; exact facesB_bad hfm h
    have hbd : ∀ a ∈ f.addrs, a ∈ A → R = false := fun a h1 h2 => by rw [hR.out]; exact facesB_dup hf h1 (by rw [← hA.out]; exact h2)
    have hfd : faceB s.at_ f = (idOK f.id && (!((f.addrs.length : Int) == 0) && (risB (fun x => x) f.addrs && f.addrs.all (innB s.at_)))) := rfl
    replace hbr := Lib.hid hbr
    replace hbf := Lib.hid hbf
    replace hbd := Lib.hid hbd
    replace hfd := Lib.hid hfd
    cases b1 : idOK f.id with
    | false =>
      have hr : R = false := hbf.out (by rw [hfd.out, b1]; rfl)
      rw [b1] at hw
      rw [hr]
      replace hr := Lib.hid hr
      repeat' (first | (with_reducible refine And.intro ?_ ?_) | (with_reducible refine gK_i (fun _ => ?_) (fun _ => ?_)) | (with_reducible refine condS_i (fun _ => ?_) (fun _ => ?_)) | (with_reducible refine drw_i (by kernel_rfl)) | simp -dsimp only [go_sem, seval, *, encN, encF, hkI, hf, hy, undef] | ((with_reducible refine opK_c ?_); simp -dsimp only [go_sem, seval, encN, encF, hkI, hf, hy, undef]; first | refine callK_r (by first | assumption | exact hw) (by first | exact .inl rfl | exact .inr rfl) ?_ | (refine callK_i (by assumption) ?_ ?_ ?_; (solve | (repeat (first | exact DLe.refl _ | exact DLe.nil _ | (refine DLe.tup ?_) | (refine DLe.agg ?_ rfl) | exact trivial | (refine And.intro ?_ ?_)))); (solve | exact .inl rfl | exact .inr rfl))) | fail | omega | exact decide_eq_true (by omega) | exact DLe.refl _)
      all_goals exact DLe.refl _
    | true =>
      rw [b1] at hw
      cases b2 : ((f.addrs.length : Int) == 0) with
      | true =>
        have hr : R = false := hbf.out (by rw [hfd.out, b1, b2]; rfl)
        rw [hr]
        replace hr := Lib.hid hr
        repeat' (first | (with_reducible refine And.intro ?_ ?_) | (with_reducible refine gK_i (fun _ => ?_) (fun _ => ?_)) | (with_reducible refine condS_i (fun _ => ?_) (fun _ => ?_)) | (with_reducible refine drw_i (by kernel_rfl)) | simp -dsimp only [go_sem, seval, *, encN, encF, hkI, hwm, hf, hy, b2, undef] | ((with_reducible refine opK_c ?_); simp -dsimp only [go_sem, seval, encN, encF, hkI, hwm, hf, hy, b2, undef]; first | refine callK_r (by first | assumption | exact hw) (by first | exact .inl rfl | exact .inr rfl) ?_ | (refine callK_i (by assumption) ?_ ?_ ?_; (solve | (repeat (first | exact DLe.refl _ | exact DLe.nil _ | (refine DLe.tup ?_) | (refine DLe.agg ?_ rfl) | exact trivial | (refine And.intro ?_ ?_)))); (solve | exact .inl rfl | exact .inr rfl))) | fail | omega | exact decide_eq_true (by omega) | exact DLe.refl _)
        all_goals exact DLe.refl _
      | false =>
        repeat' (first | (with_reducible refine And.intro ?_ ?_) | (with_reducible refine gK_i (fun _ => ?_) (fun _ => ?_)) | (with_reducible refine condS_i (fun _ => ?_) (fun _ => ?_)) | (with_reducible refine drw_i (by kernel_rfl)) | simp -dsimp only [go_sem, seval, *, encN, encF, hkI, hwm, hf, hy, b2, undef] | ((with_reducible refine opK_c ?_); simp -dsimp only [go_sem, seval, encN, encF, hkI, hwm, hf, hy, b2, undef]; first | refine callK_r (by first | assumption | exact hw) (by first | exact .inl rfl | exact .inr rfl) ?_ | (refine callK_i (by assumption) ?_ ?_ ?_; (solve | (repeat (first | exact DLe.refl _ | exact DLe.nil _ | (refine DLe.tup ?_) | (refine DLe.agg ?_ rfl) | exact trivial | (refine And.intro ?_ ?_)))); (solve | exact .inl rfl | exact .inr rfl))) | fail | omega | exact decide_eq_true (by omega) | exact DLe.refl _)
        all_goals first
          | (exact dle_b (hbr.out (by clear hw hC; grind)).symm)
          | skip
        all_goals
          have hst : 0 < k → y.id < f.id := by clear hw hC; grind
          replace hst := Lib.hid hst
          refine loopG tab_ok mixed (fun m e h => ∃ (j : Nat), j ≤ f.addrs.length ∧ (f.addrs.take j).all (innB s.at_) = true ∧ (∀ i (h : i + 1 < f.addrs.length), i + 1 < j → f.addrs[i] < f.addrs[i + 1]) ∧ (f.addrs.take j).all (fun a => !(A.contains a)) = true ∧ m = f.addrs.length - j ∧
            e = [(6, .d (.v (.int .i64 j))), (5, .ptr 2 0), (4, .d (.v (.int .i64 k))), (3, .own 1 g), (2, .d (.v (.bool false))), (1, .ptr 0 0)] ∧ h = [.box 86 ((encN s).map .d), .row 3 1 g (dRows (A.map encA)), .box 88 ((encF f).map .d)]) _ _ _ ⟨0, Nat.zero_le _, rfl, fun j h h1 => by omega, rfl, rfl, rfl, rfl⟩ (weak_forget _ (by simp) (by (try simp only [encN, encF]); rfl) (by (repeat' (first | exact trivial | (refine ⟨rfl, ?_⟩)))) (by first | rfl | simp only [belowH, belowE, belowC, belowL, belowR, belowP, belowL_d, belowR_d, List.length_cons, List.length_nil, Nat.reduceAdd, Nat.reduceLT, decide_true, Bool.and_self, Bool.and_true]) (by first | rfl | simp only [belowH, belowE, belowC, belowL, belowR, belowP, belowL_d, belowR_d, List.length_cons, List.length_nil, Nat.reduceAdd, Nat.reduceLT, decide_true, Bool.and_self, Bool.and_true])) ?_
          rintro m2 e h ⟨j, hj, hin, hri2, hno, hm2, rfl, rfl⟩ C2 hC2
          replace hm2 := Lib.hid hm2
          replace hin := Lib.hid hin
          replace hri2 := Lib.hid hri2
          replace hno := Lib.hid hno
          by_cases hlj : j < f.addrs.length
          · have hjI : (j : Int) < (f.addrs.length : Int) := by omega
            have hwj : IntKind.i64.wrap ((j : Int) + 1) = ((j + 1 : Nat) : Int) := by rw [IntKind.wrap_i64]; omega
            have hwi : decide ((j : Int) > 0) = true → IntKind.i64.wrap ((j : Int) - 1) = ((j - 1 : Nat) : Int) := fun h => by have := of_decide_eq_true h; rw [IntKind.wrap_i64]; omega
            obtain ⟨a, ha⟩ : ∃ a, f.addrs[j]? = some a := ⟨_, List.getElem?_eq_getElem hlj⟩
            obtain ⟨b, hb⟩ : ∃ b, f.addrs[j - 1]? = some b := ⟨_, List.getElem?_eq_getElem (by omega)⟩
            have ham := List.mem_of_getElem? ha
            have hnr := innerR_p s a
            have hba : (0 < j ∧ b ≥ a) → R = false := fun h => hbf.out (faceB_rise h.1 hb ha h.2)
            replace hba := Lib.hid hba
            cases b3 : innB s.at_ a with
            | false =>
              have hr : R = false := hbf.out (by rw [hfd.out, show f.addrs.all (innB s.at_) = false from by rw [List.all_eq_false]; exact ⟨a, ham, by rw [b3]; simp⟩]; simp)
              rw [b3] at hnr
              rw [hr]
              replace hr := Lib.hid hr
              repeat' (first | (with_reducible refine And.intro ?_ ?_) | (with_reducible refine gK_i (fun _ => ?_) (fun _ => ?_)) | (with_reducible refine condS_i (fun _ => ?_) (fun _ => ?_)) | (with_reducible refine drw_i (by kernel_rfl)) | simp -dsimp only [go_sem, seval, *, encN, encF, encA, hjI, ha, hb, undef] | ((with_reducible refine opK_c ?_); simp -dsimp only [go_sem, seval, encN, encF, encA, hjI, ha, hb, undef]; first | refine callK_r (by first | assumption | exact hnr) (by first | exact .inl rfl | exact .inr rfl) ?_ | (refine callK_i (by assumption) ?_ ?_ ?_; (solve | (repeat (first | exact DLe.refl _ | exact DLe.nil _ | (refine DLe.tup ?_) | (refine DLe.agg ?_ rfl) | exact trivial | (refine And.intro ?_ ?_)))); (solve | exact .inl rfl | exact .inr rfl))) | fail | omega | exact decide_eq_true (by omega) | exact DLe.refl _)
              all_goals exact DLe.refl _
            | true =>
              rw [b3] at hnr
              repeat' (first | (with_reducible refine And.intro ?_ ?_) | (with_reducible refine gK_i (fun _ => ?_) (fun _ => ?_)) | (with_reducible refine condS_i (fun _ => ?_) (fun _ => ?_)) | (with_reducible refine drw_i (by kernel_rfl)) | simp -dsimp only [go_sem, seval, *, encN, encF, encA, hjI, hwi, ha, hb, undef] | ((with_reducible refine opK_c ?_); simp -dsimp only [go_sem, seval, encN, encF, encA, hjI, hwi, ha, hb, undef]; first | refine callK_r (by first | assumption | exact hnr) (by first | exact .inl rfl | exact .inr rfl) ?_ | (refine callK_i (by assumption) ?_ ?_ ?_; (solve | (repeat (first | exact DLe.refl _ | exact DLe.nil _ | (refine DLe.tup ?_) | (refine DLe.agg ?_ rfl) | exact trivial | (refine And.intro ?_ ?_)))); (solve | exact .inl rfl | exact .inr rfl))) | fail | omega | exact decide_eq_true (by omega) | exact DLe.refl _)
              all_goals first
                | (exact dle_b (hba.out (by clear hw hC hC2 hnr; grind)).symm)
                | skip
              all_goals
                have hsa : 0 < j → b < a := by clear hw hC hC2 hnr; grind
                replace hsa := Lib.hid hsa
                refine loopL tab_ok mixed A (fun q => (A.take q).all (fun x => !(x == a)) = true) (fun q => [(7, .d (.v (.int .i64 q))), (6, .d (.v (.int .i64 j))), (5, .ptr 2 0), (4, .d (.v (.int .i64 k))), (3, .own 1 g), (2, .d (.v (.bool false))), (1, .ptr 0 0)])
                  (fun _ => [.box 86 ((encN s).map .d), .row 3 1 g (dRows (A.map encA)), .box 88 ((encF f).map .d)]) rfl (weak_forget _ (by simp) (by (try simp only [encN, encF]); rfl) (by (repeat' (first | exact trivial | (refine ⟨rfl, ?_⟩)))) (by first | rfl | simp only [belowH, belowE, belowC, belowL, belowR, belowP, belowL_d, belowR_d, List.length_cons, List.length_nil, Nat.reduceAdd, Nat.reduceLT, decide_true, Bool.and_self, Bool.and_true]) (by first | rfl | simp only [belowH, belowE, belowC, belowL, belowR, belowP, belowL_d, belowR_d, List.length_cons, List.length_nil, Nat.reduceAdd, Nat.reduceLT, decide_true, Bool.and_self, Bool.and_true])) ?_ ?_
                · intro q x hx hq hQ C3 hC3
                  have hqI : (q : Int) < (A.length : Int) := by omega
                  have hwq : IntKind.i64.wrap ((q : Int) + 1) = ((q + 1 : Nat) : Int) := by rw [IntKind.wrap_i64]; omega
                  replace hQ := Lib.hid hQ
                  cases b4 : (x == a) with
                  | true =>
                    have hr : R = false := hbd.out a ham (by rw [← eq_of_beq b4]; exact List.mem_of_getElem? hx)
                    rw [hr]
                    replace hr := Lib.hid hr
                    repeat' (first | (with_reducible refine And.intro ?_ ?_) | (with_reducible refine gK_i (fun _ => ?_) (fun _ => ?_)) | (with_reducible refine condS_i (fun _ => ?_) (fun _ => ?_)) | (with_reducible refine drw_i (by kernel_rfl)) | simp -dsimp only [go_sem, seval, *, encN, encF, encA, hqI, hwq, ha, hx, b4, undef] | ((with_reducible refine opK_c ?_); simp -dsimp only [go_sem, seval, encN, encF, encA, hqI, hwq, ha, hx, b4, undef]; first | refine callK_r (by first | assumption | fail) (by first | exact .inl rfl | exact .inr rfl) ?_ | (refine callK_i (by assumption) ?_ ?_ ?_; (solve | (repeat (first | exact DLe.refl _ | exact DLe.nil _ | (refine DLe.tup ?_) | (refine DLe.agg ?_ rfl) | exact trivial | (refine And.intro ?_ ?_)))); (solve | exact .inl rfl | exact .inr rfl))) | fail | omega | exact decide_eq_true (by omega) | exact DLe.refl _)
                    all_goals exact DLe.refl _
                  | false =>
                    have hQ2 := Lib.hid (no_snoc (p := fun x : Int => !(x == a)) hx hQ.out (by rw [b4]; rfl))
                    repeat' (first | (with_reducible refine And.intro ?_ ?_) | (with_reducible refine gK_i (fun _ => ?_) (fun _ => ?_)) | (with_reducible refine condS_i (fun _ => ?_) (fun _ => ?_)) | (with_reducible refine drw_i (by kernel_rfl)) | simp -dsimp only [go_sem, seval, *, encN, encF, encA, hqI, hwq, ha, hx, b4, undef] | ((with_reducible refine opK_c ?_); simp -dsimp only [go_sem, seval, encN, encF, encA, hqI, hwq, ha, hx, b4, undef]; first | refine callK_r (by first | assumption | fail) (by first | exact .inl rfl | exact .inr rfl) ?_ | (refine callK_i (by assumption) ?_ ?_ ?_; (solve | (repeat (first | exact DLe.refl _ | exact DLe.nil _ | (refine DLe.tup ?_) | (refine DLe.agg ?_ rfl) | exact trivial | (refine And.intro ?_ ?_)))); (solve | exact .inl rfl | exact .inr rfl))) | fail | omega | exact decide_eq_true (by omega) | exact DLe.refl _)
                    exact hC3 _ _ hQ2.out (weak_forget _ (by simp) (by (try simp only [encN, encF]); rfl) (by (repeat' (first | exact trivial | (refine ⟨rfl, ?_⟩)))) (by first | rfl | simp only [belowH, belowE, belowC, belowL, belowR, belowP, belowL_d, belowR_d, List.length_cons, List.length_nil, Nat.reduceAdd, Nat.reduceLT, decide_true, Bool.and_self, Bool.and_true]) (by first | rfl | simp only [belowH, belowE, belowC, belowL, belowR, belowP, belowL_d, belowR_d, List.length_cons, List.length_nil, Nat.reduceAdd, Nat.reduceLT, decide_true, Bool.and_self, Bool.and_true]))
                · intro hQ C3
                  rw [List.take_length] at hQ
                  have hna : A.contains a = false := by
                    rw [Bool.eq_false_iff, ne_eq, List.contains_iff_mem]
                    intro hm
                    have := List.all_eq_true.1 hQ a hm
                    simp at this
                  replace hQ := Lib.hid hQ
                  replace hna := Lib.hid hna
                  repeat' (first | (with_reducible refine And.intro ?_ ?_) | (with_reducible refine gK_i (fun _ => ?_) (fun _ => ?_)) | (with_reducible refine condS_i (fun _ => ?_) (fun _ => ?_)) | (with_reducible refine drw_i (by kernel_rfl)) | simp -dsimp only [go_sem, seval, *, encN, encF, hwj, Int.lt_irrefl, undef] | ((with_reducible refine opK_c ?_); simp -dsimp only [go_sem, seval, encN, encF, hwj, Int.lt_irrefl, undef]; first | refine callK_r (by first | assumption | fail) (by first | exact .inl rfl | exact .inr rfl) ?_ | (refine callK_i (by assumption) ?_ ?_ ?_; (solve | (repeat (first | exact DLe.refl _ | exact DLe.nil _ | (refine DLe.tup ?_) | (refine DLe.agg ?_ rfl) | exact trivial | (refine And.intro ?_ ?_)))); (solve | exact .inl rfl | exact .inr rfl))) | fail | omega | exact decide_eq_true (by omega) | exact DLe.refl _)
                  refine hC2 _ _ _ _ _ ?_ ⟨j + 1, hlj, no_snoc ha hin.out b3, ris_step (key := fun x : Int => x) ha hri2.out (fun x h0 hx => by rw [hb] at hx; rw [← Option.some.inj hx]; exact hsa.out h0), no_snoc ha hno.out (by rw [hna.out]; rfl), rfl, rfl, rfl⟩ (weak_forget _ (by simp) (by (try simp only [encN, encF]); rfl) (by (repeat' (first | exact trivial | (refine ⟨rfl, ?_⟩)))) (by first | rfl | simp only [belowH, belowE, belowC, belowL, belowR, belowP, belowL_d, belowR_d, List.length_cons, List.length_nil, Nat.reduceAdd, Nat.reduceLT, decide_true, Bool.and_self, Bool.and_true]) (by first | rfl | simp only [belowH, belowE, belowC, belowL, belowR, belowP, belowL_d, belowR_d, List.length_cons, List.length_nil, Nat.reduceAdd, Nat.reduceLT, decide_true, Bool.and_self, Bool.and_true]))
                  have := hm2.out; omega
          · obtain rfl : j = f.addrs.length := by omega
            have hin := hin.out
            have hno := hno.out
            rw [List.take_length] at hin hno
            have hfb : faceB s.at_ f = true := by
              rw [hfd.out, b1, b2, hin, (risB_at f.addrs).2 (fun i hi => hri2.out i hi (by omega))]; rfl
            have hA2 : A ++ f.addrs = (s.faces.take (k + 1)).flatMap (·.addrs) := by rw [take_snoc hf, List.flatMap_append, ← hA.out]; simp
            have hnf : f.addrs.Nodup := by
              have h1 := (risB_pair (key := fun x : Int => x) f.addrs).1 ((risB_at f.addrs).2 (fun i hi => hri2.out i hi (by omega)))
              exact h1.imp (fun h => by omega)
            have hnd2 : (A ++ f.addrs).Nodup := by
              rw [List.nodup_append]
              refine ⟨hnd.out, hnf, fun x hx y hy e => ?_⟩
              subst e
              have := List.all_eq_true.1 hno x hy
              rw [List.contains_iff_mem.2 hx] at this
              simp at this
            have hbnd : (A.length + f.addrs.length) * 8 ≤ 140737488355328 := by omega
            replace hno := Lib.hid hno
            replace hin := Lib.hid hin
            replace hfb := Lib.hid hfb
            replace hA2 := Lib.hid hA2
            replace hnf := Lib.hid hnf
            replace hnd2 := Lib.hid hnd2
            repeat' (first | (with_reducible refine And.intro ?_ ?_) | (with_reducible refine gK_i (fun _ => ?_) (fun _ => ?_)) | (with_reducible refine condS_i (fun _ => ?_) (fun _ => ?_)) | (with_reducible refine drw_i (by kernel_rfl)) | simp -dsimp only [go_sem, seval, *, encN, encF, hwr, hbnd, Int.lt_irrefl, undef] | ((with_reducible refine opK_c ?_); simp -dsimp only [go_sem, seval, encN, encF, hwr, hbnd, Int.lt_irrefl, undef]; first | refine callK_r (by first | assumption | fail) (by first | exact .inl rfl | exact .inr rfl) ?_ | (refine callK_i (by assumption) ?_ ?_ ?_; (solve | (repeat (first | exact DLe.refl _ | exact DLe.nil _ | (refine DLe.tup ?_) | (refine DLe.agg ?_ rfl) | exact trivial | (refine And.intro ?_ ?_)))); (solve | exact .inl rfl | exact .inr rfl))) | fail | omega | exact decide_eq_true (by omega) | exact DLe.refl _)
            refine hC _ _ _ _ _ ?_ ⟨k + 1, g + 1, A ++ f.addrs, hlt, hA2.out, by rw [List.length_append]; omega, hnd2.out, no_snoc hf hall.out hfb.out, ris_step (key := fun f : Fce => f.id) hf hris.out (fun x h0 hx => by rw [hy] at hx; rw [← Option.some.inj hx]; exact hst.out h0), rfl, rfl, rfl⟩ (weak_forget _ (by simp) (by simp only [encN, encF, List.map_append, List.map_cons, List.map_nil, ← dRows_app]; rfl) (by (repeat' (first | exact trivial | (refine ⟨rfl, ?_⟩)))) (by first | rfl | simp only [belowH, belowE, belowC, belowL, belowR, belowP, belowL_d, belowR_d, List.length_cons, List.length_nil, Nat.reduceAdd, Nat.reduceLT, decide_true, Bool.and_self, Bool.and_true]) (by first | rfl | simp only [belowH, belowE, belowC, belowL, belowR, belowP, belowL_d, belowR_d, List.length_cons, List.length_nil, Nat.reduceAdd, Nat.reduceLT, decide_true, Bool.and_self, Bool.and_true]))
            have := hm.out; omega
  · obtain rfl : k = s.faces.length := by omega
    have hr : R = true := by
      have hall := hall.out
      have hA := hA.out
      rw [List.take_length] at hall hA
      rw [hR.out]
      unfold facesB
      rw [hall, ← hA, (risB_at s.faces).2 (fun i hi => hris.out i hi (by omega))]
      simp [hnd.out]
    rw [hr]
    replace hr := Lib.hid hr
    repeat' (first | (with_reducible refine And.intro ?_ ?_) | (with_reducible refine gK_i (fun _ => ?_) (fun _ => ?_)) | (with_reducible refine condS_i (fun _ => ?_) (fun _ => ?_)) | (with_reducible refine drw_i (by kernel_rfl)) | simp -dsimp only [go_sem, seval, *, encN, Int.lt_irrefl, undef] | ((with_reducible refine opK_c ?_); simp -dsimp only [go_sem, seval, encN, Int.lt_irrefl, undef]; first | refine callK_r (by first | assumption | fail) (by first | exact .inl rfl | exact .inr rfl) ?_ | (refine callK_i (by assumption) ?_ ?_ ?_; (solve | (repeat (first | exact DLe.refl _ | exact DLe.nil _ | (refine DLe.tup ?_) | (refine DLe.agg ?_ rfl) | exact trivial | (refine And.intro ?_ ?_)))); (solve | exact .inl rfl | exact .inr rfl))) | fail | omega | exact decide_eq_true (by omega) | exact DLe.refl _)
    all_goals exact DLe.refl _
end Go.Proofs.YtgmbhaclogabeaaGreat
namespace Go.Proofs.YtgmbhaclogabeaaGreat
open Go Go.RowKit
theorem apaF_iff : ∀ (pre l : List Pfx), apaF pre l = true ↔ l.Pairwise (fun a b => b.meets a = false) ∧ ∀ a ∈ pre, ∀ b ∈ l, b.meets a = false
  | pre, [] => by simp [apaF]
  | pre, p :: l => by
    simp only [apaF, Bool.and_eq_true, Bool.not_eq_true', List.any_eq_false, Bool.not_eq_true, apaF_iff (pre ++ [p]) l, List.pairwise_cons, List.mem_append, List.mem_cons, List.not_mem_nil, or_false]
    constructor
    · rintro ⟨h1, h2, h3⟩
      refine ⟨⟨fun b hb => h3 p (.inr rfl) b hb, h2⟩, fun a ha b hb => ?_⟩
      rcases hb with rfl | hb
      · exact h1 a ha
      · exact h3 a (.inl ha) b hb
    · rintro ⟨⟨h1, h2⟩, h3⟩
      refine ⟨fun x hx => h3 x hx p (.inl rfl), h2, fun a ha b hb => ?_⟩
      rcases ha with ha | rfl
      · exact h3 a ha b (.inr hb)
      · exact h1 b hb
theorem apaF_nil {l : List Pfx} : apaF [] l = true ↔ l.Pairwise (fun a b => b.meets a = false) := by
  rw [apaF_iff]; simp
/-- Right prefixes that rise, where none meets the one ahead of it: none meets another one. -/
theorem apaF_adj {l : List Pfx} (hr : ∀ p ∈ l, p.right = true) (hs : l.Pairwise fun a b => a.at_ < b.at_) (ha : ∀ j (h : j + 1 < l.length), l[j].meets l[j + 1] = false) : apaF [] l = true := by
  rw [apaF_nil, List.pairwise_iff_getElem]
  intro i j hi hj hij
  rw [Bool.eq_false_iff, ne_eq, meets_iff]
  rintro ⟨-, -, h1, h2⟩
  have h3 := ha i (by omega)
  have r1 := hr l[i] (List.getElem_mem hi)
  have r2 := hr l[i + 1] (List.getElem_mem (by omega))
  rw [Bool.eq_false_iff, ne_eq, meets_iff] at h3
  have s1 := List.pairwise_iff_getElem.1 hs i (i + 1) hi (by omega) (by omega)
  have s2 : l[i + 1].at_ ≤ l[j].at_ := by
    rcases Nat.lt_or_ge (i + 1) j with h | h
    · have := List.pairwise_iff_getElem.1 hs (i + 1) j (by omega) hj h; omega
    · obtain rfl : j = i + 1 := by omega
      exact Int.le_refl _
  have b2 := l[i + 1].hi_bd r2
  exact h3 ⟨r1, r2, by omega, by omega⟩
theorem chkV_one {v : Vpc} (hm : manyV v = false) (h : fineV v = false ∨ apaF [] (v.ranges.map (·.at_)) = false ∨ apaF [] (v.subs.map (·.at_)) = false) : chkV v = 1 := by
  unfold chkV
  rw [if_neg (by simp [hm]), if_neg]
  rintro h1
  simp only [Bool.and_eq_true] at h1
  rcases h with h | h | h <;> simp [h] at h1
theorem apaF_bad {l : List Pfx} {i j : Nat} {x y : Pfx} (hij : i < j) (hx : l[i]? = some x) (hy : l[j]? = some y) (h : x.meets y = true) : apaF [] l = false := by
  rw [Bool.eq_false_iff, ne_eq, apaF_nil]
  intro hp
  obtain ⟨h1, rfl⟩ := List.getElem?_eq_some_iff.1 hx
  obtain ⟨h2, rfl⟩ := List.getElem?_eq_some_iff.1 hy
  have := List.pairwise_iff_getElem.1 hp i j h1 h2 hij
  rw [← meetB_eq] at this h
  unfold meetB at this h
  grind
theorem risB_bad {α : Type} {key : α → Int} {l : List α} {k : Nat} {x y : α} (h0 : 0 < k) (hx : l[k - 1]? = some x) (hy : l[k]? = some y) (h : key x ≥ key y) : risB key l = false := by
  rw [Bool.eq_false_iff, ne_eq, risB_at]
  intro hr
  obtain ⟨hl, he⟩ := List.getElem?_eq_some_iff.1 hy
  obtain ⟨hl1, he1⟩ := List.getElem?_eq_some_iff.1 hx
  have h1 := hr (k - 1) (by omega)
  simp only [show k - 1 + 1 = k by omega, he, he1] at h1
  omega
theorem all_bad {α : Type} {p : α → Bool} {l : List α} {x : α} (hx : x ∈ l) (h : p x = false) : l.all p = false := by
  rw [List.all_eq_false]; exact ⟨x, hx, by rw [h]; simp⟩
theorem fineV_bad {v : Vpc} (h : idOK v.id = false ∨ risB (fun r : Rng => r.at_.at_) v.ranges = false ∨ risB (fun s : Sbn => s.id) v.subs = false ∨ v.ranges.all rangeB = false ∨ v.subs.all (subB v) = false) : fineV v = false := by
  unfold fineV
  rcases h with h | h | h | h | h <;> simp [h]
end Go.Proofs.YtgmbhaclogabeaaGreat
namespace Go.Proofs.YtgmbhaclogabeaaGreat
open Go Go.RowKit
theorem adj_step {l : List Rng} {k : Nat} {y : Rng} (hy : l[k]? = some y) (h : ∀ j (h : j + 1 < l.length), j + 1 < k → l[j].at_.at_ < l[j + 1].at_.at_ ∧ l[j].at_.meets l[j + 1].at_ = false) (hs : ∀ x, 0 < k → l[k - 1]? = some x → x.at_.at_ < y.at_.at_ ∧ x.at_.meets y.at_ = false) : ∀ j (h : j + 1 < l.length), j + 1 < k + 1 → l[j].at_.at_ < l[j + 1].at_.at_ ∧ l[j].at_.meets l[j + 1].at_ = false := by
  intro j hj hjk
  rcases Nat.lt_or_ge (j + 1) k with h1 | h1
  · exact h j hj h1
  · obtain rfl : k = j + 1 := by omega
    obtain ⟨hl, he⟩ := List.getElem?_eq_some_iff.1 hy
    rw [he]
    exact hs _ (by omega) (List.getElem?_eq_getElem (by omega))
theorem chkV_zero {v : Vpc} (hm : manyV v = false) (h1 : idOK v.id = true) (h2 : v.ranges.all rangeB = true) (h3 : ∀ j (h : j + 1 < v.ranges.length), v.ranges[j].at_.at_ < v.ranges[j + 1].at_.at_ ∧ v.ranges[j].at_.meets v.ranges[j + 1].at_ = false) (h4 : v.subs.all (subB v) = true) (h5 : ∀ j (h : j + 1 < v.subs.length), v.subs[j].id < v.subs[j + 1].id) (h6 : ∀ (i j : Nat) (x y : Sbn), i < j → v.subs[i]? = some x → v.subs[j]? = some y → x.at_.meets y.at_ = false) : chkV v = 0 := by
  have r1 : risB (fun r : Rng => r.at_.at_) v.ranges = true := (risB_at v.ranges).2 fun j hj => (h3 j hj).1
  have r2 : risB (fun s : Sbn => s.id) v.subs = true := (risB_at v.subs).2 h5
  rw [vpcOK]
  refine ⟨hm, by unfold fineV; rw [h1, r1, r2, h2, h4]; rfl, ?_, ?_⟩
  · refine apaF_adj (fun p hp => ?_) ?_ fun j hj => ?_
    · obtain ⟨r, hr, rfl⟩ := List.mem_map.1 hp
      exact rangeB_right (List.all_eq_true.1 h2 r hr)
    · rw [List.pairwise_map]
      exact (risB_pair v.ranges).1 r1
    · simp only [List.length_map] at hj
      simp only [List.getElem_map]
      exact (h3 j hj).2
  · rw [apaF_nil, List.pairwise_map, List.pairwise_iff_getElem]
    intro i j hi hj hij
    have := h6 i j _ _ hij (List.getElem?_eq_getElem hi) (List.getElem?_eq_getElem hj)
    rw [← meetB_eq] at this ⊢
    unfold meetB at this ⊢
    grind
set_option maxRecDepth 100000 in
set_option maxHeartbeats 4000000 in
theorem checkVpc_p (v : Vpc) (hl : v.subs.length ≤ 9223372036854775807) (hf : ∀ s ∈ v.subs, s.faces.length ≤ 9223372036854775807) : PSpec Tryz.prog 31 [.agg (encV v)] (.v (.int .i64 (chkV v))) := by
  have hmy := vpcMany_p v hl hf
  clear hl hf
  cases hm : manyV v with
  | true =>
    rw [hm] at hmy
    have hr : chkV v = 2 := by unfold chkV; rw [if_pos hm]
    rw [hr]
    refine ps_i tab_ok mixed Tryz.func31 rfl Tryz.ntmps31 Tryz.results31 (by kernel_rfl) ?_
    repeat' (first | (with_reducible refine And.intro ?_ ?_) | (with_reducible refine gK_i (fun _ => ?_) (fun _ => ?_)) | (with_reducible refine condS_i (fun _ => ?_) (fun _ => ?_)) | (with_reducible refine drw_i (by kernel_rfl)) | simp -dsimp only [go_sem, seval, *, encV] | ((with_reducible refine opK_c ?_); simp -dsimp only [go_sem, seval, encV]; first | refine callK_r (by first | assumption | exact hmy) (by first | exact .inl rfl | exact .inr rfl) ?_ | (refine callK_i (by assumption) ?_ ?_ ?_; (solve | (repeat (first | exact DLe.refl _ | exact DLe.nil _ | (refine DLe.tup ?_) | (refine DLe.agg ?_ rfl) | exact trivial | (refine And.intro ?_ ?_)))); (solve | exact .inl rfl | exact .inr rfl))) | fail | omega | exact decide_eq_true (by omega) | exact DLe.refl _)
  | false =>
  obtain ⟨h4, h6, h8⟩ := manyV_ok hm
  rw [hm] at hmy
  have hid : PSpec Tryz.prog 34 [.v (.int .i64 v.id), .v (.int .i64 1), .v (.int .i64 65536)] (.v (.bool (idOK v.id))) := withinR_p _ _ _
  have hone := Lib.hid (fun h => chkV_one hm h)
  have hzero := Lib.hid (fun a b c d e f => chkV_zero hm a b c d e f)
  replace h8 := Lib.hid h8
  replace hm := Lib.hid hm
  obtain ⟨R, hR⟩ : ∃ R, R = chkV v := ⟨_, rfl⟩
  rw [← hR]
  replace hR := Lib.hid hR
  cases b1 : idOK v.id with
  | false =>
    have hr : R = 1 := by rw [hR.out]; exact hone.out (.inl (fineV_bad (.inl b1)))
    rw [b1] at hid
    rw [hr]
    replace hr := Lib.hid hr
    refine ps_i tab_ok mixed Tryz.func31 rfl Tryz.ntmps31 Tryz.results31 (by kernel_rfl) ?_
    repeat' (first | (with_reducible refine And.intro ?_ ?_) | (with_reducible refine gK_i (fun _ => ?_) (fun _ => ?_)) | (with_reducible refine condS_i (fun _ => ?_) (fun _ => ?_)) | (with_reducible refine drw_i (by kernel_rfl)) | simp -dsimp only [go_sem, seval, *, encV] | ((with_reducible refine opK_c ?_); simp -dsimp only [go_sem, seval, encV]; first | refine callK_r (by first | assumption | exact hmy | exact hid) (by first | exact .inl rfl | exact .inr rfl) ?_ | (refine callK_i (by assumption) ?_ ?_ ?_; (solve | (repeat (first | exact DLe.refl _ | exact DLe.nil _ | (refine DLe.tup ?_) | (refine DLe.agg ?_ rfl) | exact trivial | (refine And.intro ?_ ?_)))); (solve | exact .inl rfl | exact .inr rfl))) | fail | omega | exact decide_eq_true (by omega) | exact DLe.refl _)
  | true =>
  rw [b1] at hid
  refine ps_i tab_ok mixed Tryz.func31 rfl Tryz.ntmps31 Tryz.results31 (by kernel_rfl) ?_
  repeat' (first | (with_reducible refine And.intro ?_ ?_) | (with_reducible refine gK_i (fun _ => ?_) (fun _ => ?_)) | (with_reducible refine condS_i (fun _ => ?_) (fun _ => ?_)) | (with_reducible refine drw_i (by kernel_rfl)) | simp -dsimp only [go_sem, seval, *, encV] | ((with_reducible refine opK_c ?_); simp -dsimp only [go_sem, seval, encV]; first | refine callK_r (by first | assumption | exact hmy | exact hid) (by first | exact .inl rfl | exact .inr rfl) ?_ | (refine callK_i (by assumption) ?_ ?_ ?_; (solve | (repeat (first | exact DLe.refl _ | exact DLe.nil _ | (refine DLe.tup ?_) | (refine DLe.agg ?_ rfl) | exact trivial | (refine And.intro ?_ ?_)))); (solve | exact .inl rfl | exact .inr rfl))) | fail | omega | exact decide_eq_true (by omega) | exact DLe.refl _)
  clear hmy hid
  refine loopG tab_ok mixed (fun m e h => ∃ (k : Nat), k ≤ v.ranges.length ∧ (v.ranges.take k).all rangeB = true ∧ (∀ j (h : j + 1 < v.ranges.length), j + 1 < k → v.ranges[j].at_.at_ < v.ranges[j + 1].at_.at_ ∧ v.ranges[j].at_.meets v.ranges[j + 1].at_ = false) ∧ m = v.ranges.length - k ∧ e = [(3, .d (.v (.int .i64 k))), (2, .d (.v (.int .i64 0))), (1, .ptr 0 0)] ∧
    h = [.box 56 ((encV v).map .d)]) _ _ _ ⟨0, Nat.zero_le _, rfl, fun j h h1 => by omega, rfl, rfl, rfl⟩ (weak_forget _ (by simp) (by (try simp only [encV]); rfl) (by (repeat' (first | exact trivial | (refine ⟨rfl, ?_⟩)))) (by first | rfl | simp only [belowH, belowE, belowC, belowL, belowR, belowP, belowL_d, belowR_d, List.length_cons, List.length_nil, Nat.reduceAdd, Nat.reduceLT, decide_true, Bool.and_self, Bool.and_true]) (by first | rfl | simp only [belowH, belowE, belowC, belowL, belowR, belowP, belowL_d, belowR_d, List.length_cons, List.length_nil, Nat.reduceAdd, Nat.reduceLT, decide_true, Bool.and_self, Bool.and_true])) ?_
  rintro m e h ⟨k, hk, hall, hadj, hm0, rfl, rfl⟩ C hC
  replace hm0 := Lib.hid hm0
  replace hall := Lib.hid hall
  replace hadj := Lib.hid hadj
  by_cases hlt : k < v.ranges.length
  · have hkI : (k : Int) < (v.ranges.length : Int) := by omega
    have hwr : IntKind.i64.wrap ((k : Int) + 1) = ((k + 1 : Nat) : Int) := by rw [IntKind.wrap_i64]; omega
    have hwm : decide ((k : Int) > 0) = true → IntKind.i64.wrap ((k : Int) - 1) = ((k - 1 : Nat) : Int) := fun h => by have := of_decide_eq_true h; rw [IntKind.wrap_i64]; omega
    obtain ⟨r, hr⟩ : ∃ r, v.ranges[k]? = some r := ⟨_, List.getElem?_eq_getElem hlt⟩
    obtain ⟨y, hy⟩ : ∃ y, v.ranges[k - 1]? = some y := ⟨_, List.getElem?_eq_getElem (by omega)⟩
    have hrm := List.mem_of_getElem? hr
    have hw : PSpec Tryz.prog 34 [.v (.int .i64 r.pool), .v (.int .i64 1), .v (.int .i64 65536)] (.v (.bool (idOK r.pool))) := withinR_p _ _ _
    have hrt : PSpec Tryz.prog 63 [.agg (encP r.at_)] (.v (.bool (chk r.at_.at_ r.at_.len == 0))) := rightR_p r.at_
    have hme := meet_p y.at_ r.at_
    rw [meetB_eq] at hme
    have hrb : rangeB r = (idOK r.pool && (chk r.at_.at_ r.at_.len == 0)) := rfl
    have hbad : rangeB r = false → R = 1 := fun h => by rw [hR.out]; exact hone.out (.inl (fineV_bad (.inr (.inr (.inr (.inl (all_bad hrm h)))))))
    have hbr : 0 < k ∧ y.at_.at_ ≥ r.at_.at_ → R = 1 := fun h => by rw [hR.out]; exact hone.out (.inl (fineV_bad (.inr (.inl (risB_bad (key := fun r : Rng => r.at_.at_) h.1 hy hr h.2)))))
    have hbm : 0 < k ∧ y.at_.meets r.at_ = true → R = 1 := fun h => by
      rw [hR.out]
      exact hone.out (.inr (.inl (apaF_bad (i := k - 1) (j := k) (by omega) (by rw [List.getElem?_map, hy]; rfl) (by rw [List.getElem?_map, hr]; rfl) h.2)))
    replace hbad := Lib.hid hbad
    replace hbr := Lib.hid hbr
    replace hbm := Lib.hid hbm
    cases b2 : rangeB r with
    | false =>
      have h1 : R = 1 := hbad.out b2
      rw [b2] at hrb
      rw [h1]
      replace h1 := Lib.hid h1
      cases b3 : idOK r.pool with
      | false =>
        rw [b3] at hw
        clear hrb
        repeat' (first | (with_reducible refine And.intro ?_ ?_) | (with_reducible refine gK_i (fun _ => ?_) (fun _ => ?_)) | (with_reducible refine condS_i (fun _ => ?_) (fun _ => ?_)) | (with_reducible refine drw_i (by kernel_rfl)) | simp -dsimp only [go_sem, seval, *, encV, encG, encP, hkI, hr, hy, undef] | ((with_reducible refine opK_c ?_); simp -dsimp only [go_sem, seval, encV, encG, encP, hkI, hr, hy, undef]; first | refine callK_r (by first | assumption | exact hw) (by first | exact .inl rfl | exact .inr rfl) ?_ | (refine callK_i (by assumption) ?_ ?_ ?_; (solve | (repeat (first | exact DLe.refl _ | exact DLe.nil _ | (refine DLe.tup ?_) | (refine DLe.agg ?_ rfl) | exact trivial | (refine And.intro ?_ ?_)))); (solve | exact .inl rfl | exact .inr rfl))) | fail | omega | exact decide_eq_true (by omega) | exact DLe.refl _)
        all_goals exact DLe.refl _
      | true =>
        rw [b3, Bool.true_and] at hrb
        rw [b3] at hw
        have b4 := hrb.symm
        rw [b4] at hrt
        clear hrb
        replace b4 := Lib.hid b4
        repeat' (first | (with_reducible refine And.intro ?_ ?_) | (with_reducible refine gK_i (fun _ => ?_) (fun _ => ?_)) | (with_reducible refine condS_i (fun _ => ?_) (fun _ => ?_)) | (with_reducible refine drw_i (by kernel_rfl)) | simp -dsimp only [go_sem, seval, *, encV, encG, encP, hkI, hr, hy, undef] | ((with_reducible refine opK_c ?_); simp -dsimp only [go_sem, seval, encV, encG, encP, hkI, hr, hy, undef]; first | refine callK_r (by first | assumption | exact hw | exact hrt) (by first | exact .inl rfl | exact .inr rfl) ?_ | (refine callK_i (by assumption) ?_ ?_ ?_; (solve | (repeat (first | exact DLe.refl _ | exact DLe.nil _ | (refine DLe.tup ?_) | (refine DLe.agg ?_ rfl) | exact trivial | (refine And.intro ?_ ?_)))); (solve | exact .inl rfl | exact .inr rfl))) | fail | omega | exact decide_eq_true (by omega) | exact DLe.refl _)
        all_goals exact DLe.refl _
    | true =>
      rw [b2] at hrb
      obtain ⟨b3, b4⟩ := Bool.and_eq_true_iff.1 hrb.symm
      rw [b3] at hw
      rw [b4] at hrt
      clear hrb
      replace b3 := Lib.hid b3
      replace b4 := Lib.hid b4
      cases b5 : y.at_.meets r.at_ with
      | true =>
        rw [b5] at hme
        repeat' (first | (with_reducible refine And.intro ?_ ?_) | (with_reducible refine gK_i (fun _ => ?_) (fun _ => ?_)) | (with_reducible refine condS_i (fun _ => ?_) (fun _ => ?_)) | (with_reducible refine drw_i (by kernel_rfl)) | simp -dsimp only [go_sem, seval, *, encV, encG, encP, hkI, hwm, hr, hy, undef] | ((with_reducible refine opK_c ?_); simp -dsimp only [go_sem, seval, encV, encG, encP, hkI, hwm, hr, hy, undef]; first | refine callK_r (by first | assumption | exact hw | exact hrt | exact hme) (by first | exact .inl rfl | exact .inr rfl) ?_ | (refine callK_i (by assumption) ?_ ?_ ?_; (solve | (repeat (first | exact DLe.refl _ | exact DLe.nil _ | (refine DLe.tup ?_) | (refine DLe.agg ?_ rfl) | exact trivial | (refine And.intro ?_ ?_)))); (solve | exact .inl rfl | exact .inr rfl))) | fail | omega | exact decide_eq_true (by omega) | exact DLe.refl _)
        all_goals first
          | (exact dle_n (hbm.out (by clear hw hC hrt hme; grind)).symm)
          | (refine hC _ _ _ _ _ ?_ ⟨k + 1, hlt, no_snoc hr hall.out b2, adj_step hr hadj.out (fun x h0 hx => ?_), rfl, rfl, rfl⟩ (weak_forget _ (by simp) (by (try simp only [encV]); rfl) (by (repeat' (first | exact trivial | (refine ⟨rfl, ?_⟩)))) (by first | rfl | simp only [belowH, belowE, belowC, belowL, belowR, belowP, belowL_d, belowR_d, List.length_cons, List.length_nil, Nat.reduceAdd, Nat.reduceLT, decide_true, Bool.and_self, Bool.and_true]) (by first | rfl | simp only [belowH, belowE, belowC, belowL, belowR, belowP, belowL_d, belowR_d, List.length_cons, List.length_nil, Nat.reduceAdd, Nat.reduceLT, decide_true, Bool.and_self, Bool.and_true]))
             · have := hm0.out; omega
             · exfalso; clear hw hC hrt hme; grind)
      | false =>
        rw [b5] at hme
        repeat' (first | (with_reducible refine And.intro ?_ ?_) | (with_reducible refine gK_i (fun _ => ?_) (fun _ => ?_)) | (with_reducible refine condS_i (fun _ => ?_) (fun _ => ?_)) | (with_reducible refine drw_i (by kernel_rfl)) | simp -dsimp only [go_sem, seval, *, encV, encG, encP, hkI, hwr, hwm, hr, hy, undef] | ((with_reducible refine opK_c ?_); simp -dsimp only [go_sem, seval, encV, encG, encP, hkI, hwr, hwm, hr, hy, undef]; first | refine callK_r (by first | assumption | exact hw | exact hrt | exact hme) (by first | exact .inl rfl | exact .inr rfl) ?_ | (refine callK_i (by assumption) ?_ ?_ ?_; (solve | (repeat (first | exact DLe.refl _ | exact DLe.nil _ | (refine DLe.tup ?_) | (refine DLe.agg ?_ rfl) | exact trivial | (refine And.intro ?_ ?_)))); (solve | exact .inl rfl | exact .inr rfl))) | fail | omega | exact decide_eq_true (by omega) | exact DLe.refl _)
        all_goals first
          | (exact dle_n (hbr.out (by clear hw hC hrt hme; grind)).symm)
          | (refine hC _ _ _ _ _ ?_ ⟨k + 1, hlt, no_snoc hr hall.out b2, adj_step hr hadj.out (fun x h0 hx => ?_), rfl, rfl, rfl⟩ (weak_forget _ (by simp) (by (try simp only [encV]); rfl) (by (repeat' (first | exact trivial | (refine ⟨rfl, ?_⟩)))) (by first | rfl | simp only [belowH, belowE, belowC, belowL, belowR, belowP, belowL_d, belowR_d, List.length_cons, List.length_nil, Nat.reduceAdd, Nat.reduceLT, decide_true, Bool.and_self, Bool.and_true]) (by first | rfl | simp only [belowH, belowE, belowC, belowL, belowR, belowP, belowL_d, belowR_d, List.length_cons, List.length_nil, Nat.reduceAdd, Nat.reduceLT, decide_true, Bool.and_self, Bool.and_true]))
             · have := hm0.out; omega
             · rw [hy] at hx
               rw [← Option.some.inj hx]
               exact ⟨by clear hw hC hrt hme; grind, b5⟩)
  · obtain rfl : k = v.ranges.length := by omega
    have hall := hall.out
    rw [List.take_length] at hall
    have hadj2 := Lib.hid (fun j hj => hadj.out j hj (by omega))
    replace hall := Lib.hid hall
    clear hadj
    repeat' (first | (with_reducible refine And.intro ?_ ?_) | (with_reducible refine gK_i (fun _ => ?_) (fun _ => ?_)) | (with_reducible refine condS_i (fun _ => ?_) (fun _ => ?_)) | (with_reducible refine drw_i (by kernel_rfl)) | simp -dsimp only [go_sem, seval, *, encV, Int.lt_irrefl, undef] | ((with_reducible refine opK_c ?_); simp -dsimp only [go_sem, seval, encV, Int.lt_irrefl, undef]; first | refine callK_r (by first | assumption | fail) (by first | exact .inl rfl | exact .inr rfl) ?_ | (refine callK_i (by assumption) ?_ ?_ ?_; (solve | (repeat (first | exact DLe.refl _ | exact DLe.nil _ | (refine DLe.tup ?_) | (refine DLe.agg ?_ rfl) | exact trivial | (refine And.intro ?_ ?_)))); (solve | exact .inl rfl | exact .inr rfl))) | fail | omega | exact decide_eq_true (by omega) | exact DLe.refl _)
    refine loopG tab_ok mixed (fun m e h => ∃ (k : Nat), k ≤ v.subs.length ∧ (v.subs.take k).all (subB v) = true ∧ (∀ j (h : j + 1 < v.subs.length), j + 1 < k → v.subs[j].id < v.subs[j + 1].id) ∧ (∀ (i j : Nat) (x y : Sbn), i < j → j < k → v.subs[i]? = some x → v.subs[j]? = some y → x.at_.meets y.at_ = false) ∧ m = v.subs.length - k ∧ e = [(5, .d (.v (.int .i64 k))), (2, .d (.v (.int .i64 0))), (1, .ptr 0 0)] ∧
      h = [.box 56 ((encV v).map .d)]) _ _ _ ⟨0, Nat.zero_le _, rfl, fun j h h1 => by omega, fun i j x y h1 h2 => by omega, rfl, rfl, rfl⟩ (weak_forget _ (by simp) (by (try simp only [encV]); rfl) (by (repeat' (first | exact trivial | (refine ⟨rfl, ?_⟩)))) (by first | rfl | simp only [belowH, belowE, belowC, belowL, belowR, belowP, belowL_d, belowR_d, List.length_cons, List.length_nil, Nat.reduceAdd, Nat.reduceLT, decide_true, Bool.and_self, Bool.and_true]) (by first | rfl | simp only [belowH, belowE, belowC, belowL, belowR, belowP, belowL_d, belowR_d, List.length_cons, List.length_nil, Nat.reduceAdd, Nat.reduceLT, decide_true, Bool.and_self, Bool.and_true])) ?_
    rintro m2 e h ⟨k, hk2, hal2, hris, hmt, hm2, rfl, rfl⟩ C2 hC2
    replace hm2 := Lib.hid hm2
    replace hal2 := Lib.hid hal2
    replace hris := Lib.hid hris
    replace hmt := Lib.hid hmt
    by_cases hls : k < v.subs.length
    · have hkI : (k : Int) < (v.subs.length : Int) := by omega
      have hwr : IntKind.i64.wrap ((k : Int) + 1) = ((k + 1 : Nat) : Int) := by rw [IntKind.wrap_i64]; omega
      have hwm : decide ((k : Int) > 0) = true → IntKind.i64.wrap ((k : Int) - 1) = ((k - 1 : Nat) : Int) := fun h => by have := of_decide_eq_true h; rw [IntKind.wrap_i64]; omega
      obtain ⟨s, hs⟩ : ∃ s, v.subs[k]? = some s := ⟨_, List.getElem?_eq_getElem hls⟩
      obtain ⟨y, hy⟩ : ∃ y, v.subs[k - 1]? = some y := ⟨_, List.getElem?_eq_getElem (by omega)⟩
      have hsm := List.mem_of_getElem? hs
      have hw : PSpec Tryz.prog 34 [.v (.int .i64 s.id), .v (.int .i64 1), .v (.int .i64 65536)] (.v (.bool (idOK s.id))) := withinR_p _ _ _
      have hir := inRange_p v s.at_ (by omega)
      have hff := facesFine_p s (h8.out s hsm).1 (h8.out s hsm).2
      have hsb : subB v s = (idOK s.id && (holdsV v s.at_ && facesB s)) := rfl
      have hbad : subB v s = false → R = 1 := fun h => by rw [hR.out]; exact hone.out (.inl (fineV_bad (.inr (.inr (.inr (.inr (all_bad hsm h)))))))
      have hbr : 0 < k ∧ y.id ≥ s.id → R = 1 := fun h => by rw [hR.out]; exact hone.out (.inl (fineV_bad (.inr (.inr (.inl (risB_bad (key := fun s : Sbn => s.id) h.1 hy hs h.2))))))
      have hbm : ∀ (j : Nat) (x : Sbn), j < k → v.subs[j]? = some x → x.at_.meets s.at_ = true → R = 1 := fun j x hj hx h => by
        rw [hR.out]
        exact hone.out (.inr (.inr (apaF_bad (i := j) (j := k) hj (by rw [List.getElem?_map, hx]; rfl) (by rw [List.getElem?_map, hs]; rfl) h)))
      replace hbad := Lib.hid hbad
      replace hbr := Lib.hid hbr
      replace hbm := Lib.hid hbm
      replace hsb := Lib.hid hsb
      cases b3 : idOK s.id with
      | false =>
        have h1 : R = 1 := hbad.out (by rw [hsb.out, b3]; rfl)
        rw [h1]
        replace h1 := Lib.hid h1
        rw [b3] at hw
        repeat' (first | (with_reducible refine And.intro ?_ ?_) | (with_reducible refine gK_i (fun _ => ?_) (fun _ => ?_)) | (with_reducible refine condS_i (fun _ => ?_) (fun _ => ?_)) | (with_reducible refine drw_i (by kernel_rfl)) | simp -dsimp only [go_sem, seval, *, encV, encN, encP, hkI, hs, hy, undef] | ((with_reducible refine opK_c ?_); simp -dsimp only [go_sem, seval, encV, encN, encP, hkI, hs, hy, undef]; first | refine callK_r (by first | assumption | exact hw) (by first | exact .inl rfl | exact .inr rfl) ?_ | (refine callK_i (by assumption) ?_ ?_ ?_; (solve | (repeat (first | exact DLe.refl _ | exact DLe.nil _ | (refine DLe.tup ?_) | (refine DLe.agg ?_ rfl) | exact trivial | (refine And.intro ?_ ?_)))); (solve | exact .inl rfl | exact .inr rfl))) | fail | omega | exact decide_eq_true (by omega) | exact DLe.refl _)
        all_goals exact DLe.refl _
      | true =>
        rw [b3] at hw
        cases b4 : holdsV v s.at_ with
        | false =>
          have h1 : R = 1 := hbad.out (by rw [hsb.out, b3, b4]; rfl)
          rw [h1]
          replace h1 := Lib.hid h1
          rw [b4] at hir
          repeat' (first | (with_reducible refine And.intro ?_ ?_) | (with_reducible refine gK_i (fun _ => ?_) (fun _ => ?_)) | (with_reducible refine condS_i (fun _ => ?_) (fun _ => ?_)) | (with_reducible refine drw_i (by kernel_rfl)) | simp -dsimp only [go_sem, seval, *, encV, encN, encP, hkI, hs, hy, undef] | ((with_reducible refine opK_c ?_); simp -dsimp only [go_sem, seval, encV, encN, encP, hkI, hs, hy, undef]; first | refine callK_r (by first | assumption | exact hw | exact hir) (by first | exact .inl rfl | exact .inr rfl) ?_ | (refine callK_i (by assumption) ?_ ?_ ?_; (solve | (repeat (first | exact DLe.refl _ | exact DLe.nil _ | (refine DLe.tup ?_) | (refine DLe.agg ?_ rfl) | exact trivial | (refine And.intro ?_ ?_)))); (solve | exact .inl rfl | exact .inr rfl))) | fail | omega | exact decide_eq_true (by omega) | exact DLe.refl _)
          all_goals exact DLe.refl _
        | true =>
          rw [b4] at hir
          cases b5 : facesB s with
          | false =>
            have h1 : R = 1 := hbad.out (by rw [hsb.out, b3, b4, b5]; rfl)
            rw [h1]
            replace h1 := Lib.hid h1
            rw [b5] at hff
            repeat' (first | (with_reducible refine And.intro ?_ ?_) | (with_reducible refine gK_i (fun _ => ?_) (fun _ => ?_)) | (with_reducible refine condS_i (fun _ => ?_) (fun _ => ?_)) | (with_reducible refine drw_i (by kernel_rfl)) | simp -dsimp only [go_sem, seval, *, encV, encN, encP, hkI, hwm, hs, hy, undef] | ((with_reducible refine opK_c ?_); simp -dsimp only [go_sem, seval, encV, encN, encP, hkI, hwm, hs, hy, undef]; first | refine callK_r (by first | assumption | exact hw | exact hir | exact hff) (by first | exact .inl rfl | exact .inr rfl) ?_ | (refine callK_i (by assumption) ?_ ?_ ?_; (solve | (repeat (first | exact DLe.refl _ | exact DLe.nil _ | (refine DLe.tup ?_) | (refine DLe.agg ?_ rfl) | exact trivial | (refine And.intro ?_ ?_)))); (solve | exact .inl rfl | exact .inr rfl))) | fail | omega | exact decide_eq_true (by omega) | exact DLe.refl _)
            all_goals exact DLe.refl _
          | true =>
            rw [b5] at hff
            have b6 : subB v s = true := by rw [hsb.out, b3, b4, b5]; rfl
            replace b6 := Lib.hid b6
            repeat' (first | (with_reducible refine And.intro ?_ ?_) | (with_reducible refine gK_i (fun _ => ?_) (fun _ => ?_)) | (with_reducible refine condS_i (fun _ => ?_) (fun _ => ?_)) | (with_reducible refine drw_i (by kernel_rfl)) | simp -dsimp only [go_sem, seval, *, encV, encN, encP, hkI, hwm, hs, hy, undef] | ((with_reducible refine opK_c ?_); simp -dsimp only [go_sem, seval, encV, encN, encP, hkI, hwm, hs, hy, undef]; first | refine callK_r (by first | assumption | exact hw | exact hir | exact hff) (by first | exact .inl rfl | exact .inr rfl) ?_ | (refine callK_i (by assumption) ?_ ?_ ?_; (solve | (repeat (first | exact DLe.refl _ | exact DLe.nil _ | (refine DLe.tup ?_) | (refine DLe.agg ?_ rfl) | exact trivial | (refine And.intro ?_ ?_)))); (solve | exact .inl rfl | exact .inr rfl))) | fail | omega | exact decide_eq_true (by omega) | exact DLe.refl _)
            all_goals first
              | (exact dle_n (hbr.out (by clear hw hC hC2 hir hff; grind)).symm)
              | skip
            all_goals
              have hst : 0 < k → y.id < s.id := by clear hw hC hC2 hir hff; grind
              replace hst := Lib.hid hst
              refine loopN tab_ok mixed k (fun j => ∀ (i : Nat) (x : Sbn), i < j → v.subs[i]? = some x → x.at_.meets s.at_ = false) (fun j => [(7, .d (.v (.int .i64 j))), (6, .ptr 1 0), (5, .d (.v (.int .i64 k))), (2, .d (.v (.int .i64 0))), (1, .ptr 0 0)]) (fun _ => [.box 56 ((encV v).map .d), .box 86 ((encN s).map .d)]) (fun i x h => absurd h (Nat.not_lt_zero _)) (weak_forget _ (by simp) (by (try simp only [encV, encN]); rfl) (by (repeat' (first | exact trivial | (refine ⟨rfl, ?_⟩)))) (by first | rfl | simp only [belowH, belowE, belowC, belowL, belowR, belowP, belowL_d, belowR_d, List.length_cons, List.length_nil, Nat.reduceAdd, Nat.reduceLT, decide_true, Bool.and_self, Bool.and_true]) (by first | rfl | simp only [belowH, belowE, belowC, belowL, belowR, belowP, belowL_d, belowR_d, List.length_cons, List.length_nil, Nat.reduceAdd, Nat.reduceLT, decide_true, Bool.and_self, Bool.and_true])) ?_ ?_
              · intro j hjk hJ C3 hC3
                have hjI : (j : Int) < (k : Int) := by omega
                have hwj : IntKind.i64.wrap ((j : Int) + 1) = ((j + 1 : Nat) : Int) := by rw [IntKind.wrap_i64]; omega
                obtain ⟨x, hx⟩ : ∃ x, v.subs[j]? = some x := ⟨_, List.getElem?_eq_getElem (by omega)⟩
                have hme := meet_p x.at_ s.at_
                rw [meetB_eq] at hme
                cases b7 : x.at_.meets s.at_ with
                | true =>
                  have h1 : R = 1 := hbm.out j x hjk hx b7
                  rw [h1]
                  replace h1 := Lib.hid h1
                  replace hJ := Lib.hid hJ
                  rw [b7] at hme
                  repeat' (first | (with_reducible refine And.intro ?_ ?_) | (with_reducible refine gK_i (fun _ => ?_) (fun _ => ?_)) | (with_reducible refine condS_i (fun _ => ?_) (fun _ => ?_)) | (with_reducible refine drw_i (by kernel_rfl)) | simp -dsimp only [go_sem, seval, *, encV, encN, encP, hjI, hx, undef] | ((with_reducible refine opK_c ?_); simp -dsimp only [go_sem, seval, encV, encN, encP, hjI, hx, undef]; first | refine callK_r (by first | assumption | exact hme) (by first | exact .inl rfl | exact .inr rfl) ?_ | (refine callK_i (by assumption) ?_ ?_ ?_; (solve | (repeat (first | exact DLe.refl _ | exact DLe.nil _ | (refine DLe.tup ?_) | (refine DLe.agg ?_ rfl) | exact trivial | (refine And.intro ?_ ?_)))); (solve | exact .inl rfl | exact .inr rfl))) | fail | omega | exact decide_eq_true (by omega) | exact DLe.refl _)
                  all_goals exact DLe.refl _
                | false =>
                  have hJ2 : ∀ (i : Nat) (x : Sbn), i < j + 1 → v.subs[i]? = some x → x.at_.meets s.at_ = false := by
                    intro i x' hi hx'
                    rcases Nat.lt_or_ge i j with h | h
                    · exact hJ i x' h hx'
                    · obtain rfl : i = j := by omega
                      rw [hx] at hx'
                      rw [← Option.some.inj hx']; exact b7
                  replace hJ2 := Lib.hid hJ2
                  replace hJ := Lib.hid hJ
                  rw [b7] at hme
                  repeat' (first | (with_reducible refine And.intro ?_ ?_) | (with_reducible refine gK_i (fun _ => ?_) (fun _ => ?_)) | (with_reducible refine condS_i (fun _ => ?_) (fun _ => ?_)) | (with_reducible refine drw_i (by kernel_rfl)) | simp -dsimp only [go_sem, seval, *, encV, encN, encP, hjI, hwj, hx, undef] | ((with_reducible refine opK_c ?_); simp -dsimp only [go_sem, seval, encV, encN, encP, hjI, hwj, hx, undef]; first | refine callK_r (by first | assumption | exact hme) (by first | exact .inl rfl | exact .inr rfl) ?_ | (refine callK_i (by assumption) ?_ ?_ ?_; (solve | (repeat (first | exact DLe.refl _ | exact DLe.nil _ | (refine DLe.tup ?_) | (refine DLe.agg ?_ rfl) | exact trivial | (refine And.intro ?_ ?_)))); (solve | exact .inl rfl | exact .inr rfl))) | fail | omega | exact decide_eq_true (by omega) | exact DLe.refl _)
                  exact hC3 _ _ hJ2.out (weak_forget _ (by simp) (by (try simp only [encV, encN]); rfl) (by (repeat' (first | exact trivial | (refine ⟨rfl, ?_⟩)))) (by first | rfl | simp only [belowH, belowE, belowC, belowL, belowR, belowP, belowL_d, belowR_d, List.length_cons, List.length_nil, Nat.reduceAdd, Nat.reduceLT, decide_true, Bool.and_self, Bool.and_true]) (by first | rfl | simp only [belowH, belowE, belowC, belowL, belowR, belowP, belowL_d, belowR_d, List.length_cons, List.length_nil, Nat.reduceAdd, Nat.reduceLT, decide_true, Bool.and_self, Bool.and_true]))
              · intro hJ C3
                replace hJ := Lib.hid hJ
                repeat' (first | (with_reducible refine And.intro ?_ ?_) | (with_reducible refine gK_i (fun _ => ?_) (fun _ => ?_)) | (with_reducible refine condS_i (fun _ => ?_) (fun _ => ?_)) | (with_reducible refine drw_i (by kernel_rfl)) | simp -dsimp only [go_sem, seval, *, encV, encN, hwr, Int.lt_irrefl, undef] | ((with_reducible refine opK_c ?_); simp -dsimp only [go_sem, seval, encV, encN, hwr, Int.lt_irrefl, undef]; first | refine callK_r (by first | assumption | fail) (by first | exact .inl rfl | exact .inr rfl) ?_ | (refine callK_i (by assumption) ?_ ?_ ?_; (solve | (repeat (first | exact DLe.refl _ | exact DLe.nil _ | (refine DLe.tup ?_) | (refine DLe.agg ?_ rfl) | exact trivial | (refine And.intro ?_ ?_)))); (solve | exact .inl rfl | exact .inr rfl))) | fail | omega | exact decide_eq_true (by omega) | exact DLe.refl _)
                refine hC2 _ _ _ _ _ ?_ ⟨k + 1, hls, no_snoc hs hal2.out b6.out, ris_step (key := fun s : Sbn => s.id) hs hris.out (fun x h0 hx => by rw [hy] at hx; rw [← Option.some.inj hx]; exact hst.out h0), fun i j x z h1 h2 hx hz => ?_, rfl, rfl, rfl⟩ (weak_forget _ (by simp) (by (try simp only [encV]); rfl) (by (repeat' (first | exact trivial | (refine ⟨rfl, ?_⟩)))) (by first | rfl | simp only [belowH, belowE, belowC, belowL, belowR, belowP, belowL_d, belowR_d, List.length_cons, List.length_nil, Nat.reduceAdd, Nat.reduceLT, decide_true, Bool.and_self, Bool.and_true]) (by first | rfl | simp only [belowH, belowE, belowC, belowL, belowR, belowP, belowL_d, belowR_d, List.length_cons, List.length_nil, Nat.reduceAdd, Nat.reduceLT, decide_true, Bool.and_self, Bool.and_true]))
                · have := hm2.out; omega
                · rcases Nat.lt_or_ge j k with h | h
                  · exact hmt.out i j x z h1 h hx hz
                  · obtain rfl : j = k := by omega
                    rw [hs] at hz
                    rw [← Option.some.inj hz]
                    exact hJ.out i x h1 hx
    · obtain rfl : k = v.subs.length := by omega
      have h1 : R = 0 := by
        have hal2 := hal2.out
        rw [List.take_length] at hal2
        rw [hR.out]
        refine hzero.out b1 hall.out hadj2.out hal2 (fun j hj => hris.out j hj (by omega)) (fun i j x y hij hx hy => hmt.out i j x y hij ?_ hx hy)
        exact (List.getElem?_eq_some_iff.1 hy).1
      rw [h1]
      replace h1 := Lib.hid h1
      repeat' (first | (with_reducible refine And.intro ?_ ?_) | (with_reducible refine gK_i (fun _ => ?_) (fun _ => ?_)) | (with_reducible refine condS_i (fun _ => ?_) (fun _ => ?_)) | (with_reducible refine drw_i (by kernel_rfl)) | simp -dsimp only [go_sem, seval, *, encV, Int.lt_irrefl, undef] | ((with_reducible refine opK_c ?_); simp -dsimp only [go_sem, seval, encV, Int.lt_irrefl, undef]; first | refine callK_r (by first | assumption | fail) (by first | exact .inl rfl | exact .inr rfl) ?_ | (refine callK_i (by assumption) ?_ ?_ ?_; (solve | (repeat (first | exact DLe.refl _ | exact DLe.nil _ | (refine DLe.tup ?_) | (refine DLe.agg ?_ rfl) | exact trivial | (refine And.intro ?_ ?_)))); (solve | exact .inl rfl | exact .inr rfl))) | fail | omega | exact decide_eq_true (by omega) | exact DLe.refl _)
      all_goals exact DLe.refl _
end Go.Proofs.YtgmbhaclogabeaaGreat
namespace Go.Proofs.YtgmbhaclogabeaaGreat
open Go Go.RowKit
set_option maxRecDepth 100000 in
set_option maxHeartbeats 2000000 in
theorem ownD_m (v : Vpc) (h4 : v.ranges.length ≤ 4) (h6 : v.subs.length ≤ 6) (h8 : ∀ s ∈ v.subs, s.faces.length ≤ 8 ∧ ∀ f ∈ s.faces, f.addrs.length ≤ 4) :
    MSpec Tryz.prog 67 [.d (.agg (encV v))] [] (.agg [.d (.v (.int .i64 v.id)), .own 2 1, .own 4 v.subs.length]) [.gone, .gone, .row 29 3 1 (dRows (v.ranges.map encG)), .gone, .row 86 4 v.subs.length (dRows (v.subs.map encN))] := by
  replace h8 := Lib.hid h8
  refine ms_i tab_ok mixed Tryz.func67 rfl Tryz.ntmps67 Tryz.results67 (by kernel_rfl) (by simp) (by simp [belowL, belowP]) (by simp [belowH, belowC, belowL, belowP, belowL_d, belowR_d]) ?_
  repeat' (first | (with_reducible refine And.intro ?_ ?_) | (with_reducible refine gK_i (fun _ => ?_) (fun _ => ?_)) | (with_reducible refine condS_i (fun _ => ?_) (fun _ => ?_)) | (with_reducible refine drw_i (by kernel_rfl)) | simp -dsimp only [go_sem, seval, *, encV] | ((with_reducible refine opK_c ?_); simp -dsimp only [go_sem, seval, encV]; first | refine callK_r (by first | assumption | fail) (by first | exact .inl rfl | exact .inr rfl) ?_ | (refine callK_i (by assumption) ?_ ?_ ?_; (solve | (repeat (first | exact DLe.refl _ | exact DLe.nil _ | (refine DLe.tup ?_) | (refine DLe.agg ?_ rfl) | exact trivial | (refine And.intro ?_ ?_)))); (solve | exact .inl rfl | exact .inr rfl))) | fail | omega | exact decide_eq_true (by omega) | exact DLe.refl _)
  refine loopL tab_ok mixed v.subs (fun _ => True) (fun k => [(4, .d (.v (.int .i64 k))), (3, .ptr 3 0), (2, .ptr 1 0), (1, .ptr 0 0)]) (fun k => [.box 56 ((encV v).map .d), .box 56 [.d (.v (.int .i64 0)), .d (.v (.slice none 0 0)), .d (.v (.slice none 0 0))], .row 29 3 1 (dRows (v.ranges.map encG)), .box 56 [.d (.v (.int .i64 v.id)), .own 2 1, .own 4 k], .row 86 4 k (dRows ((v.subs.take k).map encN))]) trivial ?_ ?_ ?_
  · refine (weak_adopt_box (by simp) 3 56 [.d (.v (.int .i64 v.id)), .own 2 1, .d (.v (.slice none 0 0))] 2 86 4 rfl rfl rfl).trans ?_
    exact weak_forget _ (by simp) (by rfl) (by (repeat' (first | exact trivial | (refine ⟨rfl, ?_⟩)))) (by first | rfl | simp only [belowH, belowE, belowC, belowL, belowR, belowP, belowL_d, belowR_d, belowR_zipG, subRow, faceRow, List.length_cons, List.length_nil, Nat.reduceAdd, Nat.reduceLT, decide_true, Bool.and_self, Bool.and_true]) (by first | rfl | simp only [belowH, belowE, belowC, belowL, belowR, belowP, belowL_d, belowR_d, belowR_zipG, subRow, faceRow, List.length_cons, List.length_nil, Nat.reduceAdd, Nat.reduceLT, decide_true, Bool.and_self, Bool.and_true])
  · intro k s hs hk _ CO hCO
    have hkI : (k : Int) < (v.subs.length : Int) := by omega
    have hwr : IntKind.i64.wrap ((k : Int) + 1) = ((k + 1 : Nat) : Int) := by rw [IntKind.wrap_i64]; omega
    have h8s := h8.out s (List.mem_of_getElem? hs)
    have hb1 : k + 1 ≤ 100 := by omega
    have hlk : (List.take k v.subs).length = k := by rw [List.length_take]; omega
    replace hs := Lib.hid hs
    have hs1 := hs.out
    repeat' (first | (with_reducible refine And.intro ?_ ?_) | (with_reducible refine gK_i (fun _ => ?_) (fun _ => ?_)) | (with_reducible refine condS_i (fun _ => ?_) (fun _ => ?_)) | (with_reducible refine drw_i (by kernel_rfl)) | simp -dsimp only [go_sem, seval, *, encV, encN, hkI, hs1] | ((with_reducible refine opK_c ?_); simp -dsimp only [go_sem, seval, encV, encN, hkI, hs1]; first | refine callK_r (by first | assumption | fail) (by first | exact .inl rfl | exact .inr rfl) ?_ | (refine callK_i (by assumption) ?_ ?_ ?_; (solve | (repeat (first | exact DLe.refl _ | exact DLe.nil _ | (refine DLe.tup ?_) | (refine DLe.agg ?_ rfl) | exact trivial | (refine And.intro ?_ ?_)))); (solve | exact .inl rfl | exact .inr rfl))) | fail | omega | exact decide_eq_true (by omega) | exact DLe.refl _)
    refine loopL tab_ok mixed s.faces (fun _ => True) (fun j => [(6, .d (.v (.int .i64 j))), (5, .ptr 5 0), (4, .d (.v (.int .i64 k))), (3, .ptr 3 0), (2, .ptr 1 0), (1, .ptr 0 0)])
      (fun j => [.box 56 ((encV v).map .d), .box 56 [.d (.v (.int .i64 0)), .d (.v (.slice none 0 0)), .d (.v (.slice none 0 0))], .row 29 3 1 (dRows (v.ranges.map encG)), .box 56 [.d (.v (.int .i64 v.id)), .own 2 1, .own 4 k], .row 86 4 k (dRows ((v.subs.take k).map encN)), .box 86 [.d (.v (.int .i64 s.id)), .d (.v (.int .i64 s.at_.at_)), .d (.v (.int .i64 s.at_.len)), .own 6 j], .row 88 2 j (dRows ((s.faces.take j).map encF))]) trivial ?_ ?_ ?_
    · refine (weak_adopt_box (by simp) 5 86 [.d (.v (.int .i64 s.id)), .d (.v (.int .i64 s.at_.at_)), .d (.v (.int .i64 s.at_.len)), .d (.v (.slice none 0 0))] 3 88 2 rfl rfl rfl).trans ?_
      exact weak_forget _ (by simp) (by rfl) (by (repeat' (first | exact trivial | (refine ⟨rfl, ?_⟩)))) (by first | rfl | simp only [belowH, belowE, belowC, belowL, belowR, belowP, belowL_d, belowR_d, belowR_zipG, subRow, faceRow, List.length_cons, List.length_nil, Nat.reduceAdd, Nat.reduceLT, decide_true, Bool.and_self, Bool.and_true]) (by first | rfl | simp only [belowH, belowE, belowC, belowL, belowR, belowP, belowL_d, belowR_d, belowR_zipG, subRow, faceRow, List.length_cons, List.length_nil, Nat.reduceAdd, Nat.reduceLT, decide_true, Bool.and_self, Bool.and_true])
    · intro j f hf hj _ C hC
      have hjI : (j : Int) < (s.faces.length : Int) := by omega
      have hwj : IntKind.i64.wrap ((j : Int) + 1) = ((j + 1 : Nat) : Int) := by rw [IntKind.wrap_i64]; omega
      have hfl := h8s.2 f (List.mem_of_getElem? hf)
      have hb2 : j + 1 ≤ 100 := by omega
      have hlj : (List.take j s.faces).length = j := by rw [List.length_take]; omega
      replace hf := Lib.hid hf
      have hf1 := hf.out
      repeat' (first | (with_reducible refine And.intro ?_ ?_) | (with_reducible refine gK_i (fun _ => ?_) (fun _ => ?_)) | (with_reducible refine condS_i (fun _ => ?_) (fun _ => ?_)) | (with_reducible refine drw_i (by kernel_rfl)) | simp -dsimp only [go_sem, seval, *, encV, encN, encF, hkI, hs1, hjI, hwj, hf1, hb2, hlj, renR_zipG, zipG_len] | ((with_reducible refine opK_c ?_); simp -dsimp only [go_sem, seval, encV, encN, encF, hkI, hs1, hjI, hwj, hf1, hb2, hlj, renR_zipG, zipG_len]; first | refine callK_r (by first | assumption | fail) (by first | exact .inl rfl | exact .inr rfl) ?_ | (refine callK_i (by assumption) ?_ ?_ ?_; (solve | (repeat (first | exact DLe.refl _ | exact DLe.nil _ | (refine DLe.tup ?_) | (refine DLe.agg ?_ rfl) | exact trivial | (refine And.intro ?_ ?_)))); (solve | exact .inl rfl | exact .inr rfl))) | fail | omega | exact decide_eq_true (by omega) | exact DLe.refl _)
      refine hC _ _ trivial ((weak_freeze 8 1 3 1 (f.addrs.map encA) rfl).trans ?_)
      simp only [fzE, fz, fzL, fzH, fzC, fzR, fzR_app, fzR_d, fzL_d, List.map_cons, List.map_nil, Nat.reduceAdd, Nat.reduceEqDiff, reduceIte, and_true, true_and, and_self, and_false, false_and, Nat.zero_add, Nat.add_zero, reduceCtorEq, fzR_zipG]
      exact weak_forget _ (by simp) (by rw [take_snoc hf.out, List.map_append, List.map_cons, List.map_nil, ← dRows_app]; rfl) (by (repeat' (first | exact trivial | (refine ⟨rfl, ?_⟩)))) (by first | rfl | simp only [belowH, belowE, belowC, belowL, belowR, belowP, belowL_d, belowR_d, belowR_zipG, subRow, faceRow, List.length_cons, List.length_nil, Nat.reduceAdd, Nat.reduceLT, decide_true, Bool.and_self, Bool.and_true]) (by first | rfl | simp only [belowH, belowE, belowC, belowL, belowR, belowP, belowL_d, belowR_d, belowR_zipG, subRow, faceRow, List.length_cons, List.length_nil, Nat.reduceAdd, Nat.reduceLT, decide_true, Bool.and_self, Bool.and_true])
    · intro _ C
      repeat' (first | (with_reducible refine And.intro ?_ ?_) | (with_reducible refine gK_i (fun _ => ?_) (fun _ => ?_)) | (with_reducible refine condS_i (fun _ => ?_) (fun _ => ?_)) | (with_reducible refine drw_i (by kernel_rfl)) | simp -dsimp only [go_sem, seval, *, encV, encN, hkI, hs1, hwr, hb1, hlk, Int.lt_irrefl, List.take_length] | ((with_reducible refine opK_c ?_); simp -dsimp only [go_sem, seval, encV, encN, hkI, hs1, hwr, hb1, hlk, Int.lt_irrefl, List.take_length]; first | refine callK_r (by first | assumption | fail) (by first | exact .inl rfl | exact .inr rfl) ?_ | (refine callK_i (by assumption) ?_ ?_ ?_; (solve | (repeat (first | exact DLe.refl _ | exact DLe.nil _ | (refine DLe.tup ?_) | (refine DLe.agg ?_ rfl) | exact trivial | (refine And.intro ?_ ?_)))); (solve | exact .inl rfl | exact .inr rfl))) | fail | omega | exact decide_eq_true (by omega) | exact DLe.refl _)
      refine hCO _ _ trivial ((weak_freeze 6 s.faces.length 88 2 (s.faces.map encF) rfl).trans ?_)
      simp only [fzE, fz, fzL, fzH, fzC, fzR, fzR_app, fzR_d, fzL_d, List.map_cons, List.map_nil, Nat.reduceAdd, Nat.reduceEqDiff, reduceIte, and_true, true_and, and_self, and_false, false_and, Nat.zero_add, Nat.add_zero, reduceCtorEq]
      exact weak_forget _ (by simp) (by rw [take_snoc hs.out, List.map_append, List.map_cons, List.map_nil, ← dRows_app]; rfl) (by (repeat' (first | exact trivial | (refine ⟨rfl, ?_⟩)))) (by first | rfl | simp only [belowH, belowE, belowC, belowL, belowR, belowP, belowL_d, belowR_d, belowR_zipG, subRow, faceRow, List.length_cons, List.length_nil, Nat.reduceAdd, Nat.reduceLT, decide_true, Bool.and_self, Bool.and_true]) (by first | rfl | simp only [belowH, belowE, belowC, belowL, belowR, belowP, belowL_d, belowR_d, belowR_zipG, subRow, faceRow, List.length_cons, List.length_nil, Nat.reduceAdd, Nat.reduceLT, decide_true, Bool.and_self, Bool.and_true])
  · intro _ C
    repeat' (first | (with_reducible refine And.intro ?_ ?_) | (with_reducible refine gK_i (fun _ => ?_) (fun _ => ?_)) | (with_reducible refine condS_i (fun _ => ?_) (fun _ => ?_)) | (with_reducible refine drw_i (by kernel_rfl)) | simp -dsimp only [go_sem, seval, *, encV, Int.lt_irrefl] | ((with_reducible refine opK_c ?_); simp -dsimp only [go_sem, seval, encV, Int.lt_irrefl]; first | refine callK_r (by first | assumption | fail) (by first | exact .inl rfl | exact .inr rfl) ?_ | (refine callK_i (by assumption) ?_ ?_ ?_; (solve | (repeat (first | exact DLe.refl _ | exact DLe.nil _ | (refine DLe.tup ?_) | (refine DLe.agg ?_ rfl) | exact trivial | (refine And.intro ?_ ?_)))); (solve | exact .inl rfl | exact .inr rfl))) | fail | omega | exact decide_eq_true (by omega) | exact DLe.refl _)
    rw [List.take_length]
    refine (weak_gone 0 (by simp)).trans ?_
    refine (weak_gone 1 (by simp [setC])).trans ?_
    exact (weak_gone 3 (by simp [setC])).trans (weak_eq rfl rfl)
end Go.Proofs.YtgmbhaclogabeaaGreat
namespace Go.Proofs.YtgmbhaclogabeaaGreat
open Go Go.RowKit
theorem lbN_lt {α : Type} {key : α → Int} {t : Int} {l : List α} {k : Nat} {q : α} (hk : k < lbN key t l) (hq : l[k]? = some q) : key q < t := by
  obtain ⟨hl, rfl⟩ := List.getElem?_eq_some_iff.1 hq
  have := List.not_of_lt_findIdx hk
  simp at this; omega
theorem lbN_ge {α : Type} {key : α → Int} {t : Int} {l : List α} {q : α} (hq : l[lbN key t l]? = some q) : t ≤ key q := by
  obtain ⟨hl, rfl⟩ := List.getElem?_eq_some_iff.1 hq
  have := List.findIdx_getElem (xs := l) (p := fun x => decide (t ≤ key x)) (w := hl)
  exact of_decide_eq_true this
/-- One more is put in: so far. -/
def InsI {α : Type} (key : α → Int) (x : α) (l : List α) (k : Nat) (out : List α) (f : Bool) : Prop :=
  out.length ≤ k + 1 ∧ ((f = false ∧ k ≤ lbN key (key x) l ∧ out = l.take k) ∨ (f = true ∧ lbN key (key x) l < k ∧ out ++ l.drop k = insK key x l))
section
variable {α : Type} {key : α → Int} {x y : α} {l : List α} {k : Nat} {out : List α}
theorem insI_0 : InsI key x l 0 [] false := ⟨Nat.zero_le _, .inl ⟨rfl, Nat.zero_le _, rfl⟩⟩
theorem insI_t (h : InsI key x l k out true) (hy : l[k]? = some y) : InsI key x l (k + 1) (out ++ [y]) true := by
  obtain ⟨h1, h2 | h2⟩ := h
  · cases h2.1
  · refine ⟨by simp; omega, .inr ⟨rfl, by omega, ?_⟩⟩
    rw [← h2.2.2, drop_get hy]; simp
theorem insI_h (h : InsI key x l k out false) (hy : l[k]? = some y) (hg : key y > key x) : InsI key x l (k + 1) (out ++ [x] ++ [y]) true := by
  obtain ⟨h1, h2 | h2⟩ := h
  · have hk : k = lbN key (key x) l := by
      rcases Nat.lt_or_ge k (lbN key (key x) l) with h | h
      · have := lbN_lt h hy; omega
      · omega
    have hl : out.length ≤ k := by rw [h2.2.2, List.length_take]; omega
    refine ⟨by simp; omega, .inr ⟨rfl, by omega, ?_⟩⟩
    unfold insK
    rw [← hk, h2.2.2, drop_get hy]; simp
  · cases h2.1
theorem insI_l (h : InsI key x l k out false) (hy : l[k]? = some y) (hg : key y < key x) : InsI key x l (k + 1) (out ++ [y]) false := by
  obtain ⟨h1, h2 | h2⟩ := h
  · have hk : k < lbN key (key x) l := by
      rcases Nat.lt_or_ge k (lbN key (key x) l) with h | h
      · exact h
      · obtain rfl : k = lbN key (key x) l := by omega
        have := lbN_ge hy; omega
    have hl : out.length ≤ k := by rw [h2.2.2, List.length_take]; omega
    exact ⟨by simp; omega, .inl ⟨rfl, hk, by rw [h2.2.2, take_snoc hy]⟩⟩
  · cases h2.1
theorem insI_et (h : InsI key x l l.length out true) : out = insK key x l := by
  obtain ⟨h1, h2 | h2⟩ := h
  · cases h2.1
  · rw [← h2.2.2, List.drop_length, List.append_nil]
theorem insI_ef (h : InsI key x l l.length out false) : out ++ [x] = insK key x l := by
  obtain ⟨h1, h2 | h2⟩ := h
  · have := lbN_le key (key x) l
    unfold insK
    rw [show lbN key (key x) l = l.length by omega, h2.2.2]; simp
  · cases h2.1
end
set_option maxRecDepth 100000 in
set_option maxHeartbeats 2000000 in
theorem growVpc_p (v : Vpc) (r : Rng) (hl : v.subs.length ≤ 9223372036854775807) (hf : ∀ s ∈ v.subs, s.faces.length ≤ 9223372036854775807) : PSpec Tryz.prog 36 [.agg (encV v), .agg (encG r)] (.tup [.agg (encV (growV v r).1), .v (.int .i64 (growV v r).2)]) := by
  obtain ⟨R, hR⟩ : ∃ R, R = growV v r := ⟨_, rfl⟩
  rw [← hR]
  replace hR := Lib.hid hR
  have hck := checkVpc_p v hl hf
  clear hl hf
  by_cases hc : chkV v = 0
  · have hk := vpcOK_of hc
    have hn4 := hk.n4
    have hob := ownD_m v hk.n4 hk.n6 hk.n8
    have hw : PSpec Tryz.prog 34 [.v (.int .i64 r.pool), .v (.int .i64 1), .v (.int .i64 65536)] (.v (.bool (idOK r.pool))) := withinR_p _ _ _
    have hrt : PSpec Tryz.prog 63 [.agg (encP r.at_)] (.v (.bool (chk r.at_.at_ r.at_.len == 0))) := rightR_p r.at_
    have hR2 : R = if growE v r ≠ 0 then (Vpc.zero, growE v r) else ({ v with ranges := insK (·.at_.at_) r v.ranges }, 0) := by rw [hR.out]; unfold growV; rw [if_neg (by simpa using hc)]
    unfold growE at hR2
    replace hR2 := Lib.hid hR2
    rw [hc] at hck
    clear hR hc
    cases b1 : (chk r.at_.at_ r.at_.len == 0) with
    | false =>
      have hr : R = (Vpc.zero, 1) := by rw [hR2.out]; simp at b1; simp [b1]
      rw [b1] at hrt
      rw [hr]
      replace hr := Lib.hid hr
      clear hk
      refine ps_i tab_ok mixed Tryz.func36 rfl Tryz.ntmps36 Tryz.results36 (by kernel_rfl) ?_
      repeat' (first | (with_reducible refine And.intro ?_ ?_) | (with_reducible refine gK_i (fun _ => ?_) (fun _ => ?_)) | (with_reducible refine condS_i (fun _ => ?_) (fun _ => ?_)) | (with_reducible refine drw_i (by kernel_rfl)) | simp -dsimp only [go_sem, seval, *, encV, encG, encP, undef] | ((with_reducible refine opK_c ?_); simp -dsimp only [go_sem, seval, encV, encG, encP, undef]; first | refine callK_r (by first | assumption | exact hck | exact hrt) (by first | exact .inl rfl | exact .inr rfl) ?_ | (refine callK_i (by assumption) ?_ ?_ ?_; (solve | (repeat (first | exact DLe.refl _ | exact DLe.nil _ | (refine DLe.tup ?_) | (refine DLe.agg ?_ rfl) | exact trivial | (refine And.intro ?_ ?_)))); (solve | exact .inl rfl | exact .inr rfl))) | fail | omega | exact decide_eq_true (by omega) | exact DLe.refl _)
      all_goals exact (by repeat (first | exact DLe.refl _ | exact DLe.nil _ | (refine DLe.tup ?_) | (refine DLe.agg ?_ rfl) | exact trivial | (refine And.intro ?_ ?_)))
    | true =>
    have c1 : chk r.at_.at_ r.at_.len = 0 := by simpa using b1
    rw [b1] at hrt
    cases b2 : idOK r.pool with
    | false =>
      have hr : R = (Vpc.zero, 1) := by rw [hR2.out]; simp [b2]
      rw [b2] at hw
      rw [hr]
      replace hr := Lib.hid hr
      clear hk
      refine ps_i tab_ok mixed Tryz.func36 rfl Tryz.ntmps36 Tryz.results36 (by kernel_rfl) ?_
      repeat' (first | (with_reducible refine And.intro ?_ ?_) | (with_reducible refine gK_i (fun _ => ?_) (fun _ => ?_)) | (with_reducible refine condS_i (fun _ => ?_) (fun _ => ?_)) | (with_reducible refine drw_i (by kernel_rfl)) | simp -dsimp only [go_sem, seval, *, encV, encG, encP, undef] | ((with_reducible refine opK_c ?_); simp -dsimp only [go_sem, seval, encV, encG, encP, undef]; first | refine callK_r (by first | assumption | exact hck | exact hrt | exact hw) (by first | exact .inl rfl | exact .inr rfl) ?_ | (refine callK_i (by assumption) ?_ ?_ ?_; (solve | (repeat (first | exact DLe.refl _ | exact DLe.nil _ | (refine DLe.tup ?_) | (refine DLe.agg ?_ rfl) | exact trivial | (refine And.intro ?_ ?_)))); (solve | exact .inl rfl | exact .inr rfl))) | fail | omega | exact decide_eq_true (by omega) | exact DLe.refl _)
      all_goals exact (by repeat (first | exact DLe.refl _ | exact DLe.nil _ | (refine DLe.tup ?_) | (refine DLe.agg ?_ rfl) | exact trivial | (refine And.intro ?_ ?_)))
    | true =>
    rw [b2] at hw
    have hR3 : R = if (v.ranges.any fun q => q.at_.meets r.at_) = true then (Vpc.zero, 6) else if v.ranges.length = 4 then (Vpc.zero, 2) else ({ v with ranges := insK (·.at_.at_) r v.ranges }, 0) := by
      rw [hR2.out, c1, b2]
      cases (v.ranges.any fun q => q.at_.meets r.at_)
      · by_cases h : v.ranges.length = 4 <;> simp [h]
      · simp
    have hrr : r.at_.right = true := by simp [Pfx.right, rightB, c1]
    replace hR3 := Lib.hid hR3
    replace hrr := Lib.hid hrr
    have hkr := Lib.hid hk.ranges
    clear hR2 hk c1
    refine ps_i tab_ok mixed Tryz.func36 rfl Tryz.ntmps36 Tryz.results36 (by kernel_rfl) ?_
    repeat' (first | (with_reducible refine And.intro ?_ ?_) | (with_reducible refine gK_i (fun _ => ?_) (fun _ => ?_)) | (with_reducible refine condS_i (fun _ => ?_) (fun _ => ?_)) | (with_reducible refine drw_i (by kernel_rfl)) | simp -dsimp only [go_sem, seval, *, encV, encG, encP, undef] | ((with_reducible refine opK_c ?_); simp -dsimp only [go_sem, seval, encV, encG, encP, undef]; first | refine callK_r (by first | assumption | exact hck | exact hrt | exact hw) (by first | exact .inl rfl | exact .inr rfl) ?_ | (refine callK_i (by assumption) ?_ ?_ ?_; (solve | (repeat (first | exact DLe.refl _ | exact DLe.nil _ | (refine DLe.tup ?_) | (refine DLe.agg ?_ rfl) | exact trivial | (refine And.intro ?_ ?_)))); (solve | exact .inl rfl | exact .inr rfl))) | (refine opK_M [] (hob) ?_ ?_ ?_ ?_ ?_ ?_; (solve | rfl | simp only [go_sem, seval, encV]); (solve | rfl); (solve | decide); (solve | simp); (solve | simp only [go_sem, seval, lentOK, encV])) | omega | exact decide_eq_true (by omega) | exact DLe.refl _)
    clear hob hck hrt hw
    refine loopG tab_ok mixed (fun m e h => ∃ (k g : Nat) (out : List Rng) (f : Bool), k ≤ v.ranges.length ∧ InsI (fun r : Rng => r.at_.at_) r v.ranges k out f ∧ (v.ranges.take k).all (fun q => !(q.at_.meets r.at_)) = true ∧ m = v.ranges.length - k ∧
      e = [(9, .d (.v (.int .i64 k))), (8, .d (.v (.bool f))), (7, .ptr 8 0), (5, .d (.v (.int .i64 0))), (4, .ptr 2 0), (3, .ptr 1 0), (2, .ptr 0 0)] ∧ h = [.box 56 ((encV v).map .d), .box 29 ((encG r).map .d), .box 56 [.d (.v (.int .i64 0)), .d (.v (.slice none 0 0)), .d (.v (.slice none 0 0))], .gone, .gone, .row 29 3 1 (dRows (v.ranges.map encG)), .gone, .row 86 4 v.subs.length (dRows (v.subs.map encN)), .box 56 [.d (.v (.int .i64 v.id)), .own 9 g, .own 7 v.subs.length], .row 29 3 g (dRows (out.map encG))]) _ _ _ ⟨0, 0, [], false, Nat.zero_le _, insI_0, rfl, rfl, rfl, rfl⟩ ?_ ?_
    · refine (weak_adopt_box (by simp) 8 56 [.d (.v (.int .i64 v.id)), .d (.v (.slice none 0 0)), .own 7 v.subs.length] 1 29 3 rfl rfl rfl).trans ?_
      exact weak_forget _ (by simp) (by (try simp only [encV, encG]); rfl) (by (repeat' (first | exact trivial | (refine ⟨rfl, ?_⟩)))) (by first | rfl | simp only [belowH, belowE, belowC, belowL, belowR, belowP, belowL_d, belowR_d, List.length_cons, List.length_nil, Nat.reduceAdd, Nat.reduceLT, decide_true, Bool.and_self, Bool.and_true]) (by first | rfl | simp only [belowH, belowE, belowC, belowL, belowR, belowP, belowL_d, belowR_d, List.length_cons, List.length_nil, Nat.reduceAdd, Nat.reduceLT, decide_true, Bool.and_self, Bool.and_true])
    · rintro m e h ⟨k, g, out, f, hk, hins, hall, hm, rfl, rfl⟩ C hC
      replace hm := Lib.hid hm
      replace hall := Lib.hid hall
      have hol := hins.1
      replace hins := Lib.hid hins
      have hb0 : out.length ≤ 5 := by omega
      have hb1 : (out.length + 1) * 24 ≤ 140737488355328 := by clear hol hk hn4; omega
      have hb2 : (out.length + 1 + 1) * 24 ≤ 140737488355328 := by clear hol hk hn4 hb1; omega
      by_cases hlt : k < v.ranges.length
      · have hkI : (k : Int) < (v.ranges.length : Int) := by omega
        have hwr : IntKind.i64.wrap ((k : Int) + 1) = ((k + 1 : Nat) : Int) := by rw [IntKind.wrap_i64]; omega
        obtain ⟨y, hy⟩ : ∃ y, v.ranges[k]? = some y := ⟨_, List.getElem?_eq_getElem hlt⟩
        have hym := List.mem_of_getElem? hy
        have hme := meet_p y.at_ r.at_
        rw [meetB_eq] at hme
        cases b3 : y.at_.meets r.at_ with
        | true =>
          have hr : R = (Vpc.zero, 6) := by rw [hR3.out, if_pos (List.any_eq_true.2 ⟨y, hym, b3⟩)]
          rw [b3] at hme
          rw [hr]
          replace hr := Lib.hid hr
          repeat' (first | (with_reducible refine And.intro ?_ ?_) | (with_reducible refine gK_i (fun _ => ?_) (fun _ => ?_)) | (with_reducible refine condS_i (fun _ => ?_) (fun _ => ?_)) | (with_reducible refine drw_i (by kernel_rfl)) | simp -dsimp only [go_sem, seval, *, encV, encG, encP, hkI, hy, undef] | ((with_reducible refine opK_c ?_); simp -dsimp only [go_sem, seval, encV, encG, encP, hkI, hy, undef]; first | refine callK_r (by first | assumption | exact hme) (by first | exact .inl rfl | exact .inr rfl) ?_ | (refine callK_i (by assumption) ?_ ?_ ?_; (solve | (repeat (first | exact DLe.refl _ | exact DLe.nil _ | (refine DLe.tup ?_) | (refine DLe.agg ?_ rfl) | exact trivial | (refine And.intro ?_ ?_)))); (solve | exact .inl rfl | exact .inr rfl))) | fail | omega | exact decide_eq_true (by omega) | exact DLe.refl _)
          all_goals exact (by repeat (first | exact DLe.refl _ | exact DLe.nil _ | (refine DLe.tup ?_) | (refine DLe.agg ?_ rfl) | exact trivial | (refine And.intro ?_ ?_)))
        | false =>
          rw [b3] at hme
          have hne : y.at_.at_ ≠ r.at_.at_ := meets_at (rangeB_right (hkr.out y hym)) hrr.out b3
          have hal2 := no_snoc (p := fun q : Rng => !(q.at_.meets r.at_)) hy hall.out (by rw [b3]; rfl)
          replace hal2 := Lib.hid hal2
          replace hne := Lib.hid hne
          replace hym := Lib.hid hym
          cases f with
          | true =>
            have hi2 := Lib.hid (insI_t hins.out hy)
            repeat' (first | (with_reducible refine And.intro ?_ ?_) | (with_reducible refine gK_i (fun _ => ?_) (fun _ => ?_)) | (with_reducible refine condS_i (fun _ => ?_) (fun _ => ?_)) | (with_reducible refine drw_i (by kernel_rfl)) | simp -dsimp only [go_sem, seval, *, encV, encG, encP, hkI, hwr, hy, hb1, undef] | ((with_reducible refine opK_c ?_); simp -dsimp only [go_sem, seval, encV, encG, encP, hkI, hwr, hy, hb1, undef]; first | refine callK_r (by first | assumption | exact hme) (by first | exact .inl rfl | exact .inr rfl) ?_ | (refine callK_i (by assumption) ?_ ?_ ?_; (solve | (repeat (first | exact DLe.refl _ | exact DLe.nil _ | (refine DLe.tup ?_) | (refine DLe.agg ?_ rfl) | exact trivial | (refine And.intro ?_ ?_)))); (solve | exact .inl rfl | exact .inr rfl))) | fail | omega | exact decide_eq_true (by omega) | exact DLe.refl _)
            refine hC _ _ _ _ _ ?_ ⟨k + 1, g + 1, out ++ [y], true, hlt, hi2.out, hal2.out, rfl, rfl, rfl⟩ (weak_forget _ (by simp) (by simp only [encV, encG, List.map_append, List.map_cons, List.map_nil, ← dRows_app]; rfl) (by (repeat' (first | exact trivial | (refine ⟨rfl, ?_⟩)))) (by first | rfl | simp only [belowH, belowE, belowC, belowL, belowR, belowP, belowL_d, belowR_d, List.length_cons, List.length_nil, Nat.reduceAdd, Nat.reduceLT, decide_true, Bool.and_self, Bool.and_true]) (by first | rfl | simp only [belowH, belowE, belowC, belowL, belowR, belowP, belowL_d, belowR_d, List.length_cons, List.length_nil, Nat.reduceAdd, Nat.reduceLT, decide_true, Bool.and_self, Bool.and_true]))
            have := hm.out; omega
          | false =>
            cases b4 : decide (y.at_.at_ > r.at_.at_) with
            | true =>
              have hi2 := Lib.hid (insI_h hins.out hy (of_decide_eq_true b4))
              repeat' (first | (with_reducible refine And.intro ?_ ?_) | (with_reducible refine gK_i (fun _ => ?_) (fun _ => ?_)) | (with_reducible refine condS_i (fun _ => ?_) (fun _ => ?_)) | (with_reducible refine drw_i (by kernel_rfl)) | simp -dsimp only [go_sem, seval, *, encV, encG, encP, hkI, hwr, hy, hb1, hb2, b4, undef] | ((with_reducible refine opK_c ?_); simp -dsimp only [go_sem, seval, encV, encG, encP, hkI, hwr, hy, hb1, hb2, b4, undef]; first | refine callK_r (by first | assumption | exact hme) (by first | exact .inl rfl | exact .inr rfl) ?_ | (refine callK_i (by assumption) ?_ ?_ ?_; (solve | (repeat (first | exact DLe.refl _ | exact DLe.nil _ | (refine DLe.tup ?_) | (refine DLe.agg ?_ rfl) | exact trivial | (refine And.intro ?_ ?_)))); (solve | exact .inl rfl | exact .inr rfl))) | fail | omega | exact decide_eq_true (by omega) | exact DLe.refl _)
              refine hC _ _ _ _ _ ?_ ⟨k + 1, g + 1 + 1, out ++ [r] ++ [y], true, hlt, hi2.out, hal2.out, rfl, rfl, rfl⟩ (weak_forget _ (by simp) (by simp only [encV, encG, List.map_append, List.map_cons, List.map_nil, ← dRows_app, List.append_assoc]; rfl) (by (repeat' (first | exact trivial | (refine ⟨rfl, ?_⟩)))) (by first | rfl | simp only [belowH, belowE, belowC, belowL, belowR, belowP, belowL_d, belowR_d, List.length_cons, List.length_nil, Nat.reduceAdd, Nat.reduceLT, decide_true, Bool.and_self, Bool.and_true]) (by first | rfl | simp only [belowH, belowE, belowC, belowL, belowR, belowP, belowL_d, belowR_d, List.length_cons, List.length_nil, Nat.reduceAdd, Nat.reduceLT, decide_true, Bool.and_self, Bool.and_true]))
              have := hm.out; omega
            | false =>
              have hi2 := Lib.hid (insI_l hins.out hy (by have := hne.out; have := of_decide_eq_false b4; show y.at_.at_ < r.at_.at_; omega))
              repeat' (first | (with_reducible refine And.intro ?_ ?_) | (with_reducible refine gK_i (fun _ => ?_) (fun _ => ?_)) | (with_reducible refine condS_i (fun _ => ?_) (fun _ => ?_)) | (with_reducible refine drw_i (by kernel_rfl)) | simp -dsimp only [go_sem, seval, *, encV, encG, encP, hkI, hwr, hy, hb1, b4, undef] | ((with_reducible refine opK_c ?_); simp -dsimp only [go_sem, seval, encV, encG, encP, hkI, hwr, hy, hb1, b4, undef]; first | refine callK_r (by first | assumption | exact hme) (by first | exact .inl rfl | exact .inr rfl) ?_ | (refine callK_i (by assumption) ?_ ?_ ?_; (solve | (repeat (first | exact DLe.refl _ | exact DLe.nil _ | (refine DLe.tup ?_) | (refine DLe.agg ?_ rfl) | exact trivial | (refine And.intro ?_ ?_)))); (solve | exact .inl rfl | exact .inr rfl))) | fail | omega | exact decide_eq_true (by omega) | exact DLe.refl _)
              refine hC _ _ _ _ _ ?_ ⟨k + 1, g + 1, out ++ [y], false, hlt, hi2.out, hal2.out, rfl, rfl, rfl⟩ (weak_forget _ (by simp) (by simp only [encV, encG, List.map_append, List.map_cons, List.map_nil, ← dRows_app]; rfl) (by (repeat' (first | exact trivial | (refine ⟨rfl, ?_⟩)))) (by first | rfl | simp only [belowH, belowE, belowC, belowL, belowR, belowP, belowL_d, belowR_d, List.length_cons, List.length_nil, Nat.reduceAdd, Nat.reduceLT, decide_true, Bool.and_self, Bool.and_true]) (by first | rfl | simp only [belowH, belowE, belowC, belowL, belowR, belowP, belowL_d, belowR_d, List.length_cons, List.length_nil, Nat.reduceAdd, Nat.reduceLT, decide_true, Bool.and_self, Bool.and_true]))
              have := hm.out; omega
      · obtain rfl : k = v.ranges.length := by omega
        have hno : (v.ranges.any fun q => q.at_.meets r.at_) = false := by
          have hall := hall.out
          rw [List.take_length] at hall
          rw [List.any_eq_false]; intro x hx; have := List.all_eq_true.1 hall x hx; simpa using this
        have hR4 : R = if v.ranges.length = 4 then (Vpc.zero, 2) else ({ v with ranges := insK (·.at_.at_) r v.ranges }, 0) := by rw [hR3.out, if_neg (by simp [hno])]
        clear hR3 hno
        cases f with
        | true =>
          have he := insI_et hins.out
          have hln : out.length = v.ranges.length + 1 := by rw [he, insK_len]
          rw [← he] at hR4
          replace he := Lib.hid he
          by_cases h4 : v.ranges.length = 4
          · rw [if_pos h4] at hR4
            have hd : decide ((out.length : Int) > 4) = true := by simp; omega
            rw [hR4]
            replace hR4 := Lib.hid hR4
            replace hln := Lib.hid hln
            repeat' (first | (with_reducible refine And.intro ?_ ?_) | (with_reducible refine gK_i (fun _ => ?_) (fun _ => ?_)) | (with_reducible refine condS_i (fun _ => ?_) (fun _ => ?_)) | (with_reducible refine drw_i (by kernel_rfl)) | simp -dsimp only [go_sem, seval, *, encV, encG, encP, hd, Int.lt_irrefl, undef] | ((with_reducible refine opK_c ?_); simp -dsimp only [go_sem, seval, encV, encG, encP, hd, Int.lt_irrefl, undef]; first | refine callK_r (by first | assumption | fail) (by first | exact .inl rfl | exact .inr rfl) ?_ | (refine callK_i (by assumption) ?_ ?_ ?_; (solve | (repeat (first | exact DLe.refl _ | exact DLe.nil _ | (refine DLe.tup ?_) | (refine DLe.agg ?_ rfl) | exact trivial | (refine And.intro ?_ ?_)))); (solve | exact .inl rfl | exact .inr rfl))) | fail | omega | exact decide_eq_true (by omega) | exact DLe.refl _)
            all_goals exact (by repeat (first | exact DLe.refl _ | exact DLe.nil _ | (refine DLe.tup ?_) | (refine DLe.agg ?_ rfl) | exact trivial | (refine And.intro ?_ ?_)))
          · rw [if_neg h4] at hR4
            have hd : decide ((out.length : Int) > 4) = false := by simp; omega
            rw [hR4]
            replace hR4 := Lib.hid hR4
            replace hln := Lib.hid hln
            repeat' (first | (with_reducible refine And.intro ?_ ?_) | (with_reducible refine gK_i (fun _ => ?_) (fun _ => ?_)) | (with_reducible refine condS_i (fun _ => ?_) (fun _ => ?_)) | (with_reducible refine drw_i (by kernel_rfl)) | simp -dsimp only [go_sem, seval, *, encV, encG, encP, hd, Int.lt_irrefl, undef] | ((with_reducible refine opK_c ?_); simp -dsimp only [go_sem, seval, encV, encG, encP, hd, Int.lt_irrefl, undef]; first | refine callK_r (by first | assumption | fail) (by first | exact .inl rfl | exact .inr rfl) ?_ | (refine callK_i (by assumption) ?_ ?_ ?_; (solve | (repeat (first | exact DLe.refl _ | exact DLe.nil _ | (refine DLe.tup ?_) | (refine DLe.agg ?_ rfl) | exact trivial | (refine And.intro ?_ ?_)))); (solve | exact .inl rfl | exact .inr rfl))) | fail | omega | exact decide_eq_true (by omega) | exact DLe.refl _)
            all_goals exact (by repeat (first | exact DLe.refl _ | exact DLe.nil _ | (refine DLe.tup ?_) | (refine DLe.agg ?_ rfl) | exact trivial | (refine And.intro ?_ ?_)))
        | false =>
          have he := insI_ef hins.out
          have hln : out.length + 1 = v.ranges.length + 1 := by have h := congrArg List.length he; rw [insK_len] at h; simpa using h
          rw [← he] at hR4
          replace he := Lib.hid he
          by_cases h4 : v.ranges.length = 4
          · rw [if_pos h4] at hR4
            have hd : decide (((out.length + 1 : Nat) : Int) > 4) = true := by simp; omega
            rw [hR4]
            replace hR4 := Lib.hid hR4
            replace hln := Lib.hid hln
            repeat' (first | (with_reducible refine And.intro ?_ ?_) | (with_reducible refine gK_i (fun _ => ?_) (fun _ => ?_)) | (with_reducible refine condS_i (fun _ => ?_) (fun _ => ?_)) | (with_reducible refine drw_i (by kernel_rfl)) | simp -dsimp only [go_sem, seval, *, encV, encG, encP, hd, hb1, Int.lt_irrefl, undef] | ((with_reducible refine opK_c ?_); simp -dsimp only [go_sem, seval, encV, encG, encP, hd, hb1, Int.lt_irrefl, undef]; first | refine callK_r (by first | assumption | fail) (by first | exact .inl rfl | exact .inr rfl) ?_ | (refine callK_i (by assumption) ?_ ?_ ?_; (solve | (repeat (first | exact DLe.refl _ | exact DLe.nil _ | (refine DLe.tup ?_) | (refine DLe.agg ?_ rfl) | exact trivial | (refine And.intro ?_ ?_)))); (solve | exact .inl rfl | exact .inr rfl))) | fail | omega | exact decide_eq_true (by omega) | exact DLe.refl _)
            all_goals exact (by repeat (first | exact DLe.refl _ | exact DLe.nil _ | (refine DLe.tup ?_) | (refine DLe.agg ?_ rfl) | exact trivial | (refine And.intro ?_ ?_)))
          · rw [if_neg h4] at hR4
            have hd : decide (((out.length + 1 : Nat) : Int) > 4) = false := by simp; omega
            rw [hR4]
            replace hR4 := Lib.hid hR4
            replace hln := Lib.hid hln
            repeat' (first | (with_reducible refine And.intro ?_ ?_) | (with_reducible refine gK_i (fun _ => ?_) (fun _ => ?_)) | (with_reducible refine condS_i (fun _ => ?_) (fun _ => ?_)) | (with_reducible refine drw_i (by kernel_rfl)) | simp -dsimp only [go_sem, seval, *, encV, encG, encP, hd, hb1, Int.lt_irrefl, undef] | ((with_reducible refine opK_c ?_); simp -dsimp only [go_sem, seval, encV, encG, encP, hd, hb1, Int.lt_irrefl, undef]; first | refine callK_r (by first | assumption | fail) (by first | exact .inl rfl | exact .inr rfl) ?_ | (refine callK_i (by assumption) ?_ ?_ ?_; (solve | (repeat (first | exact DLe.refl _ | exact DLe.nil _ | (refine DLe.tup ?_) | (refine DLe.agg ?_ rfl) | exact trivial | (refine And.intro ?_ ?_)))); (solve | exact .inl rfl | exact .inr rfl))) | fail | omega | exact decide_eq_true (by omega) | exact DLe.refl _)
            all_goals (simp only [List.map_append, List.map_cons, List.map_nil]; exact (by repeat (first | exact DLe.refl _ | exact DLe.nil _ | (refine DLe.tup ?_) | (refine DLe.agg ?_ rfl) | exact trivial | (refine And.intro ?_ ?_))))
  · have h1 : (chkV v != 0) = true := by simpa using hc
    have hr : R = (Vpc.zero, chkV v) := by rw [hR.out]; unfold growV; rw [if_pos hc]
    rw [hr]
    replace hr := Lib.hid hr
    clear hR
    refine ps_i tab_ok mixed Tryz.func36 rfl Tryz.ntmps36 Tryz.results36 (by kernel_rfl) ?_
    repeat' (first | (with_reducible refine And.intro ?_ ?_) | (with_reducible refine gK_i (fun _ => ?_) (fun _ => ?_)) | (with_reducible refine condS_i (fun _ => ?_) (fun _ => ?_)) | (with_reducible refine drw_i (by kernel_rfl)) | simp -dsimp only [go_sem, seval, *, encV, encG, h1] | ((with_reducible refine opK_c ?_); simp -dsimp only [go_sem, seval, encV, encG, h1]; first | refine callK_r (by first | assumption | exact hck) (by first | exact .inl rfl | exact .inr rfl) ?_ | (refine callK_i (by assumption) ?_ ?_ ?_; (solve | (repeat (first | exact DLe.refl _ | exact DLe.nil _ | (refine DLe.tup ?_) | (refine DLe.agg ?_ rfl) | exact trivial | (refine And.intro ?_ ?_)))); (solve | exact .inl rfl | exact .inr rfl))) | fail | omega | exact decide_eq_true (by omega) | exact DLe.refl _)
    exact (by repeat (first | exact DLe.refl _ | exact DLe.nil _ | (refine DLe.tup ?_) | (refine DLe.agg ?_ rfl) | exact trivial | (refine And.intro ?_ ?_)))
end Go.Proofs.YtgmbhaclogabeaaGreat
namespace Go.Proofs.YtgmbhaclogabeaaGreat
open Go Go.RowKit
structure Lnk where
  a : Int
  b : Int
  deriving DecidableEq
structure Net where
  vpcs : List Vpc
  links : List Lnk
  deriving DecidableEq
def encK (l : Lnk) : List D := [.v (.int .i64 l.a), .v (.int .i64 l.b)]
def encT (n : Net) : List D := [.sl 3 (n.vpcs.map encV), .sl 2 (n.links.map encK)]
end Go.Proofs.YtgmbhaclogabeaaGreat
namespace Go.Proofs.YtgmbhaclogabeaaGreat
open Go Go.RowKit
/-- By n steps up from x one comes to r, which is above itself. -/
def HeadIs (ents : List (List Int × Int)) : Nat → Int → Int → Prop
  | 0, x, r => lkE ents [x] = some x ∧ r = x
  | n + 1, x, r => ∃ y, lkE ents [x] = some y ∧ y ≠ x ∧ HeadIs ents n y r
set_option maxRecDepth 100000 in
theorem head_m (ents : List (List Int × Int)) (n : Nat) (x r : Int) (h : HeadIs ents n x r) :
    MSpec Tryz.prog 24 [.mref 0, .d (.v (.int .i64 x))] [.mp 1 false ents] (.d (.v (.int .i64 r))) [.mp 1 false ents] := by
  refine ms_i tab_ok mixed Tryz.func24 rfl Tryz.ntmps24 Tryz.results24 (by kernel_rfl) (by simp) (by simp [belowL, belowP]) (by simp [belowH, belowC, belowL, belowP, belowL_d, belowR_d]) ?_
  repeat' (first | (with_reducible refine And.intro ?_ ?_) | (with_reducible refine gK_i (fun _ => ?_) (fun _ => ?_)) | (with_reducible refine condS_i (fun _ => ?_) (fun _ => ?_)) | (with_reducible refine drw_i (by kernel_rfl)) | simp -dsimp only [go_sem, seval, *, bne_self_eq_false] | ((with_reducible refine opK_c ?_); simp -dsimp only [go_sem, seval, bne_self_eq_false]; first | refine callK_r (by first | assumption | fail) (by first | exact .inl rfl | exact .inr rfl) ?_ | (refine callK_i (by assumption) ?_ ?_ ?_; (solve | (repeat (first | exact DLe.refl _ | exact DLe.nil _ | (refine DLe.tup ?_) | (refine DLe.agg ?_ rfl) | exact trivial | (refine And.intro ?_ ?_)))); (solve | exact .inl rfl | exact .inr rfl))) | fail | omega | exact decide_eq_true (by omega) | exact DLe.refl _)
  refine loopG tab_ok mixed (fun m e h => ∃ (y : Int), HeadIs ents m y r ∧ e = [(4, .d (.v (.int .i64 0))), (1, .d (.v (.int .i64 y))), (0, .mref 0)] ∧ h = [.mp 1 false ents]) _ _ _ ⟨x, h, rfl, rfl⟩ (weak_forget _ (by simp) (by (try simp only [encK]); rfl) (by (repeat' (first | exact trivial | (refine ⟨rfl, ?_⟩)))) (by first | rfl | simp only [belowH, belowE, belowC, belowL, belowR, belowP, belowL_d, belowR_d, List.length_cons, List.length_nil, Nat.reduceAdd, Nat.reduceLT, decide_true, Bool.and_self, Bool.and_true]) (by first | rfl | simp only [belowH, belowE, belowC, belowL, belowR, belowP, belowL_d, belowR_d, List.length_cons, List.length_nil, Nat.reduceAdd, Nat.reduceLT, decide_true, Bool.and_self, Bool.and_true])) ?_
  rintro m e h ⟨y, hy, rfl, rfl⟩ C hC
  cases m with
  | zero =>
    obtain ⟨h1, rfl⟩ := hy
    repeat' (first | (with_reducible refine And.intro ?_ ?_) | (with_reducible refine gK_i (fun _ => ?_) (fun _ => ?_)) | (with_reducible refine condS_i (fun _ => ?_) (fun _ => ?_)) | (with_reducible refine drw_i (by kernel_rfl)) | simp -dsimp only [go_sem, seval, *, h1, bne_self_eq_false, undef] | ((with_reducible refine opK_c ?_); simp -dsimp only [go_sem, seval, h1, bne_self_eq_false, undef]; first | refine callK_r (by first | assumption | fail) (by first | exact .inl rfl | exact .inr rfl) ?_ | (refine callK_i (by assumption) ?_ ?_ ?_; (solve | (repeat (first | exact DLe.refl _ | exact DLe.nil _ | (refine DLe.tup ?_) | (refine DLe.agg ?_ rfl) | exact trivial | (refine And.intro ?_ ?_)))); (solve | exact .inl rfl | exact .inr rfl))) | fail | omega | exact decide_eq_true (by omega) | exact DLe.refl _)
    all_goals exact weak_eq rfl rfl
  | succ m =>
    obtain ⟨z, h1, h2, h3⟩ := hy
    have hne : (z != y) = true := by simpa using h2
    replace h3 := Lib.hid h3
    replace h2 := Lib.hid h2
    repeat' (first | (with_reducible refine And.intro ?_ ?_) | (with_reducible refine gK_i (fun _ => ?_) (fun _ => ?_)) | (with_reducible refine condS_i (fun _ => ?_) (fun _ => ?_)) | (with_reducible refine drw_i (by kernel_rfl)) | simp -dsimp only [go_sem, seval, *, h1, hne, undef] | ((with_reducible refine opK_c ?_); simp -dsimp only [go_sem, seval, h1, hne, undef]; first | refine callK_r (by first | assumption | fail) (by first | exact .inl rfl | exact .inr rfl) ?_ | (refine callK_i (by assumption) ?_ ?_ ?_; (solve | (repeat (first | exact DLe.refl _ | exact DLe.nil _ | (refine DLe.tup ?_) | (refine DLe.agg ?_ rfl) | exact trivial | (refine And.intro ?_ ?_)))); (solve | exact .inl rfl | exact .inr rfl))) | fail | omega | exact decide_eq_true (by omega) | exact DLe.refl _)
    exact hC _ _ _ _ _ (Nat.lt_succ_self _) ⟨z, h3.out, rfl, rfl⟩ (weak_forget _ (by simp) (by (try simp only [encK]); rfl) (by (repeat' (first | exact trivial | (refine ⟨rfl, ?_⟩)))) (by first | rfl | simp only [belowH, belowE, belowC, belowL, belowR, belowP, belowL_d, belowR_d, List.length_cons, List.length_nil, Nat.reduceAdd, Nat.reduceLT, decide_true, Bool.and_self, Bool.and_true]) (by first | rfl | simp only [belowH, belowE, belowC, belowL, belowR, belowP, belowL_d, belowR_d, List.length_cons, List.length_nil, Nat.reduceAdd, Nat.reduceLT, decide_true, Bool.and_self, Bool.and_true]))
end Go.Proofs.YtgmbhaclogabeaaGreat
namespace Go.Proofs.YtgmbhaclogabeaaGreat
open Go Go.RowKit
/-- Does a range of the one meet one of the other? -/
def clashV (v w : Vpc) : Bool := v.ranges.any fun r => w.ranges.any fun q => r.at_.meets q.at_
theorem clash11_p (q r : Rng) : PSpec Tryz.prog 93 [.agg (encG q), .ept (encG r)] (.v (.bool (r.at_.meets q.at_))) := by
  have hm : PSpec Tryz.prog 58 [.agg (encP r.at_), .agg (encP q.at_)] (.v (.bool (r.at_.meets q.at_))) := meets_p _ _
  refine ps_i tab_ok mixed Tryz.func93 rfl Tryz.ntmps93 Tryz.results93 (by kernel_rfl) ?_
  repeat' (first | (with_reducible refine And.intro ?_ ?_) | (with_reducible refine gK_i (fun _ => ?_) (fun _ => ?_)) | (with_reducible refine condS_i (fun _ => ?_) (fun _ => ?_)) | (with_reducible refine drw_i (by kernel_rfl)) | simp -dsimp only [go_sem, seval, *, encG, encP] | ((with_reducible refine opK_c ?_); simp -dsimp only [go_sem, seval, encG, encP]; first | refine callK_r (by first | assumption | exact hm) (by first | exact .inl rfl | exact .inr rfl) ?_ | (refine callK_i (by assumption) ?_ ?_ ?_; (solve | (repeat (first | exact DLe.refl _ | exact DLe.nil _ | (refine DLe.tup ?_) | (refine DLe.agg ?_ rfl) | exact trivial | (refine And.intro ?_ ?_)))); (solve | exact .inl rfl | exact .inr rfl))) | fail | omega | exact decide_eq_true (by omega) | exact DLe.refl _)
theorem clash1_p (r : Rng) (w : Vpc) (hw : w.ranges.length ≤ 1000000000) : PSpec Tryz.prog 92 [.agg (encG r), .ept (encV w)] (.v (.bool (w.ranges.any fun q => r.at_.meets q.at_))) := by
  have hc := cntf_Range encG_len (fun q => r.at_.meets q.at_) w.ranges 93 [.ept (encG r)] hw (fun q _ => clash11_p q r)
  refine ps_i tab_ok mixed Tryz.func92 rfl Tryz.ntmps92 Tryz.results92 (by kernel_rfl) ?_
  repeat' (first | (with_reducible refine And.intro ?_ ?_) | (with_reducible refine gK_i (fun _ => ?_) (fun _ => ?_)) | (with_reducible refine condS_i (fun _ => ?_) (fun _ => ?_)) | (with_reducible refine drw_i (by kernel_rfl)) | simp -dsimp only [go_sem, seval, *, encV, encG] | ((with_reducible refine opK_c ?_); simp -dsimp only [go_sem, seval, encV, encG]; first | refine callK_r (by first | assumption | exact hc) (by first | exact .inl rfl | exact .inr rfl) ?_ | (refine callK_i (by assumption) ?_ ?_ ?_; (solve | (repeat (first | exact DLe.refl _ | exact DLe.nil _ | (refine DLe.tup ?_) | (refine DLe.agg ?_ rfl) | exact trivial | (refine And.intro ?_ ?_)))); (solve | exact .inl rfl | exact .inr rfl))) | fail | omega | exact decide_eq_true (by omega) | exact DLe.refl _)
theorem clash_p (v w : Vpc) (hv : v.ranges.length ≤ 1000000000) (hw : w.ranges.length ≤ 1000000000) : PSpec Tryz.prog 61 [.agg (encV v), .agg (encV w)] (.v (.bool (clashV v w))) := by
  have hc := cntf_Range encG_len (fun r => w.ranges.any fun q => r.at_.meets q.at_) v.ranges 92 [.ept (encV w)] hv (fun r _ => clash1_p r w hw)
  refine ps_i tab_ok mixed Tryz.func61 rfl Tryz.ntmps61 Tryz.results61 (by kernel_rfl) ?_
  repeat' (first | (with_reducible refine And.intro ?_ ?_) | (with_reducible refine gK_i (fun _ => ?_) (fun _ => ?_)) | (with_reducible refine condS_i (fun _ => ?_) (fun _ => ?_)) | (with_reducible refine drw_i (by kernel_rfl)) | simp -dsimp only [go_sem, seval, *, encV] | ((with_reducible refine opK_c ?_); simp -dsimp only [go_sem, seval, encV]; first | refine callK_r (by first | assumption | exact hc) (by first | exact .inl rfl | exact .inr rfl) ?_ | (refine callK_i (by assumption) ?_ ?_ ?_; (solve | (repeat (first | exact DLe.refl _ | exact DLe.nil _ | (refine DLe.tup ?_) | (refine DLe.agg ?_ rfl) | exact trivial | (refine And.intro ?_ ?_)))); (solve | exact .inl rfl | exact .inr rfl))) | fail | omega | exact decide_eq_true (by omega) | exact DLe.refl _)
end Go.Proofs.YtgmbhaclogabeaaGreat
namespace Go.Proofs.YtgmbhaclogabeaaGreat
open Go Go.RowKit
/-- The first that is not 0. -/
def orI : List Int → Int
  | [] => 0
  | x :: l => if x = 0 then orI l else x
theorem orI_drop {l : List Int} {k : Nat} {x : Int} (h : l[k]? = some x) : orI (l.drop k) = if x = 0 then orI (l.drop (k + 1)) else x := by rw [drop_get h, orI]
theorem or_p (l : List Int) (hl : l.length ≤ 1000000000) : PSpec Tryz.prog 76 [.sl 1 (l.map encA)] (.v (.int .i64 (orI l))) := by
  obtain ⟨R, hR⟩ : ∃ R, R = orI l := ⟨_, rfl⟩
  rw [← hR]
  replace hR := Lib.hid hR
  refine ps_i tab_ok mixed Tryz.func76 rfl Tryz.ntmps76 Tryz.results76 (by kernel_rfl) ?_
  repeat' (first | (with_reducible refine And.intro ?_ ?_) | (with_reducible refine gK_i (fun _ => ?_) (fun _ => ?_)) | (with_reducible refine condS_i (fun _ => ?_) (fun _ => ?_)) | (with_reducible refine drw_i (by kernel_rfl)) | simp -dsimp only [go_sem, seval, *, bne_self_eq_false] | ((with_reducible refine opK_c ?_); simp -dsimp only [go_sem, seval, bne_self_eq_false]; first | refine callK_r (by first | assumption | fail) (by first | exact .inl rfl | exact .inr rfl) ?_ | (refine callK_i (by assumption) ?_ ?_ ?_; (solve | (repeat (first | exact DLe.refl _ | exact DLe.nil _ | (refine DLe.tup ?_) | (refine DLe.agg ?_ rfl) | exact trivial | (refine And.intro ?_ ?_)))); (solve | exact .inl rfl | exact .inr rfl))) | fail | omega | exact decide_eq_true (by omega) | exact DLe.refl _)
  refine loopL tab_ok mixed l (fun k => orI l = orI (l.drop k)) (fun k => [(8, .d (.v (.int .i64 k))), (7, .d (.v (.int .i64 l.length))), (6, .d (.sl 1 (l.map encA))), (3, .d (.v (.int .i64 0))), (2, .d (.v (.int .i64 0)))]) (fun _ => []) rfl (weak_forget _ (by simp) (by (try simp only [encA]); rfl) (by (repeat' (first | exact trivial | (refine ⟨rfl, ?_⟩)))) (by first | rfl | simp only [belowH, belowE, belowC, belowL, belowR, belowP, belowL_d, belowR_d, List.length_cons, List.length_nil, Nat.reduceAdd, Nat.reduceLT, decide_true, Bool.and_self, Bool.and_true]) (by first | rfl | simp only [belowH, belowE, belowC, belowL, belowR, belowP, belowL_d, belowR_d, List.length_cons, List.length_nil, Nat.reduceAdd, Nat.reduceLT, decide_true, Bool.and_self, Bool.and_true])) ?_ ?_
  · intro k x hx hk hI C hC
    have hkI : (k : Int) < (l.length : Int) := by omega
    have hwr : IntKind.i64.wrap ((k : Int) + 1) = ((k + 1 : Nat) : Int) := by rw [IntKind.wrap_i64]; omega
    rw [orI_drop hx] at hI
    by_cases h0 : x = 0
    · rw [if_pos h0] at hI
      have hne : (x != 0) = false := by simp [h0]
      replace hI := Lib.hid hI
      replace h0 := Lib.hid h0
      repeat' (first | (with_reducible refine And.intro ?_ ?_) | (with_reducible refine gK_i (fun _ => ?_) (fun _ => ?_)) | (with_reducible refine condS_i (fun _ => ?_) (fun _ => ?_)) | (with_reducible refine drw_i (by kernel_rfl)) | simp -dsimp only [go_sem, seval, *, encA, hkI, hwr, hx, hne] | ((with_reducible refine opK_c ?_); simp -dsimp only [go_sem, seval, encA, hkI, hwr, hx, hne]; first | refine callK_r (by first | assumption | fail) (by first | exact .inl rfl | exact .inr rfl) ?_ | (refine callK_i (by assumption) ?_ ?_ ?_; (solve | (repeat (first | exact DLe.refl _ | exact DLe.nil _ | (refine DLe.tup ?_) | (refine DLe.agg ?_ rfl) | exact trivial | (refine And.intro ?_ ?_)))); (solve | exact .inl rfl | exact .inr rfl))) | fail | omega | exact decide_eq_true (by omega) | exact DLe.refl _)
      exact hC _ _ hI.out (weak_forget _ (by simp) (by (try simp only [encA]); rfl) (by (repeat' (first | exact trivial | (refine ⟨rfl, ?_⟩)))) (by first | rfl | simp only [belowH, belowE, belowC, belowL, belowR, belowP, belowL_d, belowR_d, List.length_cons, List.length_nil, Nat.reduceAdd, Nat.reduceLT, decide_true, Bool.and_self, Bool.and_true]) (by first | rfl | simp only [belowH, belowE, belowC, belowL, belowR, belowP, belowL_d, belowR_d, List.length_cons, List.length_nil, Nat.reduceAdd, Nat.reduceLT, decide_true, Bool.and_self, Bool.and_true]))
    · rw [if_neg h0] at hI
      have hne : (x != 0) = true := by simpa using h0
      have hr : R = x := by rw [hR.out, hI]
      rw [hr]
      replace hr := Lib.hid hr
      replace hI := Lib.hid hI
      replace h0 := Lib.hid h0
      repeat' (first | (with_reducible refine And.intro ?_ ?_) | (with_reducible refine gK_i (fun _ => ?_) (fun _ => ?_)) | (with_reducible refine condS_i (fun _ => ?_) (fun _ => ?_)) | (with_reducible refine drw_i (by kernel_rfl)) | simp -dsimp only [go_sem, seval, *, encA, hkI, hwr, hx, hne] | ((with_reducible refine opK_c ?_); simp -dsimp only [go_sem, seval, encA, hkI, hwr, hx, hne]; first | refine callK_r (by first | assumption | fail) (by first | exact .inl rfl | exact .inr rfl) ?_ | (refine callK_i (by assumption) ?_ ?_ ?_; (solve | (repeat (first | exact DLe.refl _ | exact DLe.nil _ | (refine DLe.tup ?_) | (refine DLe.agg ?_ rfl) | exact trivial | (refine And.intro ?_ ?_)))); (solve | exact .inl rfl | exact .inr rfl))) | fail | omega | exact decide_eq_true (by omega) | exact DLe.refl _)
      all_goals exact DLe.refl _
  · intro hI C
    rw [List.drop_length] at hI
    have hr : R = 0 := by rw [hR.out, hI]; rfl
    rw [hr]
    replace hr := Lib.hid hr
    replace hI := Lib.hid hI
    repeat' (first | (with_reducible refine And.intro ?_ ?_) | (with_reducible refine gK_i (fun _ => ?_) (fun _ => ?_)) | (with_reducible refine condS_i (fun _ => ?_) (fun _ => ?_)) | (with_reducible refine drw_i (by kernel_rfl)) | simp -dsimp only [go_sem, seval, *, Int.lt_irrefl] | ((with_reducible refine opK_c ?_); simp -dsimp only [go_sem, seval, Int.lt_irrefl]; first | refine callK_r (by first | assumption | fail) (by first | exact .inl rfl | exact .inr rfl) ?_ | (refine callK_i (by assumption) ?_ ?_ ?_; (solve | (repeat (first | exact DLe.refl _ | exact DLe.nil _ | (refine DLe.tup ?_) | (refine DLe.agg ?_ rfl) | exact trivial | (refine And.intro ?_ ?_)))); (solve | exact .inl rfl | exact .inr rfl))) | fail | omega | exact decide_eq_true (by omega) | exact DLe.refl _)
    all_goals exact DLe.refl _
end Go.Proofs.YtgmbhaclogabeaaGreat
namespace Go.Proofs.YtgmbhaclogabeaaGreat
open Go Go.RowKit
def ordK (l m : Lnk) : Int := orI [cmpI l.a m.a, cmpI l.b m.b]
set_option maxRecDepth 100000 in
theorem order_p (l m : Lnk) : PSpec Tryz.prog 38 [.agg (encK l), .agg (encK m)] (.v (.int .i64 (ordK l m))) := by
  have h1 := compare_p l.a m.a
  have h2 := compare_p l.b m.b
  have h3 := or_p [cmpI l.a m.a, cmpI l.b m.b] (by simp)
  simp only [List.map_cons, List.map_nil, encA] at h3
  unfold ordK
  generalize cmpI l.a m.a = A at *
  generalize cmpI l.b m.b = B at *
  refine ps_i tab_ok mixed Tryz.func38 rfl Tryz.ntmps38 Tryz.results38 (by kernel_rfl) ?_
  repeat' (first | (with_reducible refine And.intro ?_ ?_) | (with_reducible refine gK_i (fun _ => ?_) (fun _ => ?_)) | (with_reducible refine condS_i (fun _ => ?_) (fun _ => ?_)) | (with_reducible refine drw_i (by kernel_rfl)) | simp -dsimp only [go_sem, seval, *, encK, encA, undef] | ((with_reducible refine opK_c ?_); simp -dsimp only [go_sem, seval, encK, encA, undef]; first | refine callK_r (by first | assumption | exact h1 | exact h2 | exact h3) (by first | exact .inl rfl | exact .inr rfl) ?_ | (refine callK_i (by assumption) ?_ ?_ ?_; (solve | (repeat (first | exact DLe.refl _ | exact DLe.nil _ | (refine DLe.tup ?_) | (refine DLe.agg ?_ rfl) | exact trivial | (refine And.intro ?_ ?_)))); (solve | exact .inl rfl | exact .inr rfl))) | fail | omega | exact decide_eq_true (by omega) | exact DLe.refl _)
def lnk (a b : Int) : Lnk := ⟨if b < a then b else a, if a < b then b else a⟩
set_option maxRecDepth 100000 in
theorem link_p (a b : Int) : PSpec Tryz.prog 41 [.v (.int .i64 a), .v (.int .i64 b)] (.agg (encK (lnk a b))) := by
  refine ps_i tab_ok mixed Tryz.func41 rfl Tryz.ntmps41 Tryz.results41 (by kernel_rfl) ?_
  repeat' (first | (with_reducible refine And.intro ?_ ?_) | (with_reducible refine gK_i (fun _ => ?_) (fun _ => ?_)) | (with_reducible refine condS_i (fun _ => ?_) (fun _ => ?_)) | (with_reducible refine drw_i (by kernel_rfl)) | simp -dsimp only [go_sem, seval, *, encK, lnk, undef] | ((with_reducible refine opK_c ?_); simp -dsimp only [go_sem, seval, encK, lnk, undef]; first | refine callK_r (by first | assumption | fail) (by first | exact .inl rfl | exact .inr rfl) ?_ | (refine callK_i (by assumption) ?_ ?_ ?_; (solve | (repeat (first | exact DLe.refl _ | exact DLe.nil _ | (refine DLe.tup ?_) | (refine DLe.agg ?_ rfl) | exact trivial | (refine And.intro ?_ ?_)))); (solve | exact .inl rfl | exact .inr rfl))) | fail | omega | exact decide_eq_true (by omega) | exact DLe.refl _)
  all_goals exact DLe.refl _
theorem find1_p (v : Vpc) (id : Int) : PSpec Tryz.prog 46 [.agg (encV v), .v (.int .i64 id)] (.v (.int .i64 (cmpI v.id id))) := by
  have h1 := compare_p v.id id
  refine ps_i tab_ok mixed Tryz.func46 rfl Tryz.ntmps46 Tryz.results46 (by kernel_rfl) ?_
  repeat' (first | (with_reducible refine And.intro ?_ ?_) | (with_reducible refine gK_i (fun _ => ?_) (fun _ => ?_)) | (with_reducible refine condS_i (fun _ => ?_) (fun _ => ?_)) | (with_reducible refine drw_i (by kernel_rfl)) | simp -dsimp only [go_sem, seval, *, encV] | ((with_reducible refine opK_c ?_); simp -dsimp only [go_sem, seval, encV]; first | refine callK_r (by first | assumption | exact h1) (by first | exact .inl rfl | exact .inr rfl) ?_ | (refine callK_i (by assumption) ?_ ?_ ?_; (solve | (repeat (first | exact DLe.refl _ | exact DLe.nil _ | (refine DLe.tup ?_) | (refine DLe.agg ?_ rfl) | exact trivial | (refine And.intro ?_ ?_)))); (solve | exact .inl rfl | exact .inr rfl))) | fail | omega | exact decide_eq_true (by omega) | exact DLe.refl _)
set_option maxHeartbeats 1000000 in
theorem bsrf_Vpc {α : Type} {enc : α → List D} (henc : ∀ x, (enc x).length = 3) (key : α → Int) (l : List α) (t : Int) (g : Nat) (caps : List D) (hl : l.length ≤ 1000000000) (hs : l.Pairwise fun a b => key a < key b) (hc : ∀ x ∈ l, PSpec Tryz.prog g (.agg (enc x) :: .v (.int .i64 t) :: caps) (.v (.int .i64 (cmpI (key x) t)))) :
    PSpec Tryz.prog 45 [.sl 3 (l.map enc), .v (.int .i64 t), .clo g caps] (.tup [.v (.int .i64 (lbN key t l)), .v (.bool (lbB key t l))]) := by
  refine ps_i tab_ok mixed Tryz.func45 rfl Tryz.ntmps45 Tryz.results45 (by kernel_rfl) ?_
  repeat' (first | (with_reducible refine And.intro ?_ ?_) | (with_reducible refine gK_i (fun _ => ?_) (fun _ => ?_)) | (with_reducible refine condS_i (fun _ => ?_) (fun _ => ?_)) | (with_reducible refine drw_i (by kernel_rfl)) | simp -dsimp only [go_sem, seval, *, bne_self_eq_false] | ((with_reducible refine opK_c ?_); simp -dsimp only [go_sem, seval, bne_self_eq_false]; first | refine callK_r (by first | assumption | fail) (by first | exact .inl rfl | exact .inr rfl) ?_ | (refine callK_i (by assumption) ?_ ?_ ?_; (solve | (repeat (first | exact DLe.refl _ | exact DLe.nil _ | (refine DLe.tup ?_) | (refine DLe.agg ?_ rfl) | exact trivial | (refine And.intro ?_ ?_)))); (solve | exact .inl rfl | exact .inr rfl))) | fail | omega | exact decide_eq_true (by omega) | exact DLe.refl _)
  refine loopG tab_ok mixed (fun m e h => ∃ i j : Nat, i ≤ j ∧ j ≤ l.length ∧ (∀ q (hq : q < l.length), q < i → key l[q] < t) ∧ (∀ q (hq : q < l.length), j ≤ q → t ≤ key l[q]) ∧ m = j - i ∧
    e = [(10, .d (.v (.int .i64 j))), (9, .d (.v (.int .i64 i))), (8, .d (.v (.int .i64 l.length))), (7, .d (.v (.bool false))), (6, .d (.v (.int .i64 0))), (2, .d (.clo g caps)), (1, .d (.v (.int .i64 t))), (0, .d (.sl 3 (l.map enc)))] ∧ h = []) _ _ _ ⟨0, l.length, Nat.zero_le _, Nat.le_refl _, fun q hq h => absurd h (Nat.not_lt_zero _), fun q hq h => by omega, rfl, rfl, rfl⟩ ?_ ?_
  · exact weak_forget [] (by simp) rfl ⟨rfl, rfl, rfl, rfl, rfl, rfl, rfl, rfl, trivial⟩ (by first | rfl | simp only [belowH, belowE, belowC, belowL, belowR, belowP, belowL_d, belowR_d, List.length_cons, List.length_nil, Nat.reduceAdd, Nat.reduceLT, decide_true, Bool.and_self, Bool.and_true]) (by first | rfl | simp only [belowH, belowE, belowC, belowL, belowR, belowP, belowL_d, belowR_d, List.length_cons, List.length_nil, Nat.reduceAdd, Nat.reduceLT, decide_true, Bool.and_self, Bool.and_true])
  · rintro m e h ⟨i, j, hij, hj, hlo, hhi, rfl, rfl, rfl⟩ CL hCL
    by_cases hlt : i < j
    · obtain ⟨q, hq⟩ : ∃ q, q = (i + j) / 2 := ⟨_, rfl⟩
      have hql : q < l.length := by omega
      obtain ⟨x, hx⟩ : ∃ x, l[q]? = some x := ⟨_, List.getElem?_eq_getElem hql⟩
      have hxe : l[q] = x := by rw [List.getElem?_eq_getElem hql] at hx; exact Option.some.inj hx
      have hltI : (i : Int) < (j : Int) := by omega
      have hw1 : IntKind.i64.wrap ((i : Int) + (j : Int)) = ((i + j : Nat) : Int) := by rw [IntKind.wrap_i64]; omega
      have hw2 : IntKind.u64.wrap ((i + j : Nat) : Int) = ((i + j : Nat) : Int) := by rw [wrap_u64]; omega
      have hsh : (((i + j : Nat) : Int)).fdiv (2 ^ min 1 64) = (q : Int) := by
        rw [hq, show (min 1 64 : Nat) = 1 from rfl, Int.pow_succ, Int.pow_zero, Int.one_mul, Int.fdiv_eq_ediv_of_nonneg _ (by omega)]
        omega
      have hw3 : IntKind.i64.wrap (q : Int) = (q : Int) := by rw [IntKind.wrap_i64]; omega
      have hw4 : IntKind.i64.wrap ((q : Int) + 1) = ((q + 1 : Nat) : Int) := by rw [IntKind.wrap_i64]; omega
      have hlen := henc x
      have htk : (enc x).take 3 = enc x := List.take_of_length_le (by omega)
      have hcx := hc x (List.mem_of_getElem? hx)
      have hcm := cmpI_neg (key x) t
      have hqd : i ≤ q ∧ q < j := by omega
      replace hq := Lib.hid hq
      by_cases hk : key x < t
      · have hkI : decide (key x < t) = true := by simpa using hk
        repeat' (first | (with_reducible refine And.intro ?_ ?_) | (with_reducible refine gK_i (fun _ => ?_) (fun _ => ?_)) | (with_reducible refine condS_i (fun _ => ?_) (fun _ => ?_)) | (with_reducible refine drw_i (by kernel_rfl)) | simp -dsimp only [go_sem, seval, *, hx, hltI, hw1, hw2, hw3, hw4, hsh, htk, hlen, hcm, hkI, vwL_d, tcL_d] | ((with_reducible refine opK_c ?_); simp -dsimp only [go_sem, seval, hx, hltI, hw1, hw2, hw3, hw4, hsh, htk, hlen, hcm, hkI, vwL_d, tcL_d]; first | refine callK_r (by first | assumption | exact hcx) (by first | exact .inl rfl | exact .inr rfl) ?_ | (refine callK_i (by assumption) ?_ ?_ ?_; (solve | (repeat (first | exact DLe.refl _ | exact DLe.nil _ | (refine DLe.tup ?_) | (refine DLe.agg ?_ rfl) | exact trivial | (refine And.intro ?_ ?_)))); (solve | exact .inl rfl | exact .inr rfl))) | fail | omega | exact decide_eq_true (by omega) | exact DLe.refl _)
        refine hCL _ _ _ _ _ ?_ ⟨q + 1, j, by omega, hj, ?_, hhi, rfl, rfl, rfl⟩ (weak_forget [] (by simp) rfl ⟨rfl, rfl, rfl, rfl, rfl, rfl, rfl, rfl, trivial⟩ (by first | rfl | simp only [belowH, belowE, belowC, belowL, belowR, belowP, belowL_d, belowR_d, List.length_cons, List.length_nil, Nat.reduceAdd, Nat.reduceLT, decide_true, Bool.and_self, Bool.and_true]) (by first | rfl | simp only [belowH, belowE, belowC, belowL, belowR, belowP, belowL_d, belowR_d, List.length_cons, List.length_nil, Nat.reduceAdd, Nat.reduceLT, decide_true, Bool.and_self, Bool.and_true]))
        · omega
        · intro q' hq' hlt'
          rcases Nat.lt_or_ge q' q with h1 | h1
          · have := List.pairwise_iff_getElem.1 hs q' q hq' hql h1
            rw [hxe] at this; omega
          · obtain rfl : q' = q := by omega
            rw [hxe]; exact hk
      · have hkI : decide (key x < t) = false := by simpa using hk
        repeat' (first | (with_reducible refine And.intro ?_ ?_) | (with_reducible refine gK_i (fun _ => ?_) (fun _ => ?_)) | (with_reducible refine condS_i (fun _ => ?_) (fun _ => ?_)) | (with_reducible refine drw_i (by kernel_rfl)) | simp -dsimp only [go_sem, seval, *, hx, hltI, hw1, hw2, hw3, hw4, hsh, htk, hlen, hcm, hkI, vwL_d, tcL_d] | ((with_reducible refine opK_c ?_); simp -dsimp only [go_sem, seval, hx, hltI, hw1, hw2, hw3, hw4, hsh, htk, hlen, hcm, hkI, vwL_d, tcL_d]; first | refine callK_r (by first | assumption | exact hcx) (by first | exact .inl rfl | exact .inr rfl) ?_ | (refine callK_i (by assumption) ?_ ?_ ?_; (solve | (repeat (first | exact DLe.refl _ | exact DLe.nil _ | (refine DLe.tup ?_) | (refine DLe.agg ?_ rfl) | exact trivial | (refine And.intro ?_ ?_)))); (solve | exact .inl rfl | exact .inr rfl))) | fail | omega | exact decide_eq_true (by omega) | exact DLe.refl _)
        refine hCL _ _ _ _ _ ?_ ⟨i, q, by omega, by omega, hlo, ?_, rfl, rfl, rfl⟩ (weak_forget [] (by simp) rfl ⟨rfl, rfl, rfl, rfl, rfl, rfl, rfl, rfl, trivial⟩ (by first | rfl | simp only [belowH, belowE, belowC, belowL, belowR, belowP, belowL_d, belowR_d, List.length_cons, List.length_nil, Nat.reduceAdd, Nat.reduceLT, decide_true, Bool.and_self, Bool.and_true]) (by first | rfl | simp only [belowH, belowE, belowC, belowL, belowR, belowP, belowL_d, belowR_d, List.length_cons, List.length_nil, Nat.reduceAdd, Nat.reduceLT, decide_true, Bool.and_self, Bool.and_true]))
        · omega
        · intro q' hq' hlt'
          rcases Nat.lt_or_ge q q' with h1 | h1
          · have := List.pairwise_iff_getElem.1 hs q q' hql hq' h1
            rw [hxe] at this; omega
          · obtain rfl : q' = q := by omega
            rw [hxe]; omega
    · obtain rfl : i = j := by omega
      have hlb := lbN_eq hj hlo hhi
      have hlbB : lbB key t l = match l[i]? with | some x => key x == t | none => false := by unfold lbB; rw [hlb]; all_goals (cases l[i]? <;> rfl)
      replace hlb := Lib.hid hlb
      replace hlbB := Lib.hid hlbB
      by_cases hin : i < l.length
      · obtain ⟨x, hx⟩ : ∃ x, l[i]? = some x := ⟨_, List.getElem?_eq_getElem hin⟩
        have hinI : decide ((i : Int) < (l.length : Int)) = true := by simpa using hin
        have hlen := henc x
        have htk : (enc x).take 3 = enc x := List.take_of_length_le (by omega)
        have hcx := hc x (List.mem_of_getElem? hx)
        have hcz := cmpI_zero (key x) t
        repeat' (first | (with_reducible refine And.intro ?_ ?_) | (with_reducible refine gK_i (fun _ => ?_) (fun _ => ?_)) | (with_reducible refine condS_i (fun _ => ?_) (fun _ => ?_)) | (with_reducible refine drw_i (by kernel_rfl)) | simp -dsimp only [go_sem, seval, *, Int.lt_irrefl, hx, hinI, htk, hlen, hcz, vwL_d, tcL_d] | ((with_reducible refine opK_c ?_); simp -dsimp only [go_sem, seval, Int.lt_irrefl, hx, hinI, htk, hlen, hcz, vwL_d, tcL_d]; first | refine callK_r (by first | assumption | exact hcx) (by first | exact .inl rfl | exact .inr rfl) ?_ | (refine callK_i (by assumption) ?_ ?_ ?_; (solve | (repeat (first | exact DLe.refl _ | exact DLe.nil _ | (refine DLe.tup ?_) | (refine DLe.agg ?_ rfl) | exact trivial | (refine And.intro ?_ ?_)))); (solve | exact .inl rfl | exact .inr rfl))) | fail | omega | exact decide_eq_true (by omega) | exact DLe.refl _)
        all_goals rw [hlbB.out, hx, hlb.out]
        all_goals exact DLe.refl _
      · have hinI : decide ((i : Int) < (l.length : Int)) = false := by simpa using hin
        repeat' (first | (with_reducible refine And.intro ?_ ?_) | (with_reducible refine gK_i (fun _ => ?_) (fun _ => ?_)) | (with_reducible refine condS_i (fun _ => ?_) (fun _ => ?_)) | (with_reducible refine drw_i (by kernel_rfl)) | simp -dsimp only [go_sem, seval, *, Int.lt_irrefl, hinI] | ((with_reducible refine opK_c ?_); simp -dsimp only [go_sem, seval, Int.lt_irrefl, hinI]; first | refine callK_r (by first | assumption | fail) (by first | exact .inl rfl | exact .inr rfl) ?_ | (refine callK_i (by assumption) ?_ ?_ ?_; (solve | (repeat (first | exact DLe.refl _ | exact DLe.nil _ | (refine DLe.tup ?_) | (refine DLe.agg ?_ rfl) | exact trivial | (refine And.intro ?_ ?_)))); (solve | exact .inl rfl | exact .inr rfl))) | fail | omega | exact decide_eq_true (by omega) | exact DLe.refl _)
        all_goals rw [hlbB.out, hlb.out, List.getElem?_eq_none (by omega)]
        all_goals exact DLe.refl _
end Go.Proofs.YtgmbhaclogabeaaGreat
namespace Go.Proofs.YtgmbhaclogabeaaGreat
open Go Go.RowKit
def findN (n : Net) (id : Int) : Option Vpc := n.vpcs.find? fun v => v.id == id
def findND (o : Option Vpc) : D := match o with | some v => .tup [.ept (encV v), .v (.bool true)] | none => .tup [.v (.pointer none), .v (.bool false)]
theorem lb_hit {l : List Vpc} {id : Int} (hs : l.Pairwise fun a b => a.id < b.id) {v : Vpc} (hv : l[lbN (fun v : Vpc => v.id) id l]? = some v) (he : v.id = id) : l.find? (fun v => v.id == id) = some v := by
  rw [List.find?_eq_some_iff_getElem]
  obtain ⟨hlt, hg⟩ := List.getElem?_eq_some_iff.1 hv
  refine ⟨by simpa using he, _, hlt, hg, fun j hj => ?_⟩
  have := List.pairwise_iff_getElem.1 hs j _ (by omega) hlt hj
  rw [hg] at this
  simp
  omega
theorem lb_miss {l : List Vpc} {id : Int} (hs : l.Pairwise fun a b => a.id < b.id) (h : lbB (fun v : Vpc => v.id) id l = false) : l.find? (fun v => v.id == id) = none := by
  rw [List.find?_eq_none]
  intro v hv he
  have he2 : v.id = id := by simpa using he
  obtain ⟨j, hj, rfl⟩ := List.mem_iff_getElem.1 hv
  have h1 : lbN (fun v : Vpc => v.id) id l = j := lbN_eq (by omega) (fun q hq hqj => by
    have := List.pairwise_iff_getElem.1 hs q j hq hj hqj
    show l[q].id < id
    omega) (fun q hq hjq => by
    show id ≤ l[q].id
    rcases Nat.lt_or_ge j q with h | h
    · have := List.pairwise_iff_getElem.1 hs j q hj hq h; omega
    · obtain rfl : q = j := by omega
      omega)
  unfold lbB at h
  rw [h1, List.getElem?_eq_getElem hj] at h
  simp [he2] at h
def findNP (o : Option Vpc) : PV := .d (findND o)
set_option maxRecDepth 100000 in
theorem nfindB_m (n : Net) (id : Int) (hl : n.vpcs.length ≤ 1000000000) (hs : n.vpcs.Pairwise fun a b => a.id < b.id) : MSpec Tryz.prog 22 [.ptr 0 0, .d (.v (.int .i64 id))] [.box 25 ((encT n).map .d)] (findNP (findN n id)) [.box 25 ((encT n).map .d)] := by
  have hb := bsrf_Vpc encV_len (fun v : Vpc => v.id) n.vpcs id 46 [] hl hs (fun v _ => find1_p v id)
  unfold findN
  cases hB : lbB (fun v : Vpc => v.id) id n.vpcs with
  | false =>
    rw [lb_miss hs hB]
    rw [hB] at hb
    clear hs
    refine ms_i tab_ok mixed Tryz.func22 rfl Tryz.ntmps22 Tryz.results22 (by kernel_rfl) (by simp) (by simp [belowL, belowP]) (by simp [belowH, belowC, belowL, belowP, belowL_d, belowR_d]) ?_
    repeat' (first | (with_reducible refine And.intro ?_ ?_) | (with_reducible refine gK_i (fun _ => ?_) (fun _ => ?_)) | (with_reducible refine condS_i (fun _ => ?_) (fun _ => ?_)) | (with_reducible refine drw_i (by kernel_rfl)) | simp -dsimp only [go_sem, seval, *, encT, undef] | ((with_reducible refine opK_c ?_); simp -dsimp only [go_sem, seval, encT, undef]; first | refine callK_r (by first | assumption | exact hb) (by first | exact .inl rfl | exact .inr rfl) ?_ | (refine callK_i (by assumption) ?_ ?_ ?_; (solve | (repeat (first | exact DLe.refl _ | exact DLe.nil _ | (refine DLe.tup ?_) | (refine DLe.agg ?_ rfl) | exact trivial | (refine And.intro ?_ ?_)))); (solve | exact .inl rfl | exact .inr rfl))) | fail | omega | exact decide_eq_true (by omega) | exact DLe.refl _)
    all_goals exact weak_eq rfl rfl
  | true =>
    obtain ⟨v, hv, he⟩ : ∃ v, n.vpcs[lbN (fun v : Vpc => v.id) id n.vpcs]? = some v ∧ v.id = id := by
      unfold lbB at hB
      cases hq : n.vpcs[lbN (fun v : Vpc => v.id) id n.vpcs]? with
      | none => rw [hq] at hB; cases hB
      | some v => rw [hq] at hB; exact ⟨v, rfl, by simpa using hB⟩
    rw [lb_hit hs hv he]
    rw [hB] at hb
    clear hs
    replace he := Lib.hid he
    have hlt := (List.getElem?_eq_some_iff.1 hv).1
    generalize lbN (fun v : Vpc => v.id) id n.vpcs = k at *
    refine ms_i tab_ok mixed Tryz.func22 rfl Tryz.ntmps22 Tryz.results22 (by kernel_rfl) (by simp) (by simp [belowL, belowP]) (by simp [belowH, belowC, belowL, belowP, belowL_d, belowR_d]) ?_
    repeat' (first | (with_reducible refine And.intro ?_ ?_) | (with_reducible refine gK_i (fun _ => ?_) (fun _ => ?_)) | (with_reducible refine condS_i (fun _ => ?_) (fun _ => ?_)) | (with_reducible refine drw_i (by kernel_rfl)) | simp -dsimp only [go_sem, seval, *, encT, hv, undef] | ((with_reducible refine opK_c ?_); simp -dsimp only [go_sem, seval, encT, hv, undef]; first | refine callK_r (by first | assumption | exact hb) (by first | exact .inl rfl | exact .inr rfl) ?_ | (refine callK_i (by assumption) ?_ ?_ ?_; (solve | (repeat (first | exact DLe.refl _ | exact DLe.nil _ | (refine DLe.tup ?_) | (refine DLe.agg ?_ rfl) | exact trivial | (refine And.intro ?_ ?_)))); (solve | exact .inl rfl | exact .inr rfl))) | fail | omega | exact decide_eq_true (by omega) | exact DLe.refl _)
    all_goals exact weak_eq rfl rfl
end Go.Proofs.YtgmbhaclogabeaaGreat
namespace Go.Proofs.YtgmbhaclogabeaaGreat
open Go Go.RowKit
theorem head_up {ents : List (List Int × Int)} {a b r : Int} (hb : lkE ents [b] = some b) (hr : r ≠ b) : ∀ {n : Nat} {x : Int}, HeadIs ents n x r → HeadIs (upE ents [b] a) n x r
  | 0, x, h => by
    obtain ⟨h1, rfl⟩ := h
    exact ⟨by rw [lkE_up, if_neg (by simpa using fun e => hr e.symm)]; exact h1, rfl⟩
  | n + 1, x, h => by
    obtain ⟨y, h1, h2, h3⟩ := h
    have hx : b ≠ x := fun e => by subst e; rw [hb] at h1; exact h2 (Option.some.inj h1).symm
    exact ⟨y, by rw [lkE_up, if_neg (by simpa using hx)]; exact h1, h2, head_up hb hr h3⟩
theorem head_up2 {ents : List (List Int × Int)} {a b : Int} (ha : lkE ents [a] = some a) (hb : lkE ents [b] = some b) (hab : a ≠ b) : ∀ {n : Nat} {x : Int}, HeadIs ents n x b → HeadIs (upE ents [b] a) (n + 1) x a
  | 0, x, h => by
    obtain ⟨h1, rfl⟩ := h
    exact ⟨a, by rw [lkE_up, if_pos rfl], hab, by rw [lkE_up, if_neg (by simpa using fun e => hab e.symm)]; exact ha, rfl⟩
  | n + 1, x, h => by
    obtain ⟨y, h1, h2, h3⟩ := h
    have hx : b ≠ x := fun e => by subst e; rw [hb] at h1; exact h2 (Option.some.inj h1).symm
    exact ⟨y, by rw [lkE_up, if_neg (by simpa using hx)]; exact h1, h2, head_up2 ha hb hab h3⟩
theorem head_same {ents : List (List Int × Int)} {b r : Int} (hb : lkE ents [b] = some b) : ∀ {n : Nat} {x : Int}, HeadIs ents n x r → HeadIs (upE ents [b] b) n x r
  | 0, x, h => by
    obtain ⟨h1, rfl⟩ := h
    refine ⟨?_, rfl⟩
    rw [lkE_up]
    split
    · rename_i e; simp at e; rw [e]
    · exact h1
  | n + 1, x, h => by
    obtain ⟨y, h1, h2, h3⟩ := h
    refine ⟨y, ?_, h2, head_same hb h3⟩
    rw [lkE_up, if_neg]
    · exact h1
    · intro e; simp at e; subst e; rw [hb] at h1; exact h2 (Option.some.inj h1).symm
/-- A map of groups, and the heads that it tells. -/
def GrpOK (ids : List Int) (ents : List (List Int × Int)) (F : Int → Int) : Prop := ∀ x ∈ ids, (∃ n, HeadIs ents n x (F x)) ∧ F x ∈ ids ∧ lkE ents [F x] = some (F x)
def stepF (F : Int → Int) (l : Lnk) : Int → Int := fun x => if F x = F l.b then F l.a else F x
def stepG (s : List (List Int × Int) × (Int → Int)) (l : Lnk) : List (List Int × Int) × (Int → Int) := (upE s.1 [s.2 l.b] (s.2 l.a), stepF s.2 l)
theorem grp_step {ids : List Int} {ents : List (List Int × Int)} {F : Int → Int} {l : Lnk} (h : GrpOK ids ents F) (ha : l.a ∈ ids) (hb : l.b ∈ ids) : GrpOK ids (upE ents [F l.b] (F l.a)) (stepF F l) := by
  obtain ⟨-, fa, ra⟩ := h l.a ha
  obtain ⟨-, fb, rb⟩ := h l.b hb
  intro x hx
  obtain ⟨⟨n, hn⟩, fx, rx⟩ := h x hx
  unfold stepF
  by_cases hab : F l.a = F l.b
  · rw [hab]
    by_cases hxb : F x = F l.b
    · rw [if_pos hxb, ← hxb]
      exact ⟨⟨n, head_same rx hn⟩, fx, by rw [lkE_up, if_pos rfl]⟩
    · rw [if_neg hxb]
      exact ⟨⟨n, head_same rb hn⟩, fx, by rw [lkE_up, if_neg (by simpa using fun e => hxb e.symm)]; exact rx⟩
  · by_cases hxb : F x = F l.b
    · rw [if_pos hxb]
      rw [hxb] at hn
      exact ⟨⟨n + 1, head_up2 ra rb hab hn⟩, fa, by rw [lkE_up, if_neg (by simpa using fun e => hab e.symm)]; exact ra⟩
    · rw [if_neg hxb]
      exact ⟨⟨n, head_up rb hxb hn⟩, fx, by rw [lkE_up, if_neg (by simpa using fun e => hxb e.symm)]; exact rx⟩
end Go.Proofs.YtgmbhaclogabeaaGreat
namespace Go.Proofs.YtgmbhaclogabeaaGreat
open Go Go.RowKit
def ents0 (vs : List Vpc) : List (List Int × Int) := vs.foldl (fun e v => upE e [v.id] v.id) []
theorem foldl_snoc {α β : Type} {f : β → α → β} {b : β} {l : List α} {k : Nat} {x : α} (h : l[k]? = some x) : (l.take (k + 1)).foldl f b = f ((l.take k).foldl f b) x := by rw [take_snoc h, List.foldl_append]; rfl
theorem ents0_at (l : List Vpc) (e : List (List Int × Int)) (x : Int) : lkE (l.foldl (fun e v => upE e [v.id] v.id) e) [x] = if x ∈ l.map (·.id) then some x else lkE e [x] := by
  induction l generalizing e with
  | nil => simp
  | cons v l ih =>
    rw [List.foldl_cons, ih, lkE_up]
    by_cases h1 : x ∈ l.map (·.id)
    · rw [if_pos h1, if_pos (by simp only [List.map_cons, List.mem_cons]; exact .inr h1)]
    · rw [if_neg h1]
      by_cases h2 : v.id = x
      · subst h2; simp
      · rw [if_neg (by simpa using h2), if_neg]
        simp only [List.map_cons, List.mem_cons, not_or]
        exact ⟨fun e => h2 e.symm, h1⟩
theorem grp_0 (vs : List Vpc) : GrpOK (vs.map (·.id)) (ents0 vs) (fun x => x) := fun x hx => by
  have := ents0_at vs [] x
  rw [if_pos hx] at this
  exact ⟨⟨0, this, rfl⟩, hx, this⟩
def stN (n : Net) : List (List Int × Int) × (Int → Int) := n.links.foldl stepG (ents0 n.vpcs, fun x => x)
theorem grp_k {n : Net} (hl : ∀ l ∈ n.links, l.a ∈ n.vpcs.map (·.id) ∧ l.b ∈ n.vpcs.map (·.id)) (k : Nat) : GrpOK (n.vpcs.map (·.id)) ((n.links.take k).foldl stepG (ents0 n.vpcs, fun x => x)).1 ((n.links.take k).foldl stepG (ents0 n.vpcs, fun x => x)).2 := by
  induction k with
  | zero => exact grp_0 n.vpcs
  | succ k ih =>
    by_cases hk : k < n.links.length
    · have hx := List.getElem?_eq_getElem hk
      rw [foldl_snoc hx]
      have := hl _ (List.getElem_mem hk)
      exact grp_step ih this.1 this.2
    · rw [List.take_of_length_le (by omega)] at ih ⊢
      exact ih
end Go.Proofs.YtgmbhaclogabeaaGreat
namespace Go.Proofs.YtgmbhaclogabeaaGreat
open Go Go.RowKit
set_option maxRecDepth 100000 in
set_option maxHeartbeats 1000000 in
theorem of_m (n : Net) (h1 : n.vpcs.length ≤ 1000000000) (h2 : n.links.length ≤ 1000000000) (hl : ∀ l ∈ n.links, l.a ∈ n.vpcs.map (·.id) ∧ l.b ∈ n.vpcs.map (·.id)) :
    MSpec Tryz.prog 23 [.d (.ept (encT n))] [] (.mref 0) [.mp 1 false (stN n).1] := by
  have hg := Lib.hid (grp_k hl)
  replace hl := Lib.hid hl
  refine ms_i tab_ok mixed Tryz.func23 rfl Tryz.ntmps23 Tryz.results23 (by kernel_rfl) (by simp) (by simp [belowL, belowP]) (by simp [belowH, belowC, belowL, belowP, belowL_d, belowR_d]) ?_
  repeat' (first | (with_reducible refine And.intro ?_ ?_) | (with_reducible refine gK_i (fun _ => ?_) (fun _ => ?_)) | (with_reducible refine condS_i (fun _ => ?_) (fun _ => ?_)) | (with_reducible refine drw_i (by kernel_rfl)) | simp -dsimp only [go_sem, seval, *, encT] | ((with_reducible refine opK_c ?_); simp -dsimp only [go_sem, seval, encT]; first | refine callK_r (by first | assumption | fail) (by first | exact .inl rfl | exact .inr rfl) ?_ | (refine callK_i (by assumption) ?_ ?_ ?_; (solve | (repeat (first | exact DLe.refl _ | exact DLe.nil _ | (refine DLe.tup ?_) | (refine DLe.agg ?_ rfl) | exact trivial | (refine And.intro ?_ ?_)))); (solve | exact .inl rfl | exact .inr rfl))) | fail | omega | exact decide_eq_true (by omega) | exact DLe.refl _)
  refine loopL tab_ok mixed n.vpcs (fun _ => True) (fun k => [(14, .d (.v (.int .i64 k))), (13, .d (.v (.int .i64 n.vpcs.length))), (12, .d (.sl 3 (n.vpcs.map encV))), (3, .mref 0), (0, .d (.ept (encT n)))]) (fun k => [.mp 1 false (ents0 (n.vpcs.take k))]) trivial (weak_forget _ (by simp) (by (try simp only [encT]); rfl) (by (repeat' (first | exact trivial | (refine ⟨rfl, ?_⟩)))) (by first | rfl | simp only [belowH, belowE, belowC, belowL, belowR, belowP, belowL_d, belowR_d, List.length_cons, List.length_nil, Nat.reduceAdd, Nat.reduceLT, decide_true, Bool.and_self, Bool.and_true]) (by first | rfl | simp only [belowH, belowE, belowC, belowL, belowR, belowP, belowL_d, belowR_d, List.length_cons, List.length_nil, Nat.reduceAdd, Nat.reduceLT, decide_true, Bool.and_self, Bool.and_true])) ?_ ?_
  · intro k v hv hk _ C hC
    have hkI : (k : Int) < (n.vpcs.length : Int) := by omega
    have hwr : IntKind.i64.wrap ((k : Int) + 1) = ((k + 1 : Nat) : Int) := by rw [IntKind.wrap_i64]; omega
    have hs : ents0 (n.vpcs.take (k + 1)) = upE (ents0 (n.vpcs.take k)) [v.id] v.id := foldl_snoc hv
    replace hs := Lib.hid hs
    repeat' (first | (with_reducible refine And.intro ?_ ?_) | (with_reducible refine gK_i (fun _ => ?_) (fun _ => ?_)) | (with_reducible refine condS_i (fun _ => ?_) (fun _ => ?_)) | (with_reducible refine drw_i (by kernel_rfl)) | simp -dsimp only [go_sem, seval, *, encT, encV, hkI, hwr, hv, undef] | ((with_reducible refine opK_c ?_); simp -dsimp only [go_sem, seval, encT, encV, hkI, hwr, hv, undef]; first | refine callK_r (by first | assumption | fail) (by first | exact .inl rfl | exact .inr rfl) ?_ | (refine callK_i (by assumption) ?_ ?_ ?_; (solve | (repeat (first | exact DLe.refl _ | exact DLe.nil _ | (refine DLe.tup ?_) | (refine DLe.agg ?_ rfl) | exact trivial | (refine And.intro ?_ ?_)))); (solve | exact .inl rfl | exact .inr rfl))) | fail | omega | exact decide_eq_true (by omega) | exact DLe.refl _)
    exact hC _ _ trivial (weak_forget _ (by simp) (by rw [hs.out]; rfl) (by (repeat' (first | exact trivial | (refine ⟨rfl, ?_⟩)))) (by first | rfl | simp only [belowH, belowE, belowC, belowL, belowR, belowP, belowL_d, belowR_d, List.length_cons, List.length_nil, Nat.reduceAdd, Nat.reduceLT, decide_true, Bool.and_self, Bool.and_true]) (by first | rfl | simp only [belowH, belowE, belowC, belowL, belowR, belowP, belowL_d, belowR_d, List.length_cons, List.length_nil, Nat.reduceAdd, Nat.reduceLT, decide_true, Bool.and_self, Bool.and_true]))
  · intro _ C
    rw [List.take_length]
    repeat' (first | (with_reducible refine And.intro ?_ ?_) | (with_reducible refine gK_i (fun _ => ?_) (fun _ => ?_)) | (with_reducible refine condS_i (fun _ => ?_) (fun _ => ?_)) | (with_reducible refine drw_i (by kernel_rfl)) | simp -dsimp only [go_sem, seval, *, encT, Int.lt_irrefl, undef] | ((with_reducible refine opK_c ?_); simp -dsimp only [go_sem, seval, encT, Int.lt_irrefl, undef]; first | refine callK_r (by first | assumption | fail) (by first | exact .inl rfl | exact .inr rfl) ?_ | (refine callK_i (by assumption) ?_ ?_ ?_; (solve | (repeat (first | exact DLe.refl _ | exact DLe.nil _ | (refine DLe.tup ?_) | (refine DLe.agg ?_ rfl) | exact trivial | (refine And.intro ?_ ?_)))); (solve | exact .inl rfl | exact .inr rfl))) | fail | omega | exact decide_eq_true (by omega) | exact DLe.refl _)
    refine loopL tab_ok mixed n.links (fun _ => True) (fun k => [(29, .d (.v (.int .i64 k))), (28, .d (.v (.int .i64 n.links.length))), (27, .d (.sl 2 (n.links.map encK))), (3, .mref 0)]) (fun k => [.mp 1 false ((n.links.take k).foldl stepG (ents0 n.vpcs, fun x => x)).1]) trivial (weak_forget _ (by simp) (by (try simp only [encT]); rfl) (by (repeat' (first | exact trivial | (refine ⟨rfl, ?_⟩)))) (by first | rfl | simp only [belowH, belowE, belowC, belowL, belowR, belowP, belowL_d, belowR_d, List.length_cons, List.length_nil, Nat.reduceAdd, Nat.reduceLT, decide_true, Bool.and_self, Bool.and_true]) (by first | rfl | simp only [belowH, belowE, belowC, belowL, belowR, belowP, belowL_d, belowR_d, List.length_cons, List.length_nil, Nat.reduceAdd, Nat.reduceLT, decide_true, Bool.and_self, Bool.and_true])) ?_ ?_
    · intro k l hlk hk _ C hC
      have hkI : (k : Int) < (n.links.length : Int) := by omega
      have hwr : IntKind.i64.wrap ((k : Int) + 1) = ((k + 1 : Nat) : Int) := by rw [IntKind.wrap_i64]; omega
      have hs : ((n.links.take (k + 1)).foldl stepG (ents0 n.vpcs, fun x => x)).1 = upE ((n.links.take k).foldl stepG (ents0 n.vpcs, fun x => x)).1 [((n.links.take k).foldl stepG (ents0 n.vpcs, fun x => x)).2 l.b] (((n.links.take k).foldl stepG (ents0 n.vpcs, fun x => x)).2 l.a) := by rw [foldl_snoc hlk]; rfl
      have hm := hl.out l (List.mem_of_getElem? hlk)
      obtain ⟨⟨na, ha⟩, -, -⟩ := hg.out k l.a hm.1
      obtain ⟨⟨nb, hb⟩, -, -⟩ := hg.out k l.b hm.2
      generalize (n.links.take k).foldl stepG (ents0 n.vpcs, fun x => x) = S at *
      have hma := head_m S.1 na l.a (S.2 l.a) ha
      have hmb := head_m S.1 nb l.b (S.2 l.b) hb
      clear ha hb hm
      replace hs := Lib.hid hs
      repeat' (first | (with_reducible refine And.intro ?_ ?_) | (with_reducible refine gK_i (fun _ => ?_) (fun _ => ?_)) | (with_reducible refine condS_i (fun _ => ?_) (fun _ => ?_)) | (with_reducible refine drw_i (by kernel_rfl)) | simp -dsimp only [go_sem, seval, *, encT, encK, hkI, hwr, hlk, undef] | ((with_reducible refine opK_c ?_); simp -dsimp only [go_sem, seval, encT, encK, hkI, hwr, hlk, undef]; first | refine callK_r (by first | assumption | fail) (by first | exact .inl rfl | exact .inr rfl) ?_ | (refine callK_i (by assumption) ?_ ?_ ?_; (solve | (repeat (first | exact DLe.refl _ | exact DLe.nil _ | (refine DLe.tup ?_) | (refine DLe.agg ?_ rfl) | exact trivial | (refine And.intro ?_ ?_)))); (solve | exact .inl rfl | exact .inr rfl))) | (refine opK_M [0] (hmb) ?_ ?_ ?_ ?_ ?_ ?_; (solve | rfl | simp only [go_sem, seval, encK]); (solve | rfl); (solve | decide); (solve | simp); (solve | simp only [go_sem, seval, lentOK, encK])) | (refine opK_M [0] (hma) ?_ ?_ ?_ ?_ ?_ ?_; (solve | rfl | simp only [go_sem, seval, encK]); (solve | rfl); (solve | decide); (solve | simp); (solve | simp only [go_sem, seval, lentOK, encK])) | omega | exact decide_eq_true (by omega) | exact DLe.refl _)
      exact hC _ _ trivial (weak_forget _ (by simp) (by rw [hs.out]; rfl) (by (repeat' (first | exact trivial | (refine ⟨rfl, ?_⟩)))) (by first | rfl | simp only [belowH, belowE, belowC, belowL, belowR, belowP, belowL_d, belowR_d, List.length_cons, List.length_nil, Nat.reduceAdd, Nat.reduceLT, decide_true, Bool.and_self, Bool.and_true]) (by first | rfl | simp only [belowH, belowE, belowC, belowL, belowR, belowP, belowL_d, belowR_d, List.length_cons, List.length_nil, Nat.reduceAdd, Nat.reduceLT, decide_true, Bool.and_self, Bool.and_true]))
    · intro _ C
      rw [List.take_length]
      repeat' (first | (with_reducible refine And.intro ?_ ?_) | (with_reducible refine gK_i (fun _ => ?_) (fun _ => ?_)) | (with_reducible refine condS_i (fun _ => ?_) (fun _ => ?_)) | (with_reducible refine drw_i (by kernel_rfl)) | simp -dsimp only [go_sem, seval, *, encT, Int.lt_irrefl, undef] | ((with_reducible refine opK_c ?_); simp -dsimp only [go_sem, seval, encT, Int.lt_irrefl, undef]; first | refine callK_r (by first | assumption | fail) (by first | exact .inl rfl | exact .inr rfl) ?_ | (refine callK_i (by assumption) ?_ ?_ ?_; (solve | (repeat (first | exact DLe.refl _ | exact DLe.nil _ | (refine DLe.tup ?_) | (refine DLe.agg ?_ rfl) | exact trivial | (refine And.intro ?_ ?_)))); (solve | exact .inl rfl | exact .inr rfl))) | fail | omega | exact decide_eq_true (by omega) | exact DLe.refl _)
      all_goals exact weak_eq rfl rfl
set_option maxRecDepth 100000 in
set_option maxHeartbeats 1000000 in
theorem ofB_m (n : Net) (h1 : n.vpcs.length ≤ 1000000000) (h2 : n.links.length ≤ 1000000000) (hl : ∀ l ∈ n.links, l.a ∈ n.vpcs.map (·.id) ∧ l.b ∈ n.vpcs.map (·.id)) :
    MSpec Tryz.prog 23 [.ptr 0 0] [.box 25 ((encT n).map .d)] (.mref 1) [.box 25 ((encT n).map .d),.mp 1 false (stN n).1] := by
  have hg := Lib.hid (grp_k hl)
  replace hl := Lib.hid hl
  refine ms_i tab_ok mixed Tryz.func23 rfl Tryz.ntmps23 Tryz.results23 (by kernel_rfl) (by simp) (by simp [belowL, belowP]) (by simp [belowH, belowC, belowL, belowP, belowL_d, belowR_d]) ?_
  repeat' (first | (with_reducible refine And.intro ?_ ?_) | (with_reducible refine gK_i (fun _ => ?_) (fun _ => ?_)) | (with_reducible refine condS_i (fun _ => ?_) (fun _ => ?_)) | (with_reducible refine drw_i (by kernel_rfl)) | simp -dsimp only [go_sem, seval, *, encT] | ((with_reducible refine opK_c ?_); simp -dsimp only [go_sem, seval, encT]; first | refine callK_r (by first | assumption | fail) (by first | exact .inl rfl | exact .inr rfl) ?_ | (refine callK_i (by assumption) ?_ ?_ ?_; (solve | (repeat (first | exact DLe.refl _ | exact DLe.nil _ | (refine DLe.tup ?_) | (refine DLe.agg ?_ rfl) | exact trivial | (refine And.intro ?_ ?_)))); (solve | exact .inl rfl | exact .inr rfl))) | fail | omega | exact decide_eq_true (by omega) | exact DLe.refl _)
  refine loopL tab_ok mixed n.vpcs (fun _ => True) (fun k => [(14, .d (.v (.int .i64 k))), (13, .d (.v (.int .i64 n.vpcs.length))), (12, .d (.sl 3 (n.vpcs.map encV))), (3, .mref 1), (0, .ptr 0 0)]) (fun k => [.box 25 ((encT n).map .d),.mp 1 false (ents0 (n.vpcs.take k))]) trivial (weak_forget _ (by simp) (by (try simp only [encT]); rfl) (by (repeat' (first | exact trivial | (refine ⟨rfl, ?_⟩)))) (by first | rfl | simp only [belowH, belowE, belowC, belowL, belowR, belowP, belowL_d, belowR_d, List.length_cons, List.length_nil, Nat.reduceAdd, Nat.reduceLT, decide_true, Bool.and_self, Bool.and_true]) (by first | rfl | simp only [belowH, belowE, belowC, belowL, belowR, belowP, belowL_d, belowR_d, List.length_cons, List.length_nil, Nat.reduceAdd, Nat.reduceLT, decide_true, Bool.and_self, Bool.and_true])) ?_ ?_
  · intro k v hv hk _ C hC
    have hkI : (k : Int) < (n.vpcs.length : Int) := by omega
    have hwr : IntKind.i64.wrap ((k : Int) + 1) = ((k + 1 : Nat) : Int) := by rw [IntKind.wrap_i64]; omega
    have hs : ents0 (n.vpcs.take (k + 1)) = upE (ents0 (n.vpcs.take k)) [v.id] v.id := foldl_snoc hv
    replace hs := Lib.hid hs
    repeat' (first | (with_reducible refine And.intro ?_ ?_) | (with_reducible refine gK_i (fun _ => ?_) (fun _ => ?_)) | (with_reducible refine condS_i (fun _ => ?_) (fun _ => ?_)) | (with_reducible refine drw_i (by kernel_rfl)) | simp -dsimp only [go_sem, seval, *, encT, encV, hkI, hwr, hv, undef] | ((with_reducible refine opK_c ?_); simp -dsimp only [go_sem, seval, encT, encV, hkI, hwr, hv, undef]; first | refine callK_r (by first | assumption | fail) (by first | exact .inl rfl | exact .inr rfl) ?_ | (refine callK_i (by assumption) ?_ ?_ ?_; (solve | (repeat (first | exact DLe.refl _ | exact DLe.nil _ | (refine DLe.tup ?_) | (refine DLe.agg ?_ rfl) | exact trivial | (refine And.intro ?_ ?_)))); (solve | exact .inl rfl | exact .inr rfl))) | fail | omega | exact decide_eq_true (by omega) | exact DLe.refl _)
    exact hC _ _ trivial (weak_forget _ (by simp) (by rw [hs.out]; rfl) (by (repeat' (first | exact trivial | (refine ⟨rfl, ?_⟩)))) (by first | rfl | simp only [belowH, belowE, belowC, belowL, belowR, belowP, belowL_d, belowR_d, List.length_cons, List.length_nil, Nat.reduceAdd, Nat.reduceLT, decide_true, Bool.and_self, Bool.and_true]) (by first | rfl | simp only [belowH, belowE, belowC, belowL, belowR, belowP, belowL_d, belowR_d, List.length_cons, List.length_nil, Nat.reduceAdd, Nat.reduceLT, decide_true, Bool.and_self, Bool.and_true]))
  · intro _ C
    rw [List.take_length]
    repeat' (first | (with_reducible refine And.intro ?_ ?_) | (with_reducible refine gK_i (fun _ => ?_) (fun _ => ?_)) | (with_reducible refine condS_i (fun _ => ?_) (fun _ => ?_)) | (with_reducible refine drw_i (by kernel_rfl)) | simp -dsimp only [go_sem, seval, *, encT, Int.lt_irrefl, undef] | ((with_reducible refine opK_c ?_); simp -dsimp only [go_sem, seval, encT, Int.lt_irrefl, undef]; first | refine callK_r (by first | assumption | fail) (by first | exact .inl rfl | exact .inr rfl) ?_ | (refine callK_i (by assumption) ?_ ?_ ?_; (solve | (repeat (first | exact DLe.refl _ | exact DLe.nil _ | (refine DLe.tup ?_) | (refine DLe.agg ?_ rfl) | exact trivial | (refine And.intro ?_ ?_)))); (solve | exact .inl rfl | exact .inr rfl))) | fail | omega | exact decide_eq_true (by omega) | exact DLe.refl _)
    refine loopL tab_ok mixed n.links (fun _ => True) (fun k => [(29, .d (.v (.int .i64 k))), (28, .d (.v (.int .i64 n.links.length))), (27, .d (.sl 2 (n.links.map encK))), (3, .mref 1)]) (fun k => [.box 25 ((encT n).map .d),.mp 1 false ((n.links.take k).foldl stepG (ents0 n.vpcs, fun x => x)).1]) trivial (weak_forget _ (by simp) (by (try simp only [encT]); rfl) (by (repeat' (first | exact trivial | (refine ⟨rfl, ?_⟩)))) (by first | rfl | simp only [belowH, belowE, belowC, belowL, belowR, belowP, belowL_d, belowR_d, List.length_cons, List.length_nil, Nat.reduceAdd, Nat.reduceLT, decide_true, Bool.and_self, Bool.and_true]) (by first | rfl | simp only [belowH, belowE, belowC, belowL, belowR, belowP, belowL_d, belowR_d, List.length_cons, List.length_nil, Nat.reduceAdd, Nat.reduceLT, decide_true, Bool.and_self, Bool.and_true])) ?_ ?_
    · intro k l hlk hk _ C hC
      have hkI : (k : Int) < (n.links.length : Int) := by omega
      have hwr : IntKind.i64.wrap ((k : Int) + 1) = ((k + 1 : Nat) : Int) := by rw [IntKind.wrap_i64]; omega
      have hs : ((n.links.take (k + 1)).foldl stepG (ents0 n.vpcs, fun x => x)).1 = upE ((n.links.take k).foldl stepG (ents0 n.vpcs, fun x => x)).1 [((n.links.take k).foldl stepG (ents0 n.vpcs, fun x => x)).2 l.b] (((n.links.take k).foldl stepG (ents0 n.vpcs, fun x => x)).2 l.a) := by rw [foldl_snoc hlk]; rfl
      have hm := hl.out l (List.mem_of_getElem? hlk)
      obtain ⟨⟨na, ha⟩, -, -⟩ := hg.out k l.a hm.1
      obtain ⟨⟨nb, hb⟩, -, -⟩ := hg.out k l.b hm.2
      generalize (n.links.take k).foldl stepG (ents0 n.vpcs, fun x => x) = S at *
      have hma := head_m S.1 na l.a (S.2 l.a) ha
      have hmb := head_m S.1 nb l.b (S.2 l.b) hb
      clear ha hb hm
      replace hs := Lib.hid hs
      repeat' (first | (with_reducible refine And.intro ?_ ?_) | (with_reducible refine gK_i (fun _ => ?_) (fun _ => ?_)) | (with_reducible refine condS_i (fun _ => ?_) (fun _ => ?_)) | (with_reducible refine drw_i (by kernel_rfl)) | simp -dsimp only [go_sem, seval, *, encT, encK, hkI, hwr, hlk, undef] | ((with_reducible refine opK_c ?_); simp -dsimp only [go_sem, seval, encT, encK, hkI, hwr, hlk, undef]; first | refine callK_r (by first | assumption | fail) (by first | exact .inl rfl | exact .inr rfl) ?_ | (refine callK_i (by assumption) ?_ ?_ ?_; (solve | (repeat (first | exact DLe.refl _ | exact DLe.nil _ | (refine DLe.tup ?_) | (refine DLe.agg ?_ rfl) | exact trivial | (refine And.intro ?_ ?_)))); (solve | exact .inl rfl | exact .inr rfl))) | (refine opK_M [1] (hmb) ?_ ?_ ?_ ?_ ?_ ?_; (solve | rfl | simp only [go_sem, seval, encK]); (solve | rfl); (solve | decide); (solve | simp); (solve | simp only [go_sem, seval, lentOK, encK])) | (refine opK_M [1] (hma) ?_ ?_ ?_ ?_ ?_ ?_; (solve | rfl | simp only [go_sem, seval, encK]); (solve | rfl); (solve | decide); (solve | simp); (solve | simp only [go_sem, seval, lentOK, encK])) | omega | exact decide_eq_true (by omega) | exact DLe.refl _)
      exact hC _ _ trivial (weak_forget _ (by simp) (by rw [hs.out]; rfl) (by (repeat' (first | exact trivial | (refine ⟨rfl, ?_⟩)))) (by first | rfl | simp only [belowH, belowE, belowC, belowL, belowR, belowP, belowL_d, belowR_d, List.length_cons, List.length_nil, Nat.reduceAdd, Nat.reduceLT, decide_true, Bool.and_self, Bool.and_true]) (by first | rfl | simp only [belowH, belowE, belowC, belowL, belowR, belowP, belowL_d, belowR_d, List.length_cons, List.length_nil, Nat.reduceAdd, Nat.reduceLT, decide_true, Bool.and_self, Bool.and_true]))
    · intro _ C
      rw [List.take_length]
      repeat' (first | (with_reducible refine And.intro ?_ ?_) | (with_reducible refine gK_i (fun _ => ?_) (fun _ => ?_)) | (with_reducible refine condS_i (fun _ => ?_) (fun _ => ?_)) | (with_reducible refine drw_i (by kernel_rfl)) | simp -dsimp only [go_sem, seval, *, encT, Int.lt_irrefl, undef] | ((with_reducible refine opK_c ?_); simp -dsimp only [go_sem, seval, encT, Int.lt_irrefl, undef]; first | refine callK_r (by first | assumption | fail) (by first | exact .inl rfl | exact .inr rfl) ?_ | (refine callK_i (by assumption) ?_ ?_ ?_; (solve | (repeat (first | exact DLe.refl _ | exact DLe.nil _ | (refine DLe.tup ?_) | (refine DLe.agg ?_ rfl) | exact trivial | (refine And.intro ?_ ?_)))); (solve | exact .inl rfl | exact .inr rfl))) | fail | omega | exact decide_eq_true (by omega) | exact DLe.refl _)
      all_goals exact weak_eq rfl rfl
end Go.Proofs.YtgmbhaclogabeaaGreat
namespace Go.Proofs.YtgmbhaclogabeaaGreat
open Go Go.RowKit
def headN (n : Net) : Int → Int := (stN n).2
/-- Two networks of one group that clash. -/
def foeN (n : Net) (v w : Vpc) : Bool := (headN n v.id == headN n w.id) && clashV v w
/-- Is there peace in a net? -/
def peaceN (n : Net) : Bool := (List.range n.vpcs.length).all fun k => match n.vpcs[k]? with | some v => (n.vpcs.take k).all fun w => !foeN n v w | none => true
theorem peace_bad {n : Net} {i j : Nat} {v w : Vpc} (hij : j < i) (hv : n.vpcs[i]? = some v) (hw : n.vpcs[j]? = some w) (h : foeN n v w = true) : peaceN n = false := by
  unfold peaceN
  rw [List.all_eq_false]
  refine ⟨i, List.mem_range.2 (List.getElem?_eq_some_iff.1 hv).1, ?_⟩
  rw [hv]
  simp only [Bool.not_eq_true, List.all_eq_false]
  exact ⟨w, List.mem_of_getElem? (i := j) (by rw [List.getElem?_take_of_lt hij]; exact hw), by rw [h]; simp⟩
theorem peace_good {n : Net} (h : ∀ (i : Nat) (v w : Vpc), n.vpcs[i]? = some v → w ∈ n.vpcs.take i → foeN n v w = false) : peaceN n = true := by
  unfold peaceN
  rw [List.all_eq_true]
  intro i hi
  have hl := List.mem_range.1 hi
  rw [List.getElem?_eq_getElem hl]
  simp only [List.all_eq_true]
  intro w hw
  rw [h i _ w (List.getElem?_eq_getElem hl) hw]; rfl
end Go.Proofs.YtgmbhaclogabeaaGreat
namespace Go.Proofs.YtgmbhaclogabeaaGreat
open Go Go.RowKit
set_option maxRecDepth 100000 in
set_option maxHeartbeats 1000000 in
theorem peace_p (n : Net) (h1 : n.vpcs.length ≤ 1000000000) (h2 : n.links.length ≤ 1000000000) (hr : ∀ v ∈ n.vpcs, v.ranges.length ≤ 1000000000) (hl : ∀ l ∈ n.links, l.a ∈ n.vpcs.map (·.id) ∧ l.b ∈ n.vpcs.map (·.id)) :
    PSpec Tryz.prog 30 [.ept (encT n)] (.v (.bool (peaceN n))) := by
  have hof := of_m n h1 h2 hl
  have hg : ∀ x ∈ n.vpcs.map (·.id), ∃ k, HeadIs (stN n).1 k x (headN n x) := fun x hx => by
    have := (grp_k hl n.links.length x (by exact hx)).1
    rwa [List.take_length] at this
  replace hg := Lib.hid hg
  replace hr := Lib.hid hr
  clear hl
  obtain ⟨R, hR⟩ : ∃ R, R = peaceN n := ⟨_, rfl⟩
  rw [← hR]
  replace hR := Lib.hid hR
  generalize (stN n).1 = E at *
  refine ps_i tab_ok mixed Tryz.func30 rfl Tryz.ntmps30 Tryz.results30 (by kernel_rfl) ?_
  repeat' (first | (with_reducible refine And.intro ?_ ?_) | (with_reducible refine gK_i (fun _ => ?_) (fun _ => ?_)) | (with_reducible refine condS_i (fun _ => ?_) (fun _ => ?_)) | (with_reducible refine drw_i (by kernel_rfl)) | simp -dsimp only [go_sem, seval, *, encT] | ((with_reducible refine opK_c ?_); simp -dsimp only [go_sem, seval, encT]; first | refine callK_r (by first | assumption | fail) (by first | exact .inl rfl | exact .inr rfl) ?_ | (refine callK_i (by assumption) ?_ ?_ ?_; (solve | (repeat (first | exact DLe.refl _ | exact DLe.nil _ | (refine DLe.tup ?_) | (refine DLe.agg ?_ rfl) | exact trivial | (refine And.intro ?_ ?_)))); (solve | exact .inl rfl | exact .inr rfl))) | (refine opK_M [] (hof) ?_ ?_ ?_ ?_ ?_ ?_; (solve | rfl | simp only [go_sem, seval, encT]); (solve | rfl); (solve | decide); (solve | simp); (solve | simp only [go_sem, seval, lentOK, encT])) | omega | exact decide_eq_true (by omega) | exact DLe.refl _)
  clear hof
  refine loopL tab_ok mixed n.vpcs (fun k => ∀ (i : Nat) (v w : Vpc), i < k → n.vpcs[i]? = some v → w ∈ n.vpcs.take i → foeN n v w = false) (fun k => [(15, .d (.v (.int .i64 k))), (14, .d (.v (.int .i64 n.vpcs.length))), (13, .d (.sl 3 (n.vpcs.map encV))), (3, .mref 0), (2, .d (.v (.bool false))), (0, .d (.ept (encT n)))]) (fun _ => [.mp 1 false E]) (fun i v w h => absurd h (Nat.not_lt_zero _)) (weak_forget _ (by simp) (by (try simp only [encT]); rfl) (by (repeat' (first | exact trivial | (refine ⟨rfl, ?_⟩)))) (by first | rfl | simp only [belowH, belowE, belowC, belowL, belowR, belowP, belowL_d, belowR_d, List.length_cons, List.length_nil, Nat.reduceAdd, Nat.reduceLT, decide_true, Bool.and_self, Bool.and_true]) (by first | rfl | simp only [belowH, belowE, belowC, belowL, belowR, belowP, belowL_d, belowR_d, List.length_cons, List.length_nil, Nat.reduceAdd, Nat.reduceLT, decide_true, Bool.and_self, Bool.and_true])) ?_ ?_
  · intro k v hv hk hI C hC
    have hkI : (k : Int) < (n.vpcs.length : Int) := by omega
    have hwr : IntKind.i64.wrap ((k : Int) + 1) = ((k + 1 : Nat) : Int) := by rw [IntKind.wrap_i64]; omega
    have hkl : k ≤ n.vpcs.length := by omega
    have hvm := List.mem_of_getElem? hv
    have hrv := hr.out v hvm
    obtain ⟨nv, hhv⟩ := hg.out v.id (List.mem_map.2 ⟨v, hvm, rfl⟩)
    have hmv := head_m E nv v.id (headN n v.id) hhv
    have hlt : (n.vpcs.take k).length = k := by rw [List.length_take]; omega
    have hlt2 : ((n.vpcs.map encV).take k).length = k := by rw [← List.map_take, List.length_map]; exact hlt
    clear hhv
    replace hI := Lib.hid hI
    repeat' (first | (with_reducible refine And.intro ?_ ?_) | (with_reducible refine gK_i (fun _ => ?_) (fun _ => ?_)) | (with_reducible refine condS_i (fun _ => ?_) (fun _ => ?_)) | (with_reducible refine drw_i (by kernel_rfl)) | simp -dsimp only [go_sem, seval, *, encT, encV, hkI, hv, hkl, hlt2, undef] | ((with_reducible refine opK_c ?_); simp -dsimp only [go_sem, seval, encT, encV, hkI, hv, hkl, hlt2, undef]; first | refine callK_r (by first | assumption | fail) (by first | exact .inl rfl | exact .inr rfl) ?_ | (refine callK_i (by assumption) ?_ ?_ ?_; (solve | (repeat (first | exact DLe.refl _ | exact DLe.nil _ | (refine DLe.tup ?_) | (refine DLe.agg ?_ rfl) | exact trivial | (refine And.intro ?_ ?_)))); (solve | exact .inl rfl | exact .inr rfl))) | fail | omega | exact decide_eq_true (by omega) | exact DLe.refl _)
    refine loopL tab_ok mixed (n.vpcs.take k) (fun j => ∀ w ∈ (n.vpcs.take k).take j, foeN n v w = false) (fun j => [(27, .d (.v (.int .i64 j))), (26, .d (.v (.int .i64 k))), (25, .d (.sl 3 ((n.vpcs.map encV).take k))), (5, .ptr 1 0), (15, .d (.v (.int .i64 k))), (14, .d (.v (.int .i64 n.vpcs.length))), (13, .d (.sl 3 (n.vpcs.map encV))), (3, .mref 0), (2, .d (.v (.bool false))), (0, .d (.ept (encT n)))]) (fun _ => [.mp 1 false E, .box 56 ((encV v).map .d)]) (fun w hw => by simp at hw) (weak_forget _ (by simp) (by (try simp only [encT, encV]); rfl) (by (repeat' (first | exact trivial | (refine ⟨rfl, ?_⟩)))) (by first | rfl | simp only [belowH, belowE, belowC, belowL, belowR, belowP, belowL_d, belowR_d, List.length_cons, List.length_nil, Nat.reduceAdd, Nat.reduceLT, decide_true, Bool.and_self, Bool.and_true]) (by first | rfl | simp only [belowH, belowE, belowC, belowL, belowR, belowP, belowL_d, belowR_d, List.length_cons, List.length_nil, Nat.reduceAdd, Nat.reduceLT, decide_true, Bool.and_self, Bool.and_true])) ?_ ?_
    · intro j w hw hj hJ C2 hC2
      have hjI : (j : Int) < (k : Int) := by omega
      have hw3 : ((n.vpcs.map encV).take k)[j]? = some (encV w) := by rw [← List.map_take, List.getElem?_map, hw]; rfl
      have hwj : IntKind.i64.wrap ((j : Int) + 1) = ((j + 1 : Nat) : Int) := by rw [IntKind.wrap_i64]; omega
      have hjk : j < k := by omega
      have hw2 : n.vpcs[j]? = some w := by rw [List.getElem?_take_of_lt hjk] at hw; exact hw
      have hwm := List.mem_of_getElem? hw2
      have hrw := hr.out w hwm
      obtain ⟨nw, hhw⟩ := hg.out w.id (List.mem_map.2 ⟨w, hwm, rfl⟩)
      have hmw := head_m E nw w.id (headN n w.id) hhw
      have hcl := clash_p v w hrv hrw
      have hbad : foeN n v w = true → R = false := fun h => by rw [hR.out]; exact peace_bad hjk hv hw2 h
      have hstep : foeN n v w = false → ∀ u ∈ (n.vpcs.take k).take (j + 1), foeN n v u = false := fun h u hu => by
        rw [take_snoc hw] at hu
        rcases List.mem_append.1 hu with hu | hu
        · exact hJ u hu
        · rw [List.mem_singleton.1 hu]; exact h
      have hfd : foeN n v w = ((headN n v.id == headN n w.id) && clashV v w) := rfl
      clear hhw hlt hlt2
      replace hbad := Lib.hid hbad
      replace hstep := Lib.hid hstep
      replace hfd := Lib.hid hfd
      replace hJ := Lib.hid hJ
      replace hw := Lib.hid hw
      generalize (n.vpcs.map encV).take k = L at *
      cases e1 : (headN n v.id == headN n w.id) with
      | false =>
        have hf := Lib.hid (hstep.out (by rw [hfd.out, e1]; rfl))
        repeat' (first | (with_reducible refine And.intro ?_ ?_) | (with_reducible refine gK_i (fun _ => ?_) (fun _ => ?_)) | (with_reducible refine condS_i (fun _ => ?_) (fun _ => ?_)) | (with_reducible refine drw_i (by kernel_rfl)) | simp -dsimp only [go_sem, seval, *, encV, hjI, hwj, hw3, e1, undef] | ((with_reducible refine opK_c ?_); simp -dsimp only [go_sem, seval, encV, hjI, hwj, hw3, e1, undef]; first | refine callK_r (by first | assumption | fail) (by first | exact .inl rfl | exact .inr rfl) ?_ | (refine callK_i (by assumption) ?_ ?_ ?_; (solve | (repeat (first | exact DLe.refl _ | exact DLe.nil _ | (refine DLe.tup ?_) | (refine DLe.agg ?_ rfl) | exact trivial | (refine And.intro ?_ ?_)))); (solve | exact .inl rfl | exact .inr rfl))) | (refine opK_M [0] (hmv) ?_ ?_ ?_ ?_ ?_ ?_; (solve | rfl | simp only [go_sem, seval, encV]); (solve | rfl); (solve | decide); (solve | simp); (solve | simp only [go_sem, seval, lentOK, encV])) | (refine opK_M [0] (hmw) ?_ ?_ ?_ ?_ ?_ ?_; (solve | rfl | simp only [go_sem, seval, encV]); (solve | rfl); (solve | decide); (solve | simp); (solve | simp only [go_sem, seval, lentOK, encV])) | omega | exact decide_eq_true (by omega) | exact DLe.refl _)
        exact hC2 _ _ hf.out (weak_forget _ (by simp) (by (try simp only [encT, encV]); rfl) (by (repeat' (first | exact trivial | (refine ⟨rfl, ?_⟩)))) (by first | rfl | simp only [belowH, belowE, belowC, belowL, belowR, belowP, belowL_d, belowR_d, List.length_cons, List.length_nil, Nat.reduceAdd, Nat.reduceLT, decide_true, Bool.and_self, Bool.and_true]) (by first | rfl | simp only [belowH, belowE, belowC, belowL, belowR, belowP, belowL_d, belowR_d, List.length_cons, List.length_nil, Nat.reduceAdd, Nat.reduceLT, decide_true, Bool.and_self, Bool.and_true]))
      | true =>
        cases e2 : clashV v w with
        | true =>
          have hb : R = false := hbad.out (by rw [hfd.out, e1, e2]; rfl)
          rw [hb]
          replace hb := Lib.hid hb
          rw [e2] at hcl
          repeat' (first | (with_reducible refine And.intro ?_ ?_) | (with_reducible refine gK_i (fun _ => ?_) (fun _ => ?_)) | (with_reducible refine condS_i (fun _ => ?_) (fun _ => ?_)) | (with_reducible refine drw_i (by kernel_rfl)) | simp -dsimp only [go_sem, seval, *, encV, hjI, hwj, hw3, e1, undef] | ((with_reducible refine opK_c ?_); simp -dsimp only [go_sem, seval, encV, hjI, hwj, hw3, e1, undef]; first | refine callK_r (by first | assumption | exact hcl) (by first | exact .inl rfl | exact .inr rfl) ?_ | (refine callK_i (by assumption) ?_ ?_ ?_; (solve | (repeat (first | exact DLe.refl _ | exact DLe.nil _ | (refine DLe.tup ?_) | (refine DLe.agg ?_ rfl) | exact trivial | (refine And.intro ?_ ?_)))); (solve | exact .inl rfl | exact .inr rfl))) | (refine opK_M [0] (hmv) ?_ ?_ ?_ ?_ ?_ ?_; (solve | rfl | simp only [go_sem, seval, encV]); (solve | rfl); (solve | decide); (solve | simp); (solve | simp only [go_sem, seval, lentOK, encV])) | (refine opK_M [0] (hmw) ?_ ?_ ?_ ?_ ?_ ?_; (solve | rfl | simp only [go_sem, seval, encV]); (solve | rfl); (solve | decide); (solve | simp); (solve | simp only [go_sem, seval, lentOK, encV])) | omega | exact decide_eq_true (by omega) | exact DLe.refl _)
          all_goals exact DLe.refl _
        | false =>
          have hf := Lib.hid (hstep.out (by rw [hfd.out, e1, e2]; rfl))
          rw [e2] at hcl
          repeat' (first | (with_reducible refine And.intro ?_ ?_) | (with_reducible refine gK_i (fun _ => ?_) (fun _ => ?_)) | (with_reducible refine condS_i (fun _ => ?_) (fun _ => ?_)) | (with_reducible refine drw_i (by kernel_rfl)) | simp -dsimp only [go_sem, seval, *, encV, hjI, hwj, hw3, e1, undef] | ((with_reducible refine opK_c ?_); simp -dsimp only [go_sem, seval, encV, hjI, hwj, hw3, e1, undef]; first | refine callK_r (by first | assumption | exact hcl) (by first | exact .inl rfl | exact .inr rfl) ?_ | (refine callK_i (by assumption) ?_ ?_ ?_; (solve | (repeat (first | exact DLe.refl _ | exact DLe.nil _ | (refine DLe.tup ?_) | (refine DLe.agg ?_ rfl) | exact trivial | (refine And.intro ?_ ?_)))); (solve | exact .inl rfl | exact .inr rfl))) | (refine opK_M [0] (hmv) ?_ ?_ ?_ ?_ ?_ ?_; (solve | rfl | simp only [go_sem, seval, encV]); (solve | rfl); (solve | decide); (solve | simp); (solve | simp only [go_sem, seval, lentOK, encV])) | (refine opK_M [0] (hmw) ?_ ?_ ?_ ?_ ?_ ?_; (solve | rfl | simp only [go_sem, seval, encV]); (solve | rfl); (solve | decide); (solve | simp); (solve | simp only [go_sem, seval, lentOK, encV])) | omega | exact decide_eq_true (by omega) | exact DLe.refl _)
          exact hC2 _ _ hf.out (weak_forget _ (by simp) (by (try simp only [encT, encV]); rfl) (by (repeat' (first | exact trivial | (refine ⟨rfl, ?_⟩)))) (by first | rfl | simp only [belowH, belowE, belowC, belowL, belowR, belowP, belowL_d, belowR_d, List.length_cons, List.length_nil, Nat.reduceAdd, Nat.reduceLT, decide_true, Bool.and_self, Bool.and_true]) (by first | rfl | simp only [belowH, belowE, belowC, belowL, belowR, belowP, belowL_d, belowR_d, List.length_cons, List.length_nil, Nat.reduceAdd, Nat.reduceLT, decide_true, Bool.and_self, Bool.and_true]))
    · intro hJ C2
      rw [List.take_length] at hJ
      have hI2 : ∀ (i : Nat) (u w : Vpc), i < k + 1 → n.vpcs[i]? = some u → w ∈ n.vpcs.take i → foeN n u w = false := fun i u w hi hu hw => by
        rcases Nat.lt_or_ge i k with h | h
        · exact hI.out i u w h hu hw
        · obtain rfl : i = k := by omega
          rw [hv] at hu
          rw [← Option.some.inj hu]
          exact hJ w hw
      replace hI2 := Lib.hid hI2
      replace hJ := Lib.hid hJ
      rw [hlt]
      repeat' (first | (with_reducible refine And.intro ?_ ?_) | (with_reducible refine gK_i (fun _ => ?_) (fun _ => ?_)) | (with_reducible refine condS_i (fun _ => ?_) (fun _ => ?_)) | (with_reducible refine drw_i (by kernel_rfl)) | simp -dsimp only [go_sem, seval, *, encT, hwr, Int.lt_irrefl, undef] | ((with_reducible refine opK_c ?_); simp -dsimp only [go_sem, seval, encT, hwr, Int.lt_irrefl, undef]; first | refine callK_r (by first | assumption | fail) (by first | exact .inl rfl | exact .inr rfl) ?_ | (refine callK_i (by assumption) ?_ ?_ ?_; (solve | (repeat (first | exact DLe.refl _ | exact DLe.nil _ | (refine DLe.tup ?_) | (refine DLe.agg ?_ rfl) | exact trivial | (refine And.intro ?_ ?_)))); (solve | exact .inl rfl | exact .inr rfl))) | fail | omega | exact decide_eq_true (by omega) | exact DLe.refl _)
      exact hC _ _ hI2.out (weak_forget _ (by simp) (by (try simp only [encT]); rfl) (by (repeat' (first | exact trivial | (refine ⟨rfl, ?_⟩)))) (by first | rfl | simp only [belowH, belowE, belowC, belowL, belowR, belowP, belowL_d, belowR_d, List.length_cons, List.length_nil, Nat.reduceAdd, Nat.reduceLT, decide_true, Bool.and_self, Bool.and_true]) (by first | rfl | simp only [belowH, belowE, belowC, belowL, belowR, belowP, belowL_d, belowR_d, List.length_cons, List.length_nil, Nat.reduceAdd, Nat.reduceLT, decide_true, Bool.and_self, Bool.and_true]))
  · intro hI C
    have hb : R = true := by
      rw [hR.out]
      exact peace_good fun i v w hv hw => hI i v w (List.getElem?_eq_some_iff.1 hv).1 hv hw
    rw [hb]
    replace hb := Lib.hid hb
    replace hI := Lib.hid hI
    repeat' (first | (with_reducible refine And.intro ?_ ?_) | (with_reducible refine gK_i (fun _ => ?_) (fun _ => ?_)) | (with_reducible refine condS_i (fun _ => ?_) (fun _ => ?_)) | (with_reducible refine drw_i (by kernel_rfl)) | simp -dsimp only [go_sem, seval, *, encT, Int.lt_irrefl, undef] | ((with_reducible refine opK_c ?_); simp -dsimp only [go_sem, seval, encT, Int.lt_irrefl, undef]; first | refine callK_r (by first | assumption | fail) (by first | exact .inl rfl | exact .inr rfl) ?_ | (refine callK_i (by assumption) ?_ ?_ ?_; (solve | (repeat (first | exact DLe.refl _ | exact DLe.nil _ | (refine DLe.tup ?_) | (refine DLe.agg ?_ rfl) | exact trivial | (refine And.intro ?_ ?_)))); (solve | exact .inl rfl | exact .inr rfl))) | fail | omega | exact decide_eq_true (by omega) | exact DLe.refl _)
    all_goals exact DLe.refl _
end Go.Proofs.YtgmbhaclogabeaaGreat
namespace Go.Proofs.YtgmbhaclogabeaaGreat
open Go Go.RowKit
def lnkB (n : Net) (l : Lnk) : Bool := (findN n l.a).isSome && ((findN n l.b).isSome && decide (l.a < l.b))
def risK : List Lnk → Bool
  | l :: m :: ls => decide (ordK l m < 0) && risK (m :: ls)
  | _ => true
theorem risK_at : ∀ (l : List Lnk), risK l = true ↔ ∀ j (h : j + 1 < l.length), ordK l[j] l[j + 1] < 0
  | [] => by simp [risK]
  | [a] => by simp [risK]
  | a :: b :: l => by
    have ih := risK_at (b :: l)
    simp only [risK, Bool.and_eq_true, decide_eq_true_eq, ih]
    constructor
    · rintro ⟨h1, h2⟩ j hj
      cases j with
      | zero => exact h1
      | succ j => exact h2 j (by simpa using hj)
    · intro h
      exact ⟨h 0 (by simp), fun j hj => h (j + 1) (by simpa using hj)⟩
def vpcsB (n : Net) : Bool := n.vpcs.all (fun v => chkV v == 0) && risB (·.id) n.vpcs
def chkT (n : Net) : Int := if n.vpcs.length > 6 ∨ n.links.length > 12 then 2 else if vpcsB n && (n.links.all (lnkB n) && (risK n.links && peaceN n)) then 0 else 1
theorem find_ids {n : Net} {x : Int} (h : (findN n x).isSome = true) : x ∈ n.vpcs.map (·.id) := by
  obtain ⟨v, hv⟩ := Option.isSome_iff_exists.1 h
  unfold findN at hv
  have h1 := List.mem_of_find?_eq_some hv
  have h2 := List.find?_some hv
  exact List.mem_map.2 ⟨v, h1, by simpa using h2⟩
theorem chkT_one {n : Net} (h0 : ¬ (n.vpcs.length > 6 ∨ n.links.length > 12)) (h : vpcsB n = false ∨ n.links.all (lnkB n) = false ∨ risK n.links = false ∨ peaceN n = false) : chkT n = 1 := by
  unfold chkT
  rw [if_neg h0]
  rcases h with h | h | h | h <;> simp [h]
theorem chkT_zero {n : Net} (h0 : ¬ (n.vpcs.length > 6 ∨ n.links.length > 12)) (h1 : vpcsB n = true) (h2 : n.links.all (lnkB n) = true) (h3 : risK n.links = true) (h4 : peaceN n = true) : chkT n = 0 := by
  unfold chkT
  rw [if_neg h0, h1, h2, h3, h4]; rfl
end Go.Proofs.YtgmbhaclogabeaaGreat
