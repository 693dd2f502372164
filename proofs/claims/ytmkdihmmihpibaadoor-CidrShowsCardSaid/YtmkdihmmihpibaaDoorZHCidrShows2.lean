/- Texts of this work, joined: VJ, VGs, Str, VK, VK2, VL, VM, VN, VO, Walk, Base, TabV, VP, VQ, Cidr1, VDat, Brg, W1, Itoa, Within, CidrR, Cidr2a, Mix. -/
import Derived.Test.YtmkdihmmihpibaaDoorZHCidrShows1
import Derived.Laws.MakeOwn
import Derived.WalkMore
import Derived.Laws.BytesArg
import Derived.Lib.ItoaNum
import Derived.Deep.LoopGhost
import Derived.Tactics2
import Derived.WalkLawsBesides
import Derived.WalkSpells
import Derived.KernelRfl
import Derived.Deep.QuietTactic
import Derived.BigQuiet
import Derived.Outline
import Derived.Lib.Hide
import Derived.Deep.DeepFit
import Derived.Test.YtmkdihmmihpibaaDoorProg
import Derived.Laws.BitsAllLaws
import Derived.Laws.BitsLemmas
import Derived.Deep.RegionHeld3
set_option linter.unusedSimpArgs false
set_option linter.unusedVariables false
namespace Go.Proofs.YtmkdihmmihpibaaDoor
open Go Go.RowKit
/-- Building a slice whose parts are all named, in order. -/
theorem fill_rows {size : Nat} (place : Nat → Option (Nat × Nat)) (hpl : ∀ i, place i = some (i * size, size)) : ∀ (vs : List Value) (i : Nat) (done rest : List Value), (∀ v ∈ vs, v.cells.size = size) → done.length = i * size → rest.length = vs.length * size →
    Instr.fill place (done ++ rest).toArray ((vs.zipIdx i).map fun (v, j) => (j, v)) = some (done ++ (vs.map fun v => v.cells.toList).flatten).toArray
  | [], i, done, rest, _, _, hr => by
    have : rest = [] := List.eq_nil_of_length_eq_zero (by simpa using hr)
    subst this
    simp [Instr.fill]
  | v :: vs, i, done, rest, hv, hdn, hr => by
    have h0 := hv v (by simp)
    rw [List.length_cons, Nat.succ_mul] at hr
    simp only [List.zipIdx_cons, List.map_cons]
    rw [fill_step place _ i (i * size) size v _ (hpl i) h0 (by simp; omega)]
    have e : setAt (done ++ rest) (i * size) v.cells.toList = (done ++ v.cells.toList) ++ rest.drop size := by
      unfold setAt
      have hl : v.cells.toList.length = size := by simpa using h0
      rw [← hdn, List.take_left, hl, List.drop_append, List.drop_of_length_le (by omega), List.nil_append]
      congr 1
      congr 1
      omega
    simp only [List.toList_toArray]
    rw [e, fill_rows place hpl vs (i + 1) (done ++ v.cells.toList) (rest.drop size) (fun x hx => hv x (by simp [hx])) (by rw [List.length_append, hdn, Nat.succ_mul]; simp; omega) (by rw [List.length_drop]; omega)]
    simp
section
variable {X : Cfg} {ops : Array Oper} {s : FS} {o : Oper} (hd : ∀ d, o.dst = some d → d < X.n)
include hd
theorem op_buildSlice {t e n sz : Nat} {parts : Array (Nat × Operand)} {ti te : TI} {rows : List (List D)} (ho : o.op = .buildSlice t n parts) (ht : tcheck X.P t = some ti) (he' : ti.elem = some e) (hte : tcheck X.P e = some te)
    (hsz : te.size = sz) (hs0 : 0 < sz) (hn0 : 0 < n) (hsmall : n * sz ≤ 16777216) (hnl : rows.length = n) (hps : parts.size = n) (hp : ∀ (j : Nat) (i : Nat) (x : Operand), parts[j]? = some (i, x) → i = j ∧ ∃ ds, rows[j]? = some ds ∧ dsOf (cellsP (ev s x)) = some ds ∧ okP (ev s x) = true ∧ ds.length = sz) :
    OpOK X ops s o { pv := .d (.sl sz rows) } :=
  opok_gen hd (fun kc h => by simp at h) fun s' he _ a w c hc => by
    obtain ⟨i, d, z, tk⟩ := tck ht
    obtain ⟨ie, de, ze, tke⟩ := tck hte
    have hde : d = .slice e := by
      have := tk.elem
      rw [he'] at this
      cases d <;> simp [elemD] at this
      rw [this]
    subst hde
    obtain ⟨vs, hvs⟩ : ∃ vs : List Value, vs = parts.toList.map fun p => a.eval p.2 := ⟨_, rfl⟩
    have hvl : vs.length = n := by rw [hvs]; simpa using hps
    have hrow : ∀ (j : Nat) (ds : List D) (v : Value), rows[j]? = some ds → vs[j]? = some v → RepDs c.M w ds v.cells.toList ∧ (∀ e ∈ ds, e.one = true) ∧ ds.length = sz := by
      intro j ds v hj hv
      rw [hvs] at hv
      simp only [List.getElem?_map, Array.getElem?_toList, Option.map_eq_some_iff] at hv
      obtain ⟨⟨i, y⟩, hy, rfl⟩ := hv
      obtain ⟨-, ds', g1, g2, g3, g4⟩ := hp j i y hy
      rw [hj] at g1
      cases g1
      have hmem : y ∈ o.op.operands := by
        rw [ho]
        simp only [Op.operands, List.mem_toArray, List.mem_map]
        exact ⟨(i, y), by simpa using Array.mem_of_getElem? hy, rfl⟩
      have hrep := ev_ok hc y
      rw [he y hmem] at hrep
      obtain ⟨r1, r2⟩ := cells_rep hrep g3
      have hcl := dsOf_eq g2
      refine ⟨⟨?_, fun k e v hk hv => ?_⟩, fun e he' => ?_, g4⟩
      · have := r1.1
        rw [hcl, List.length_map] at this
        exact this
      · exact repD_inv (r1.2 k (.d e) v (by rw [hcl, List.getElem?_map, hk]; rfl) hv)
      · have := r2 (.d e) (by rw [hcl]; exact List.mem_map_of_mem he')
        exact this
    have hvsz : ∀ v ∈ vs, v.cells.size = sz := by
      intro v hv
      obtain ⟨j, hj, e⟩ := List.getElem_of_mem hv
      have hjr : j < rows.length := by omega
      have := (hrow j rows[j] v (List.getElem?_eq_getElem hjr) (by rw [← e]; exact List.getElem?_eq_getElem hj))
      have h2 := this.1.1
      simp at h2
      omega
    have hparts : (parts.map fun (i, x) => (i, a.eval x)).toList = ((vs.zipIdx 0).map fun (v, j) => (j, v)) := by
      apply List.ext_getElem?
      intro j
      simp only [Array.toList_map, List.getElem?_map, List.getElem?_zipIdx, hvs, Array.getElem?_toList]
      cases hj : parts[j]? with
      | none => rfl
      | some ix =>
        obtain ⟨i, x⟩ := ix
        obtain ⟨rfl, -⟩ := hp j i x hj
        simp
    have hzc : ze.cells.size = sz := by rw [← hsz, ← tke.zsize, ← tke.zcells]; simp
    have hfill : Instr.fill (fun i => some (i * sz, sz)) ((Array.range (n * sz)).map (ze.cells[· % ze.cells.size]!)) (parts.map fun (i, x) => (i, a.eval x)).toList = some ((vs.map fun v => v.cells.toList).flatten).toArray := by
      have := fill_rows (size := sz) (fun i => some (i * sz, sz)) (fun _ => rfl) vs 0 [] ((Array.range (n * sz)).map (ze.cells[· % ze.cells.size]!)).toList hvsz (by simp) (by simp [hvl])
      rw [hparts]
      rw [List.nil_append, List.nil_append, Array.toArray_toList] at this
      exact this
    have hfl : ∀ r ∈ vs.map fun v => v.cells.toList, r.length = sz := by
      intro r hr
      obtain ⟨v, hv, rfl⟩ := List.mem_map.1 hr
      simpa using hvsz v hv
    have hx := alloc_ext w (.cells ((vs.map fun v => v.cells.toList).flatten).toArray e)
    refine ⟨.value (.slice (some ⟨w.heap.size, 0, none⟩) n n), _, w.alloc (.cells ((vs.map fun v => v.cells.toList).flatten).toArray e), ?_, .inl rfl, c, hc.grow hx, .d _ _ ?_⟩
    · have hnew : ∀ o : Obj, ({ w with heap := w.heap.push o } : World) = w.alloc o := fun o => (World.alloc_eq w o)
      have hrun : (Instr.buildSlice t n (parts.map fun (i, x) => (i, a.eval x))).run X.P w = .ok (.slice (some ⟨w.heap.size, 0, none⟩) n n) (w.alloc (.cells ((vs.map fun v => v.cells.toList).flatten).toArray e)) := by
        have hne : ¬ (n * sz = 0) := Nat.ne_of_gt (Nat.mul_pos hn0 hs0)
        unfold Instr.buildSlice
        simp only [Sem.run_bind, run_underlying tk.und, Result.andThen_ok, sizeOf, typeInfo, run_program, tke.info, Sem.run_pure, tke.size, hsz]
        rw [if_neg (by omega), if_neg hne]
        simp only [Sem.run_bind, zeroValue, typeInfo, run_program, tke.info, Result.andThen_ok, Sem.run_pure, tke.zero, hfill]
        simp [newRow, newObj, Sem.run, hnew]
      simp only [execOp, ho]
      rw [Sem.run_bind, hrun]
      rfl
    · have hM : ∀ b, c.M b → b < w.heap.size := fun b hb => hc.lt hb
      have hk : Keep c.M w c.M (w.alloc (.cells ((vs.map fun v => v.cells.toList).flatten).toArray e)) := Keep.ext hx hM
      subst hnl
      refine .sl sz rows w.heap.size 0 rows.length (fun i j => ((vs[i]?.map fun v => v.cells.toList).getD []).getD j undef) (fun h => by have := hM _ h; omega) (by rw [size_alloc]; omega) (Nat.le_refl _)
        (by have : rows.length ≤ rows.length * sz := Nat.le_mul_of_pos_right _ hs0; omega) (fun r hr => ?_) (fun r hr => ?_) (fun i j hi hj => ?_) (fun i j row d hi hj => ?_)
      · obtain ⟨j, hj, e⟩ := List.getElem_of_mem hr
        exact (hrow j r vs[j] (by rw [← e]; exact List.getElem?_eq_getElem hj) (List.getElem?_eq_getElem (by omega))).2.2
      · obtain ⟨j, hj, e⟩ := List.getElem_of_mem hr
        exact (hrow j r vs[j] (by rw [← e]; exact List.getElem?_eq_getElem hj) (List.getElem?_eq_getElem (by omega))).2.1
      · have hv : vs[i]? = some vs[i] := List.getElem?_eq_getElem (by omega)
        have hf := flatten_atG (rows := vs.map fun v => v.cells.toList) hfl i j hj
        rw [List.getElem?_map, hv] at hf
        simp only [World.cell?, alloc_at, Nat.zero_add, List.getElem?_toArray, hf, hv, Option.map_some, Option.getD_some, Option.bind_some]
        have hl : j < vs[i].cells.toList.length := by
          have := hvsz vs[i] (List.getElem_mem (by omega))
          simpa [this] using hj
        simp [List.getD_eq_getElem?_getD, List.getElem?_eq_getElem hl]
      · have hi' : i < rows.length := (List.getElem?_eq_some_iff.1 hi).1
        have hv : vs[i]? = some vs[i] := List.getElem?_eq_getElem (by omega)
        obtain ⟨g1, g2, g3⟩ := hrow i row vs[i] hi hv
        have hl : j < vs[i].cells.toList.length := by rw [← g1.1]; exact (List.getElem?_eq_some_iff.1 hj).1
        have := (g1.2 j d _ hj (List.getElem?_eq_getElem hl)).keep hk
        simpa [hv, List.getD_eq_getElem?_getD, List.getElem?_eq_getElem hl] using this
theorem op_buildSliceO {t e n sz nk : Nat} {parts : Array (Nat × Operand)} {ti te : TI} {rows : List (List PV)} (ho : o.op = .buildSlice t n parts) (ht : tcheck X.P t = some ti) (he' : ti.elem = some e) (hte : tcheck X.P e = some te)
    (hsz : te.size = sz) (hs0 : 0 < sz) (hn0 : 0 < n) (hsmall : n * sz ≤ 16777216) (hnl : rows.length = n) (hps : parts.size = n) (hk : s.heap nk = .none) (hkm : ¬ nk < X.m) (hp : ∀ (j : Nat) (i : Nat) (x : Operand), parts[j]? = some (i, x) → i = j ∧ rows[j]? = some (cellsP (ev s x)) ∧ okP (ev s x) = true ∧ (cellsP (ev s x)).length = sz) :
    OpOK X ops s o { pv := .own nk 0, eff := [(nk, .row e sz 0 rows)], touch := [nk] } :=
  opok_gen hd (fun kc h => by simp at h; subst h; simp) fun s' he hkk a w c hc => by
    obtain ⟨i, d, z, tk⟩ := tck ht
    obtain ⟨ie, de, ze, tke⟩ := tck hte
    have hde : d = .slice e := by
      have := tk.elem
      rw [he'] at this
      cases d <;> simp [elemD] at this
      rw [this]
    subst hde
    obtain ⟨vs, hvs⟩ : ∃ vs : List Value, vs = parts.toList.map fun p => a.eval p.2 := ⟨_, rfl⟩
    have hvl : vs.length = n := by rw [hvs]; simpa using hps
    have hrow : ∀ (j : Nat) (ds : List PV) (v : Value), rows[j]? = some ds → vs[j]? = some v → RepPs c w ds v.cells.toList ∧ (∀ e ∈ ds, e.one = true) ∧ ds.length = sz := by
      intro j ds v hj hv
      rw [hvs] at hv
      simp only [List.getElem?_map, Array.getElem?_toList, Option.map_eq_some_iff] at hv
      obtain ⟨⟨i, y⟩, hy, rfl⟩ := hv
      obtain ⟨-, g1, g3, g4⟩ := hp j i y hy
      rw [hj] at g1
      cases g1
      have hmem : y ∈ o.op.operands := by
        rw [ho]
        simp only [Op.operands, List.mem_toArray, List.mem_map]
        exact ⟨(i, y), by simpa using Array.mem_of_getElem? hy, rfl⟩
      have hrep := ev_ok hc y
      rw [he y hmem] at hrep
      obtain ⟨r1, r2⟩ := cells_rep hrep g3
      exact ⟨r1, r2, g4⟩
    have hvsz : ∀ v ∈ vs, v.cells.size = sz := by
      intro v hv
      obtain ⟨j, hj, e⟩ := List.getElem_of_mem hv
      have hjr : j < rows.length := by omega
      have := (hrow j rows[j] v (List.getElem?_eq_getElem hjr) (by rw [← e]; exact List.getElem?_eq_getElem hj))
      have h2 := this.1.1
      simp at h2
      omega
    have hparts : (parts.map fun (i, x) => (i, a.eval x)).toList = ((vs.zipIdx 0).map fun (v, j) => (j, v)) := by
      apply List.ext_getElem?
      intro j
      simp only [Array.toList_map, List.getElem?_map, List.getElem?_zipIdx, hvs, Array.getElem?_toList]
      cases hj : parts[j]? with
      | none => rfl
      | some ix =>
        obtain ⟨i, x⟩ := ix
        obtain ⟨rfl, -⟩ := hp j i x hj
        simp
    have hzc : ze.cells.size = sz := by rw [← hsz, ← tke.zsize, ← tke.zcells]; simp
    have hfill : Instr.fill (fun i => some (i * sz, sz)) ((Array.range (n * sz)).map (ze.cells[· % ze.cells.size]!)) (parts.map fun (i, x) => (i, a.eval x)).toList = some ((vs.map fun v => v.cells.toList).flatten).toArray := by
      have := fill_rows (size := sz) (fun i => some (i * sz, sz)) (fun _ => rfl) vs 0 [] ((Array.range (n * sz)).map (ze.cells[· % ze.cells.size]!)).toList hvsz (by simp) (by simp [hvl])
      rw [hparts]
      rw [List.nil_append, List.nil_append, Array.toArray_toList] at this
      exact this
    have hfl : ∀ r ∈ vs.map fun v => v.cells.toList, r.length = sz := by
      intro r hr
      obtain ⟨v, hv, rfl⟩ := List.mem_map.1 hr
      simpa using hvsz v hv
    have hx := alloc_ext w (.cells ((vs.map fun v => v.cells.toList).flatten).toArray e)
    have hk' : s'.heap nk = .none := by rw [hkk nk (by simp)]; exact hk
    have hflen : (vs.map fun v => v.cells.toList).flatten.length = n * sz := by rw [flatten_len hfl]; simp [hvl]
    have hrep : RepPs c w rows.flatten (vs.map fun v => v.cells.toList).flatten := by
      refine ⟨?_, fun j d x hj hx => ?_⟩
      · rw [flatten_len (fun r hr => ?_), hflen, hnl]
        obtain ⟨j, hj, e⟩ := List.getElem_of_mem hr
        exact (hrow j r vs[j] (by rw [← e]; exact List.getElem?_eq_getElem hj) (List.getElem?_eq_getElem (by omega))).2.2
      · have hrl : ∀ r ∈ rows, r.length = sz := fun r hr => by
          obtain ⟨j, hj, e⟩ := List.getElem_of_mem hr
          exact (hrow j r vs[j] (by rw [← e]; exact List.getElem?_eq_getElem hj) (List.getElem?_eq_getElem (by omega))).2.2
        have hjlt : j < n * sz := by rw [← hflen]; exact (List.getElem?_eq_some_iff.1 hx).1
        have q1 : j / sz < n := Nat.div_lt_of_lt_mul (by rw [Nat.mul_comm]; exact hjlt)
        have q2 : j % sz < sz := Nat.mod_lt _ hs0
        have q3 : j / sz * sz + j % sz = j := by rw [Nat.mul_comm]; exact Nat.div_add_mod j sz
        rw [← q3, flatten_atG hrl _ _ q2] at hj
        rw [← q3, flatten_atG hfl _ _ q2, List.getElem?_map] at hx
        have h1 : rows[j / sz]? = some rows[j / sz] := List.getElem?_eq_getElem (by omega)
        have h2 : vs[j / sz]? = some vs[j / sz] := List.getElem?_eq_getElem (by omega)
        rw [h1] at hj
        rw [h2] at hx
        exact (hrow _ _ _ h1 h2).1.2 _ d x hj hx
    have hown : OwnV (w.alloc (.cells ((vs.map fun v => v.cells.toList).flatten).toArray e)) e sz (.slice (some ⟨w.heap.size, 0, none⟩) n n) rows.length ((vs.map fun v => v.cells.toList).flatten) := by
      rw [hnl]
      refine .row _ n n _ _ hn0 (alloc_at w _) (Nat.le_refl _) (by have : n ≤ n * sz := Nat.le_mul_of_pos_right _ hs0; unfold maxLen; omega) (by simp only [List.size_toArray]; exact hflen) hflen ?_
      rw [List.toList_toArray, List.take_of_length_le (by omega)]
    obtain ⟨c', q1, q2⟩ := hc.new_row (w' := w.alloc (.cells ((vs.map fun v => v.cells.toList).flatten).toArray e)) hk' hkm e sz rows _ _ hx hown (fun b hb => by rw [ownB_pos hn0] at hb; cases hb; exact Nat.le_refl _) hrep (fun r hr => by
        obtain ⟨j, hj, e⟩ := List.getElem_of_mem hr
        exact (hrow j r vs[j] (by rw [← e]; exact List.getElem?_eq_getElem hj) (List.getElem?_eq_getElem (by omega))).2.2) (fun r hr => by
        obtain ⟨j, hj, e⟩ := List.getElem_of_mem hr
        exact (hrow j r vs[j] (by rw [← e]; exact List.getElem?_eq_getElem hj) (List.getElem?_eq_getElem (by omega))).2.1)
    refine ⟨.value (.slice (some ⟨w.heap.size, 0, none⟩) n n), _, w.alloc (.cells ((vs.map fun v => v.cells.toList).flatten).toArray e), ?_, .inl rfl, c', q1, q2⟩
    have hnew : ∀ o : Obj, ({ w with heap := w.heap.push o } : World) = w.alloc o := fun o => (World.alloc_eq w o)
    have hrun : (Instr.buildSlice t n (parts.map fun (i, x) => (i, a.eval x))).run X.P w = .ok (.slice (some ⟨w.heap.size, 0, none⟩) n n) (w.alloc (.cells ((vs.map fun v => v.cells.toList).flatten).toArray e)) := by
      have hne : ¬ (n * sz = 0) := Nat.ne_of_gt (Nat.mul_pos hn0 hs0)
      unfold Instr.buildSlice
      simp only [Sem.run_bind, run_underlying tk.und, Result.andThen_ok, sizeOf, typeInfo, run_program, tke.info, Sem.run_pure, tke.size, hsz]
      rw [if_neg (by omega), if_neg hne]
      simp only [Sem.run_bind, zeroValue, typeInfo, run_program, tke.info, Result.andThen_ok, Sem.run_pure, tke.zero, hfill]
      simp [newRow, newObj, Sem.run, hnew]
    simp only [execOp, ho]
    rw [Sem.run_bind, hrun]
    rfl
theorem op_buildSlice0 {t e nk : Nat} {ti te : TI} (ho : o.op = .buildSlice t 0 #[]) (ht : tcheck X.P t = some ti) (he' : ti.elem = some e) (hte : tcheck X.P e = some te) (hk : s.heap nk = .none) (hkm : ¬ nk < X.m) :
    OpOK X ops s o { pv := .own nk 0, eff := [(nk, .row e te.size 0 [])], touch := [nk] } :=
  opok_gen hd (fun kc h => by simp at h; subst h; simp) fun s' he hkk a w c hc => by
    obtain ⟨i, d, z, tk⟩ := tck ht
    obtain ⟨ie, de, ze, tke⟩ := tck hte
    have hde : d = .slice e := by
      have := tk.elem
      rw [he'] at this
      cases d <;> simp [elemD] at this
      rw [this]
    subst hde
    have hk' : s'.heap nk = .none := by rw [hkk nk (by simp)]; exact hk
    obtain ⟨c', q1, q2⟩ := hc.new_row (w' := w.alloc (.cells #[] e)) hk' hkm e te.size [] _ [] (alloc_ext w _) (.zero ⟨w.heap.size, 0, none⟩) (fun b hb => by cases hb) ⟨rfl, fun j d x h => by simp at h⟩ (by simp) (by simp)
    refine ⟨_, _, _, ?_, .inl rfl, c', q1, q2⟩
    have hnew : ∀ o : Obj, ({ w with heap := w.heap.push o } : World) = w.alloc o := fun o => (World.alloc_eq w o)
    have hrun : (Instr.buildSlice t 0 #[]).run X.P w = .ok (.slice (some ⟨w.heap.size, 0, none⟩) 0 0) (w.alloc (.cells #[] e)) := by
      simp [Instr.buildSlice, run_underlying tk.und, sizeOf, typeInfo, tke.info, Instr.fill, newRow, newObj, Sem.run, hnew]
      rw [show Array.map (fun _ => (default : Value)) (Array.range 0) = #[] from Array.eq_empty_of_size_eq_zero (by simp)]
    simp only [execOp, ho]
    rw [Sem.run_bind]
    simp only [Array.map_empty, hrun]
    rfl
theorem op_makeSlice {t e nk : Nat} {l x : Operand} {ti te : TI} {zv : Value} {k k' : IntKind} {n : Int} (ho : o.op = .makeSlice t l x) (ht : tcheck X.P t = some ti) (he' : ti.elem = some e) (hte : tcheck X.P e = some te)
    (hz1 : te.zero = [zv]) (hn0 : 0 < n) (hb : (te.bytes : Int) * n ≤ 281474976710656) (hm : n ≤ 9223372036854775807) (hl : ev s l = .d (.v (.int k n))) (hx : ev s x = .d (.v (.int k' n))) (hk : s.heap nk = .none) (hkm : ¬ nk < X.m) :
    OpOK X ops s o { pv := .own nk 0, eff := [(nk, .row e 1 0 (List.replicate n.toNat [.d (.v zv)]))], touch := [nk] } :=
  opok_gen hd (fun kc h => by simp at h; subst h; simp) fun s' he hkk a w c hc => by
    obtain ⟨i, d, z, tk⟩ := tck ht
    obtain ⟨ie, de, ze, tke⟩ := tck hte
    have hde : d = .slice e := by
      have := tk.elem
      rw [he'] at this
      cases d <;> simp [elemD] at this
      rw [this]
    subst hde
    have e1 := ev_ok hc l
    rw [he l (by simp [ho, Op.operands]), hl] at e1
    have e2 := ev_ok hc x
    rw [he x (by simp [ho, Op.operands]), hx] at e2
    have e3 : a.eval l = .int k n := by generalize a.eval l = u at e1; cases repD_inv e1; rfl
    have e4 : a.eval x = .int k' n := by generalize a.eval x = u at e2; cases repD_inv e2; rfl
    have hzc : ze.cells = #[zv] := by apply Array.ext'; rw [tke.zcells, hz1]
    have hsz : ie.size = 1 := by have := tke.zsize; rw [hz1] at this; rw [tke.size]; simpa using this.symm
    have hmade : Go.madeCells ze.cells (n.toNat * ie.size) = (List.replicate n.toNat zv).toArray := by
      rw [hzc, hsz, Nat.mul_one]
      apply Array.ext'
      simp only [Go.madeCells, Array.toList_map, Array.toList_range]
      apply List.ext_getElem
      · simp
      · intro j h1 h2
        simp [Nat.mod_one]
    have hk' : s'.heap nk = .none := by rw [hkk nk (by simp)]; exact hk
    have hrl : ∀ r ∈ List.replicate n.toNat [PV.d (.v zv)], r = [PV.d (.v zv)] := fun r hr => List.eq_of_mem_replicate hr
    have hflat : (List.replicate n.toNat [PV.d (.v zv)]).flatten = List.replicate n.toNat (PV.d (.v zv)) := by
      induction n.toNat with
      | zero => rfl
      | succ m ih => rw [List.replicate_succ, List.flatten_cons, ih]; rfl
    have hz1' : zv.oneCell' = true := tke.one zv (by rw [hz1]; simp)
    obtain ⟨c', q1, q2⟩ := hc.new_row (w' := w.alloc (.cells (List.replicate n.toNat zv).toArray e)) hk' hkm e 1 (List.replicate n.toNat [PV.d (.v zv)]) (.slice (some ⟨w.heap.size, 0, none⟩) n.toNat n.toNat) (List.replicate n.toNat zv) (alloc_ext w _) (by
      rw [List.length_replicate]
      refine .row _ n.toNat n.toNat _ _ (by omega) (alloc_at w _) (Nat.le_refl _) (by unfold maxLen; omega) (by simp) (by simp) ?_
      rw [List.toList_toArray, List.take_of_length_le (by simp)]) (fun b hb => by rw [ownB_pos (by omega)] at hb; cases hb; exact Nat.le_refl _) (by
      rw [hflat]
      refine ⟨by simp, fun j d u hj hu => ?_⟩
      rw [List.getElem?_replicate] at hj hu
      split at hj
      · cases hj
        rename_i hlt
        rw [if_pos hlt] at hu
        cases hu
        exact .d _ _ (.v _)
      · cases hj) (fun r hr => by rw [hrl r hr]; rfl) (fun r hr d hd => by rw [hrl r hr] at hd; rw [List.mem_singleton.1 hd]; exact hz1')
    refine ⟨_, _, _, ?_, .inl rfl, c', q1, q2⟩
    have hrun := run_make (P := X.P) w t e ie ze tk.und tke.info tke.zero k k' n n (by omega) (Int.le_refl _) (by rw [tke.bytes]; exact hb) hm
    rw [hmade] at hrun
    simp only [execOp, ho, e3, e4]
    rw [Sem.run_bind, hrun]
    rfl
theorem op_convert {src dst : Nat} {x : Operand} {k k' : IntKind} {n : Int} {ts td : TI} (ho : o.op = .convert src dst x) (hs : tcheck X.P src = some ts) (ht : tcheck X.P dst = some td) (hi : td.int = some k) (hx : ev s x = .d (.v (.int k' n))) :
    OpOK X ops s o { pv := .d (.v (.int k (k.wrap n))) } :=
  opok_read hd fun s' he _ a w c hc => by
    have h1 := ev_v' hc ((he x (by simp [ho, Op.operands])).trans hx)
    obtain ⟨i, d, z, tk⟩ := tck hs
    obtain ⟨i2, d2, z2, tk2⟩ := tck ht
    have hd2 : d2 = .int k := by
      have := tk2.int
      rw [hi] at this
      cases d2 <;> simp [intD] at this
      rw [this]
    subst hd2
    refine ⟨.int k (k.wrap n), ?_, .d _ _ (.v _)⟩
    have hrun : (convert src dst (.int k' n)).run X.P w = .ok (.int k (k.wrap n)) w := by
      simp [convert, run_underlying tk.und, run_underlying tk2.und, Conv.intToInt]
    simp only [execOp, ho, h1]
    rw [Sem.run_bind, hrun]
    rfl
theorem op_min {x y : Operand} {tys : Array Nat} {k : IntKind} {m n : Int} (ho : o.op = .call { callee := .builtin .min, args := #[x, y], argTypes := tys }) (hx : ev s x = .d (.v (.int k m))) (hy : ev s y = .d (.v (.int k n))) :
    OpOK X ops s o { pv := .d (.v (.int k (if n < m then n else m))) } :=
  opok_read hd fun s' he _ a w c hc => by
    have h1 := ev_v' hc ((he x (by simp [ho, Op.operands, Call.operands])).trans hx)
    have h2 := ev_v' hc ((he y (by simp [ho, Op.operands, Call.operands])).trans hy)
    exact ⟨.int k (if n < m then n else m), by simp [execOp, ho, resolve, h1, h2, invoke, builtin, Builtin.min_, Builtin.min2], .d _ _ (.v _)⟩
theorem op_max {x y : Operand} {tys : Array Nat} {k : IntKind} {m n : Int} (ho : o.op = .call { callee := .builtin .max, args := #[x, y], argTypes := tys }) (hx : ev s x = .d (.v (.int k m))) (hy : ev s y = .d (.v (.int k n))) :
    OpOK X ops s o { pv := .d (.v (.int k (if m < n then n else m))) } :=
  opok_read hd fun s' he _ a w c hc => by
    have h1 := ev_v' hc ((he x (by simp [ho, Op.operands, Call.operands])).trans hx)
    have h2 := ev_v' hc ((he y (by simp [ho, Op.operands, Call.operands])).trans hy)
    exact ⟨.int k (if m < n then n else m), by simp [execOp, ho, resolve, h1, h2, invoke, builtin, Builtin.max_, Builtin.max2], .d _ _ (.v _)⟩
end
end Go.Proofs.YtmkdihmmihpibaaDoor
namespace Go.Proofs.YtmkdihmmihpibaaDoor
open Go Go.RowKit
theorem bstr_eq {a b : ByteArray} : (a.toList == b.toList) = decide (a = b) := by
  rw [ByteArray.toList_eq, ByteArray.toList_eq, Bool.eq_iff_iff, beq_iff_eq, decide_eq_true_iff]
  exact ⟨fun h => ByteArray.ext (Array.ext' h), fun h => by rw [h]⟩
/-- A byte of a string. -/
def byteAt (s : ByteArray) (i : Nat) : Int := ((s.data.toList.getD i 0).toNat : Int)
theorem byteAt_get {s : ByteArray} {i : Nat} (h : i < s.size) : s[i]? = some (s.data.toList.getD i 0) := by
  have h2 : i < s.data.size := h
  rw [getElem?_pos s i h]
  congr 1
  rw [List.getD_eq_getElem?_getD, Array.getElem?_toList, Array.getElem?_eq_getElem h2]
  rfl
/-- Numbers of bytes. -/
def bytesD : List (List D) → Option (List Int)
  | [] => some []
  | [.v (.int .u8 n)] :: l => (bytesD l).map (n :: ·)
  | _ => none
theorem bytesD_eq : ∀ {rows : List (List D)} {xs : List Int}, bytesD rows = some xs → rows = xs.map fun n => [.v (.int .u8 n)]
  | [], xs, h => by simp [bytesD] at h; subst h; rfl
  | r :: rows, xs, h => by
    unfold bytesD at h
    split at h
    · rename_i e; cases e
    · rename_i n l e
      cases e
      cases hb : bytesD rows with
      | none => rw [hb] at h; cases h
      | some ys =>
        rw [hb] at h
        cases h
        rw [bytesD_eq hb]
        rfl
    · cases h
section
variable {X : Cfg} {ops : Array Oper} {s : FS} {o : Oper} (hd : ∀ d, o.dst = some d → d < X.n)
include hd
theorem op_strAdd {t t' : Nat} {x y : Operand} {a b : ByteArray} (ho : o.op = .binOp .add t x y t') (hx : ev s x = .d (.v (.string a))) (hy : ev s y = .d (.v (.string b))) (hl : a.size + b.size ≤ 9223372036854775807) :
    OpOK X ops s o { pv := .d (.v (.string (a ++ b))) } :=
  opok_read hd fun s' he _ ac w c hc => by
    have h1 := ev_v' hc ((he x (by simp [ho, Op.operands])).trans hx)
    have h2 := ev_v' hc ((he y (by simp [ho, Op.operands])).trans hy)
    have hr := run_string_add_sum (P := X.P) w a b (by omega)
    refine ⟨.string (a ++ b), ?_, .d _ _ (.v _)⟩
    simp [execOp, ho, h1, h2, eqGuard, binOp, hr]
theorem op_strEq {op : BinOp} {t t' : Nat} {x y : Operand} {a b : ByteArray} {r : Bool} (ho : o.op = .binOp op t x y t') (hx : ev s x = .d (.v (.string a))) (hy : ev s y = .d (.v (.string b))) (hr : (op = .eql ∧ r = decide (a = b)) ∨ (op = .neq ∧ r = !decide (a = b))) :
    OpOK X ops s o { pv := .d (.v (.bool r)) } :=
  opok_read hd fun s' he _ ac w c hc => by
    have h1 := ev_v' hc ((he x (by simp [ho, Op.operands])).trans hx)
    have h2 := ev_v' hc ((he y (by simp [ho, Op.operands])).trans hy)
    refine ⟨.bool r, ?_, .d _ _ (.v _)⟩
    rcases hr with ⟨rfl, rfl⟩ | ⟨rfl, rfl⟩ <;> simp [execOp, ho, h1, h2, eqGuard, binOp, Op.stringOp, bstr_eq]
theorem op_strLen {t : Nat} {x : Operand} {a : ByteArray} {ti : TI} (ho : o.op = .call { callee := .builtin .len, args := #[x], argTypes := #[t] }) (ht : tcheck X.P t = some ti) (hk : ti.kind = 2) (hx : ev s x = .d (.v (.string a))) :
    OpOK X ops s o { pv := .d (.v (.int .i64 a.size)) } :=
  opok_read hd fun s' he _ ac w c hc => by
    have h1 := ev_v' hc ((he x (by simp [ho, Op.operands, Call.operands])).trans hx)
    obtain ⟨i, d, z, tk⟩ := tck ht
    have hde : d = .string := by
      have := tk.kind
      rw [hk] at this
      cases d <;> simp [kindD] at this
      rfl
    subst hde
    refine ⟨.int .i64 a.size, ?_, .d _ _ (.v _)⟩
    simp [execOp, ho, h1, resolve, invoke, builtin, Builtin.len_, run_underlying tk.und, goInt]
theorem op_strIndex {t : Nat} {x y : Operand} {a : ByteArray} {k : IntKind} {n : Int} {ti : TI} (ho : o.op = .index t x y) (ht : tcheck X.P t = some ti) (hk : ti.kind = 2) (hx : ev s x = .d (.v (.string a))) (hy : ev s y = .d (.v (.int k n))) (hn : 0 ≤ n) (hlt : n.toNat < a.size) :
    OpOK X ops s o { pv := .d (.v (.int .u8 (byteAt a n.toNat))) } :=
  opok_read hd fun s' he _ ac w c hc => by
    have h1 := ev_v' hc ((he x (by simp [ho, Op.operands])).trans hx)
    have h2 := ev_v' hc ((he y (by simp [ho, Op.operands])).trans hy)
    obtain ⟨i, d, z, tk⟩ := tck ht
    have hde : d = .string := by
      have := tk.kind
      rw [hk] at this
      cases d <;> simp [kindD] at this
      rfl
    subst hde
    refine ⟨.int .u8 (byteAt a n.toNat), ?_, .d _ _ (.v _)⟩
    simp [execOp, ho, h1, h2, Instr.index, asIntOf, run_underlying tk.und, hn, byteAt_get hlt, byteAt]
theorem op_strSlice {t : Nat} {x : Operand} {lo hi : Option Operand} {a : ByteArray} {ti : TI} {l h : Nat} (ho : o.op = .slice t x lo hi none) (ht : tcheck X.P t = some ti) (hk : ti.kind = 2)
    (hx : ev s x = .d (.v (.string a))) (hlo : loB (lo.map (ev s)) = some l) (hhi : hiB a.size (hi.map (ev s)) = some h) (h1 : l ≤ h) (h2 : h ≤ a.size) : OpOK X ops s o { pv := .d (.v (.string (a.extract l h))) } :=
  opok_read hd fun s' he _ ac w c hc => by
    have e1 := ev_v' hc ((he x (by simp [ho, Op.operands])).trans hx)
    rw [← map_ev (s := s) (s' := s') (fun y hy => he y (by simp [ho, Op.operands, hy]))] at hlo hhi
    have b1 := bound_lo hc hlo
    have b2 := bound_hi hc hhi
    obtain ⟨i, d, z, tk⟩ := tck ht
    have hde : d = .string := by
      have := tk.kind
      rw [hk] at this
      cases d <;> simp [kindD] at this
      rfl
    subst hde
    refine ⟨.string (a.extract l h), ?_, .d _ _ (.v _)⟩
    have g1 : (0 : Int) ≤ (l : Int) := by omega
    have g2 : (0 : Int) ≤ (h : Int) := by omega
    have g3 : (l : Int) ≤ (h : Int) := by omega
    have g4 : (h : Int) ≤ (a.size : Int) := by omega
    simp only [execOp, ho, e1, Option.map_none]
    generalize lo.map ac.eval = lo' at b1
    generalize hi.map ac.eval = hi' at b2
    rcases b1 with ⟨rfl, rfl⟩ | ⟨k, rfl⟩ <;> rcases b2 with ⟨rfl, rfl⟩ | ⟨k', rfl⟩ <;>
      simp [Instr.sliceAt, Instr.slice, run_underlying tk.und, Instr.sliceBounds, Instr.sliceBound, asIntOf, g1, g2, g3, g4, h1, h2, Nat.not_lt.2 h1, Nat.not_lt.2 h2]
theorem op_strBytes {src dst e : Nat} {x : Operand} {rows : List (List D)} {xs : List Int} {ts td te : TI} (ho : o.op = .convert src dst x) (hs : tcheck X.P src = some ts) (ht : tcheck X.P dst = some td) (he' : ts.elem = some e) (hte : tcheck X.P e = some te) (hi : te.int = some .u8) (hk : td.kind = 2)
    (hx : ev s x = .d (.sl 1 rows)) (hb : bytesD rows = some xs) : OpOK X ops s o { pv := .d (.v (.string (strOfNums xs))) } :=
  opok_read hd fun s' he _ ac w c hc => by
    have e1 := ev_ok hc x
    rw [he x (by simp [ho, Op.operands]), hx] at e1
    generalize hu : ac.eval x = u at e1
    have e1 := repD_inv e1
    obtain ⟨i, d, z, tk⟩ := tck hs
    obtain ⟨i2, d2, z2, tk2⟩ := tck ht
    obtain ⟨i3, d3, z3, tk3⟩ := tck hte
    have hd1 : d = .slice e := by
      have := tk.elem
      rw [he'] at this
      cases d <;> simp [elemD] at this
      rw [this]
    have hd2 : d2 = .string := by
      have := tk2.kind
      rw [hk] at this
      cases d2 <;> simp [kindD] at this
      rfl
    have hd3 : d3 = .int .u8 := by
      have := tk3.int
      rw [hi] at this
      cases d3 <;> simp [intD] at this
      rw [this]
    subst hd1 hd2 hd3
    have hrows := bytesD_eq hb
    refine ⟨.string (strOfNums xs), ?_, .d _ _ (.v _)⟩
    cases e1 with
    | nil _ ao cap hm =>
      have : xs = [] := by cases xs with | nil => rfl | cons a l => simp at hrows
      subst this
      simp only [execOp, ho, hu]
      rw [Sem.run_bind, run_convert_bytes_string w src dst e ao 0 cap tk.und tk3.und tk2.und]
      cases ao with
      | none => rfl
      | some a =>
        have hl : (loadCells a 0).run X.P w = .ok (([] : List Int).map (Value.int .u8)).toArray w := by simp [loadCells, loadCellsFrom]
        rw [run_bytesToString w a 0 cap [] hl]
        rfl
    | sl _ _ b off cap f hM hbl hcl hm hr h1' hcell hrep =>
      have hlen : rows.length = xs.length := by rw [hrows, List.length_map]
      have hce : ∀ i, i < rows.length → w.cell? ⟨b, off + i, none⟩ = some (.int .u8 (xs.getD i 0)) := fun i hi => by
        have h0 := hcell i 0 hi (by omega)
        rw [Nat.mul_one, Nat.add_zero] at h0
        rw [h0]
        obtain ⟨n, hn⟩ : ∃ n, xs[i]? = some n := ⟨_, List.getElem?_eq_getElem (by omega)⟩
        have h2 := hrep i 0 [.v (.int .u8 n)] (.v (.int .u8 n)) (by rw [hrows, List.getElem?_map, hn]; rfl) rfl
        rw [List.getD_eq_getElem?_getD, hn, Option.getD_some]
        generalize f i 0 = fv at h2
        cases h2
        rfl
      have hr' := run_convert_bytes_arg (P := X.P) w src e tk.und tk3.und b off rows.length cap xs hlen.symm hce dst tk2.und
      simp only [execOp, ho, hu]
      rw [Sem.run_bind, hr']
      rfl
/-- A cell of an array's address. -/
theorem op_arrAddr {t e n sz k off : Nat} {x y : Operand} {kd : IntKind} {i : Int} {ti te : TI} (ho : o.op = .indexAddr t x y) (ht : tcheck X.P t = some ti) (ha : ti.arr = some (n, e)) (hte : tcheck X.P e = some te) (hsz : te.size = sz)
    (hx : ev s x = .ptr k off) (hy : ev s y = .d (.v (.int kd i))) (hi : 0 ≤ i) (hlt : i.toNat < n) : OpOK X ops s o { pv := .ptr k (off + i.toNat * sz) } :=
  opok_read hd fun s' he _ ac w c hc => by
    have e1 := ev_ok hc x
    rw [he x (by simp [ho, Op.operands]), hx] at e1
    have e2 := ev_v' hc ((he y (by simp [ho, Op.operands])).trans hy)
    generalize hu : ac.eval x = u at e1
    obtain ⟨ii, d, z, tk⟩ := tck ht
    obtain ⟨ie, de, ze, tke⟩ := tck hte
    have hde : d = .array n e := by
      have := tk.arr
      rw [ha] at this
      cases d <;> simp [arrD] at this
      rw [this.1, this.2]
    subst hde
    cases e1 with
    | ptr _ _ b hb =>
      have hcond : 0 ≤ i ∧ i < (n : Int) := ⟨hi, by omega⟩
      refine ⟨.pointer (some ⟨b, off + i.toNat * sz, none⟩), ?_, .ptr k _ b hb⟩
      simp [execOp, ho, hu, e2, Instr.indexAt, Instr.sureAddr, asIntOf, run_underlying tk.und, hcond, sizeOf, typeInfo, tke.info, tke.size, hsz, Addr.add_lit]
/-- A part of an array. -/
theorem op_arrIndex {t e n : Nat} {x y : Operand} {kd : IntKind} {i : Int} {ti te : TI} {ds : List D} {q : D} (ho : o.op = .index t x y) (ht : tcheck X.P t = some ti) (ha : ti.arr = some (n, e)) (hte : tcheck X.P e = some te) (hsz : te.size = 1) (hag : te.agg = false)
    (hx : ev s x = .d (.agg ds)) (hy : ev s y = .d (.v (.int kd i))) (hi : 0 ≤ i) (hlt : i.toNat < n) (hq : ds[i.toNat]? = some q) : OpOK X ops s o { pv := .d q } :=
  opok_read hd fun s' he _ ac w c hc => by
    have e1 := ev_ok hc x
    rw [he x (by simp [ho, Op.operands]), hx] at e1
    have e2 := ev_v' hc ((he y (by simp [ho, Op.operands])).trans hy)
    generalize hu : ac.eval x = u at e1
    obtain ⟨ii, d, z, tk⟩ := tck ht
    obtain ⟨ie, de, ze, tke⟩ := tck hte
    have hde : d = .array n e := by
      have := tk.arr
      rw [ha] at this
      cases d <;> simp [arrD] at this
      rw [this.1, this.2]
    subst hde
    have e1 := repD_inv e1
    cases e1 with
    | agg _ vs hl h1 hrep =>
      have hcond : 0 ≤ i ∧ i < (n : Int) := ⟨hi, by omega⟩
      have hlt2 : i.toNat < vs.length := by rw [← hl]; exact (List.getElem?_eq_some_iff.1 hq).1
      have hagg : (isAgg e).run X.P w = .ok false w := by
        unfold isAgg
        rw [Sem.run_bind, run_underlying tke.und w]
        have := tke.agg
        rw [hag] at this
        cases de <;> simp [aggD] at this ⊢
      refine ⟨vs[i.toNat], ?_, .d _ _ (hrep i.toNat q _ hq (List.getElem?_eq_getElem hlt2))⟩
      simp [execOp, ho, hu, e2, Instr.index, asIntOf, run_underlying tk.und, hcond, sizeOf, typeInfo, tke.info, tke.size, hsz, part, hagg, List.getElem?_eq_getElem hlt2]
theorem op_buildArr {t n e : Nat} {parts : Array (Nat × Operand)} {ti te : TI} {pd : List (Nat × List PV)} {out : List PV} (ho : o.op = .build t parts) (ht : tcheck X.P t = some ti) (ha : ti.arr = some (n, e)) (hte : tcheck X.P e = some te)
    (hp : pd.length = parts.size) (hq : ∀ (j : Nat) (i : Nat) (x : Operand), parts[j]? = some (i, x) → pd[j]? = some (i, cellsP (ev s x)) ∧ okP (ev s x) = true) (hf : fillD ((List.range n).map fun i => (i * te.size, te.size)) (ti.zero.map fun x => .d (.v x)) pd = some out) :
    OpOK X ops s o { pv := aggP out } := by
  obtain ⟨ii, d, z, tk⟩ := tck ht
  obtain ⟨ie, de, ze, tke⟩ := tck hte
  have hde : d = .array n e := by
    have := tk.arr
    rw [ha] at this
    cases d <;> simp [arrD] at this
    rw [this.1, this.2]
  subst hde
  refine op_buildP hd ho ht (place := fun i => some (i * te.size, te.size)) (fun i p h => ?_) (fun ps => ?_) hp hq hf
  · rw [List.getElem?_map, Option.map_eq_some_iff] at h
    obtain ⟨m, hm, rfl⟩ := h
    have := (List.getElem?_eq_some_iff.1 hm).2
    simp at this
    rw [this]
  · unfold Program.built
    have : z.cells = ti.zero.toArray := by rw [← tk.zcells]
    simp only [tk.info, tk.und, tk.zero, tke.info, tke.size, this]
omit hd in
theorem run_equal_if {P : Program} {t : Nat} {ms : Array (String × TypeId)} (h : P.underlying t = some (.interface ms)) (d : D) (M : Nat → Prop) (w : World) (v : Value) (hv : RepD M w d v) (hn : d = .nei ∨ d = .v .nilIface) :
    (Op.equal t v .nilIface).run P w = .ok (match d with | .nei => false | _ => true) w := by
  unfold Op.equal
  rcases hn with rfl | rfl
  · cases hv
    show (Op.equalIn (9999 + 1) t _ .nilIface).run P w = _
    rw [Op.equalIn, Sem.run_bind, run_underlying h]
    rfl
  · cases hv
    show (Op.equalIn (9999 + 1) t .nilIface .nilIface).run P w = _
    rw [Op.equalIn, Sem.run_bind, run_underlying h]
    rfl
/-- An interface value held against nil. -/
theorem op_nilIf {op : BinOp} {t t' : Nat} {x : Operand} {d : D} {ti : TI} {r : Bool} (ho : o.op = .binOp op t x (.const .nilIface) t') (ht : tcheck X.P t = some ti) (hk : ti.kind = 5) (hx : ev s x = .d d) (hn : d = .nei ∨ d = .v .nilIface)
    (hr : (op = .eql ∧ r = (match d with | .nei => false | _ => true)) ∨ (op = .neq ∧ r = !(match d with | .nei => false | _ => true))) : OpOK X ops s o { pv := .d (.v (.bool r)) } :=
  opok_read hd fun s' he _ ac w c hc => by
    have e1 := ev_ok hc x
    rw [he x (by simp [ho, Op.operands]), hx] at e1
    generalize hu : ac.eval x = u at e1
    have e1 := repD_inv e1
    obtain ⟨i, dd, z, tk⟩ := tck ht
    have hde : ∃ ms, dd = .interface ms := by
      have := tk.kind
      rw [hk] at this
      cases dd <;> simp [kindD] at this
      exact ⟨_, rfl⟩
    obtain ⟨ms, rfl⟩ := hde
    have hq := run_equal_if tk.und d _ w u e1 hn
    have hg : eqGuard op t x (.const .nilIface) u .nilIface = pure () := by
      rcases hn with rfl | rfl
      · cases e1
        rcases hr with ⟨rfl, -⟩ | ⟨rfl, -⟩ <;> rfl
      · cases e1
        exact eqGuard_nil_constR _ _ _ _
    refine ⟨.bool r, ?_, .d _ _ (.v _)⟩
    have hb : (binOp op t u .nilIface).run X.P w = .ok (.bool r) w := by
      rcases hn with rfl | rfl
      · cases e1
        rcases hr with ⟨rfl, rfl⟩ | ⟨rfl, rfl⟩ <;> simp [binOp, hq]
      · cases e1
        rcases hr with ⟨rfl, rfl⟩ | ⟨rfl, rfl⟩ <;> simp [binOp, hq]
    have hk2 : ac.eval (.const .nilIface) = .nilIface := rfl
    simp [execOp, ho, hu, hk2, hg, hb]
/-- A shift by a number of another kind. -/
theorem op_shift {op : BinOp} {t t' : Nat} {x y : Operand} {k k' : IntKind} {m n : Int} {r : Value} (ho : o.op = .binOp op t x y t') (hop : op = .shl ∨ op = .shr) (hx : ev s x = .d (.v (.int k m))) (hy : ev s y = .d (.v (.int k' n))) (hr : intS op k m n = some r) :
    OpOK X ops s o { pv := .d (.v r) } :=
  opok_read hd fun s' he _ a w c hc => by
    have h1 := ev_v' hc ((he x (by simp [ho, Op.operands])).trans hx)
    have h2 := ev_v' hc ((he y (by simp [ho, Op.operands])).trans hy)
    refine ⟨r, ?_, .d _ _ (.v _)⟩
    rcases hop with rfl | rfl
    · simp [intS] at hr
      obtain ⟨h0, rfl⟩ := hr
      simp [execOp, ho, h1, h2, eqGuard, binOp, Op.shift, Int.not_lt.2 h0]
    · simp [intS] at hr
      obtain ⟨h0, rfl⟩ := hr
      simp [execOp, ho, h1, h2, eqGuard, binOp, Op.shift, Int.not_lt.2 h0]
end
end Go.Proofs.YtmkdihmmihpibaaDoor
namespace Go.Proofs.YtmkdihmmihpibaaDoor
open Go Go.RowKit
def bs (l : List UInt8) : ByteArray := ⟨l.toArray⟩
theorem bs_size (l : List UInt8) : (bs l).size = l.length := by simp [bs, ByteArray.size]
theorem bs_list (l : List UInt8) : (bs l).data.toList = l := rfl
theorem bs_of (s : ByteArray) : bs s.data.toList = s := rfl
theorem bs_app (l m : List UInt8) : bs l ++ bs m = bs (l ++ m) := by
  apply ByteArray.ext
  simp [bs]
theorem bs_inj {l m : List UInt8} : bs l = bs m ↔ l = m := by
  constructor
  · intro h; exact congrArg (fun s : ByteArray => s.data.toList) h
  · intro h; rw [h]
theorem bs_part (l : List UInt8) (a b : Nat) : (bs l).extract a b = bs ((l.take b).drop a) := by
  apply ByteArray.ext
  simp [bs, List.extract_eq_take_drop, List.drop_take]
theorem bs_num (xs : List Int) : strOfNums xs = bs (xs.map fun n => UInt8.ofNat n.toNat) := rfl
/-- A number's digits. -/
def dS (n : Nat) : List UInt8 := Lib.decDigits n
theorem dS_small {n : Nat} (h : n < 10) : dS n = [UInt8.ofNat (48 + n)] := Lib.decDigits_one h
theorem dS_step {n : Nat} (h : ¬ n < 10) : dS n = dS (n / 10) ++ [UInt8.ofNat (48 + n % 10)] := by
  unfold dS
  rw [Lib.decDigits, dif_neg h]
theorem dS_len : ∀ n : Nat, n ≤ 9223372036854775807 → (dS n).length ≤ 19 := by
  have key : ∀ k n : Nat, n < 10 ^ (k + 1) → (dS n).length ≤ k + 1 := by
    intro k
    induction k with
    | zero => intro n h; rw [dS_small (by simpa using h)]; simp
    | succ k ih =>
      intro n h
      by_cases h1 : n < 10
      · rw [dS_small h1]; simp
      · rw [dS_step h1, List.length_append]
        have := ih (n / 10) (by rw [Nat.pow_succ] at h; omega)
        simp; omega
  intro n h
  exact key 18 n (by omega)
end Go.Proofs.YtmkdihmmihpibaaDoor
namespace Go.Proofs.YtmkdihmmihpibaaDoor
open Go Go.RowKit
theorem effH_gone (T : List Nat) (h : Nat → Chunk) (k : Nat) : effH (T.map fun k => (k, .gone)) h k = if k ∈ T then .gone else h k := by
  induction T with
  | nil => simp [effH]
  | cons a T ih =>
    simp only [List.map_cons, effH]
    by_cases e : k = a
    · simp [e]
    · rw [if_neg e, ih]
      simp [e]
/-- Chunks are given away: nobody writes them any more. -/
theorem RealC.freeze {X : Cfg} {s : FS} {a : Act} {w : World} {c : Cx} (h : RealC X s a w c) (T : List Nat) :
    RealC X { s with heap := effH (T.map fun k => (k, .gone)) s.heap } a w { c with M := lessM c s.heap T } := by
  have hat := effH_gone T s.heap
  have hk := less_keep c s.heap T w
  have hblk : ∀ k ch, Cx.block { c with M := lessM c s.heap T } k ch = c.block k ch := fun k ch => by cases ch <;> rfl
  have hle : c.le { c with M := lessM c s.heap T } := ⟨fun _ _ h => h, fun _ _ _ h => h⟩
  refine ⟨h.size, h.defers, h.ext, h.inv, h.fresh, fun b => ?_, fun k b hb => ?_, fun k k' b hb hb' => ?_, fun t => (h.env t).keep hle hk, fun k => ?_, h.lent⟩
  · constructor
    · rintro ⟨hm, hT⟩
      rcases (h.mu b).1 hm with h0 | ⟨k, hkb⟩
      · exact .inl h0
      · refine .inr ⟨k, ?_⟩
        have hnT : k ∉ T := fun hin => hT k hin hkb
        simp only [hat, if_neg hnT, hblk]
        exact hkb
    · rintro (h0 | ⟨k, hkb⟩)
      · refine ⟨(h.mu b).2 (.inl h0), fun k _ e => ?_⟩
        rcases (h.new k b e).1 with h1 | h1
        · exact (h.fresh b h0).2 h1
        · have := (h.fresh b h0).1
          omega
      · simp only [hat, hblk] at hkb
        split at hkb
        · simp [Cx.block] at hkb
        · rename_i hnT
          refine ⟨(h.mu b).2 (.inr ⟨k, hkb⟩), fun k' hk' e => ?_⟩
          have := h.apart k k' b hkb e
          subst this
          exact hnT hk'
  · simp only [hat, hblk] at hb
    split at hb
    · simp [Cx.block] at hb
    · exact h.new k b hb
  · simp only [hat, hblk] at hb hb'
    split at hb
    · simp [Cx.block] at hb
    · split at hb'
      · simp [Cx.block] at hb'
      · exact h.apart k k' b hb hb'
  · simp only [hat]
    split
    · exact .gone
    · exact (h.chunk k).keep hle hk (fun _ _ => rfl) rfl rfl
abbrev Env := List (Nat × PV)
def look : Env → Nat → PV
  | [], _ => .any
  | (a, p) :: l, t => if t = a then p else look l t
def hatL : List Chunk → Nat → Chunk
  | [], _ => .none
  | c :: _, 0 => c
  | _ :: l, k + 1 => hatL l k
def mkF (e : Env) (h : List Chunk) : FS := ⟨look e, hatL h⟩
def evL (e : Env) : Operand → PV
  | .tmp t => look e t
  | .const v => .d (.v v)
  | .func f => .d (.clo f [])
  | .global _ => .any
theorem ev_mk (e : Env) (h : List Chunk) (x : Operand) : ev (mkF e h) x = evL e x := by cases x <;> rfl
mutual
def belowP (n : Nat) : PV → Bool
  | .ptr k _ => decide (k < n)
  | .own k _ => decide (k < n)
  | .rp k _ _ _ _ => decide (k < n)
  | .osl k _ _ _ _ => decide (k < n)
  | .mref k => decide (k < n)
  | .agg l => belowL n l
  | .tup l => belowL n l
  | .clo _ caps => belowL n caps
  | .d _ => true
  | .any => true
def belowL (n : Nat) : List PV → Bool
  | [] => true
  | p :: l => belowP n p && belowL n l
end
theorem belowL_mem {n : Nat} : ∀ {l : List PV}, belowL n l = true → ∀ p ∈ l, belowP n p = true
  | q :: l, h, p, hp => by
    simp only [belowL, Bool.and_eq_true] at h
    rcases List.mem_cons.1 hp with rfl | hp
    · exact h.1
    · exact belowL_mem h.2 p hp
def belowR (n : Nat) : List (List PV) → Bool
  | [] => true
  | r :: l => belowL n r && belowR n l
theorem belowL_d (n : Nat) : ∀ (l : List D), belowL n (l.map .d) = true
  | [] => rfl
  | x :: l => by simp only [List.map_cons, belowL, belowP, belowL_d n l, Bool.and_self]
theorem belowR_d (n : Nat) : ∀ (l : List (List D)), belowR n (dRows l) = true
  | [] => rfl
  | x :: l => by
    have := belowR_d n l
    simp only [dRows] at this
    simp only [dRows, List.map_cons, belowR, belowL_d, this, Bool.and_self]
def belowC (n : Nat) : Chunk → Bool
  | .box _ cells => belowL n cells
  | .row _ _ _ rows => belowR n rows
  | _ => true
def belowH (n : Nat) : List Chunk → Bool
  | [] => true
  | c :: l => belowC n c && belowH n l
def belowE (n : Nat) : Env → Bool
  | [] => true
  | (_, p) :: l => belowP n p && belowE n l
def subE (e : Env) : Env → Prop
  | [] => True
  | (t, p) :: l => look e t = p ∧ subE e l
theorem look_below {n : Nat} : ∀ {e : Env}, belowE n e = true → ∀ t, belowP n (look e t) = true
  | [], _, _ => rfl
  | (t', p) :: l, h, t => by
    simp only [belowE, Bool.and_eq_true] at h
    simp only [look]
    by_cases ht : t = t'
    · rw [if_pos ht]; exact h.1
    · rw [if_neg ht]; exact look_below h.2 t
theorem hat_below {n : Nat} : ∀ {h : List Chunk}, belowH n h = true → ∀ k, belowC n (hatL h k) = true
  | [], _, _ => rfl
  | c :: l, h, k => by
    simp only [belowH, Bool.and_eq_true] at h
    cases k with
    | zero => exact h.1
    | succ k => exact hat_below h.2 k
mutual
/-- Other names of chunks. -/
def ren (ρ : Nat → Nat) : PV → PV
  | .d x => .d x
  | .any => .any
  | .ptr k o => .ptr (ρ k) o
  | .own k g => .own (ρ k) g
  | .rp k g sz i j => .rp (ρ k) g sz i j
  | .osl k g sz a n => .osl (ρ k) g sz a n
  | .clo g caps => .clo g (renL ρ caps)
  | .agg l => .agg (renL ρ l)
  | .tup l => .tup (renL ρ l)
  | .mref k => .mref (ρ k)
def renL (ρ : Nat → Nat) : List PV → List PV
  | [] => []
  | p :: l => ren ρ p :: renL ρ l
end
def renR (ρ : Nat → Nat) : List (List PV) → List (List PV)
  | [] => []
  | r :: l => renL ρ r :: renR ρ l
def renC (ρ : Nat → Nat) : Chunk → Chunk
  | .box T cells => .box T (renL ρ cells)
  | .row E sz g rows => .row E sz g (renR ρ rows)
  | c => c
theorem renL_map (ρ : Nat → Nat) : ∀ (l : List PV), renL ρ l = l.map (ren ρ)
  | [] => rfl
  | p :: l => by simp only [renL, renL_map ρ l, List.map_cons]
theorem renR_map (ρ : Nat → Nat) : ∀ (l : List (List PV)), renR ρ l = l.map (·.map (ren ρ))
  | [] => rfl
  | p :: l => by simp only [renR, renR_map ρ l, renL_map, List.map_cons]
theorem renL_d (ρ : Nat → Nat) : ∀ (l : List D), renL ρ (l.map .d) = l.map .d
  | [] => rfl
  | x :: l => by simp only [List.map_cons, renL, ren, renL_d ρ l]
theorem renR_d (ρ : Nat → Nat) : ∀ (l : List (List D)), renR ρ (dRows l) = dRows l
  | [] => rfl
  | x :: l => by
    have := renR_d ρ l
    simp only [dRows] at this
    simp only [dRows, List.map_cons, renR, renL_d, this]
theorem renR_set (ρ : Nat → Nat) (l : List (List PV)) (i : Nat) (r : List PV) : renR ρ (l.set i r) = (renR ρ l).set i (renL ρ r) := by
  simp only [renR_map, renL_map, List.map_set]
theorem renR_len (ρ : Nat → Nat) (l : List (List PV)) : (renR ρ l).length = l.length := by rw [renR_map, List.length_map]
theorem ren_one (ρ : Nat → Nat) (p : PV) : (ren ρ p).one = p.one := by cases p <;> rfl
theorem renR_flatten (ρ : Nat → Nat) (l : List (List PV)) : (renR ρ l).flatten = l.flatten.map (ren ρ) := by
  rw [renR_map, List.map_flatten]
theorem RepP.ren {c c2 : Cx} {w : World} {ρ : Nat → Nat} {p : PV} {v : Value} (h : RepP c w p v) (hM : ∀ d x, RepD c.M w d x → RepD c2.M w d x) (hb : ∀ k b, c.bl k = some b → c2.bl (ρ k) = some b) (ho : ∀ k g u, c.ov k g = some u → c2.ov (ρ k) g = some u) : RepP c2 w (ren ρ p) v := by
  induction h with
  | d x v h => exact .d x v (hM x v h)
  | any v => exact .any v
  | ptr k off b h => exact .ptr _ off b (hb _ _ h)
  | own k g v h h1 => exact .own _ g v (ho _ _ _ h) h1
  | rp k g sz i j b n cap h => exact .rp _ g sz i j b n cap (ho _ _ _ h)
  | osl k g sz a n b o N cap h hn hc h2 => exact .osl _ g sz a n b o N cap (ho _ _ _ h) hn hc h2
  | clo g caps vs hl hrep ih =>
    refine .clo g _ vs (by rw [renL_map, List.length_map]; exact hl) fun j d x hj hx => ?_
    rw [renL_map, List.getElem?_map, Option.map_eq_some_iff] at hj
    obtain ⟨y, hy, rfl⟩ := hj
    exact ih j y x hy hx
  | agg caps vs hl h1 hrep ih =>
    refine .agg _ vs (by rw [renL_map, List.length_map]; exact hl) (fun d hd => ?_) fun j d x hj hx => ?_
    · rw [renL_map] at hd
      obtain ⟨y, hy, rfl⟩ := List.mem_map.1 hd
      rw [ren_one]; exact h1 y hy
    · rw [renL_map, List.getElem?_map, Option.map_eq_some_iff] at hj
      obtain ⟨y, hy, rfl⟩ := hj
      exact ih j y x hy hx
  | tup caps vs hl hrep ih =>
    refine .tup _ vs (by rw [renL_map, List.length_map]; exact hl) fun j d x hj hx => ?_
    rw [renL_map, List.getElem?_map, Option.map_eq_some_iff] at hj
    obtain ⟨y, hy, rfl⟩ := hj
    exact ih j y x hy hx
  | mref k b h => exact .mref _ b (hb _ _ h)
theorem RepPs.ren {c c2 : Cx} {w : World} {ρ : Nat → Nat} {ps : List PV} {vs : List Value} (h : RepPs c w ps vs) (hM : ∀ d x, RepD c.M w d x → RepD c2.M w d x) (hb : ∀ k b, c.bl k = some b → c2.bl (ρ k) = some b) (ho : ∀ k g u, c.ov k g = some u → c2.ov (ρ k) g = some u) : RepPs c2 w (ps.map (ren ρ)) vs := by
  refine ⟨by rw [List.length_map]; exact h.1, fun j d x hj hx => ?_⟩
  rw [List.getElem?_map, Option.map_eq_some_iff] at hj
  obtain ⟨y, hy, rfl⟩ := hj
  exact (h.2 j y x hy hx).ren hM hb ho
mutual
theorem unren {c c1 : Cx} {w : World} {ρ : Nat → Nat} {m : Nat} (hM : ∀ d x, RepD c.M w d x → RepD c1.M w d x) (hb : ∀ j, j < m → ∀ b, c.bl (ρ j) = some b → c1.bl j = some b) (ho : ∀ j, j < m → ∀ g u, c.ov (ρ j) g = some u → c1.ov j g = some u) : ∀ (p : PV) (v : Value), belowP m p = true → RepP c w (ren ρ p) v → RepP c1 w p v
  | .d x, v, _, h => by
    simp only [Go.Proofs.YtmkdihmmihpibaaDoor.ren] at h
    cases h with | d _ _ h => exact .d x v (hM x v h)
  | .any, v, _, _ => .any v
  | .ptr k off, v, hk, h => by
    simp only [Go.Proofs.YtmkdihmmihpibaaDoor.ren] at h
    simp only [belowP, decide_eq_true_eq] at hk
    cases h with | ptr _ _ b h => exact .ptr k off b (hb k hk b h)
  | .own k g, v, hk, h => by
    simp only [Go.Proofs.YtmkdihmmihpibaaDoor.ren] at h
    simp only [belowP, decide_eq_true_eq] at hk
    cases h with | own _ _ _ h h1 => exact .own k g v (ho k hk g v h) h1
  | .rp k g sz i j, v, hk, h => by
    simp only [Go.Proofs.YtmkdihmmihpibaaDoor.ren] at h
    simp only [belowP, decide_eq_true_eq] at hk
    cases h with | rp _ _ _ _ _ b n cap h => exact .rp k g sz i j b n cap (ho k hk g _ h)
  | .osl k g sz a n, v, hk, h => by
    simp only [Go.Proofs.YtmkdihmmihpibaaDoor.ren] at h
    simp only [belowP, decide_eq_true_eq] at hk
    cases h with | osl _ _ _ _ _ b o N cap h hn hc h2 => exact .osl k g sz a n b o N cap (ho k hk g _ h) hn hc h2
  | .mref k, v, hk, h => by
    simp only [Go.Proofs.YtmkdihmmihpibaaDoor.ren] at h
    simp only [belowP, decide_eq_true_eq] at hk
    cases h with | mref _ b h => exact .mref k b (hb k hk b h)
  | .clo g caps, v, hk, h => by
    simp only [Go.Proofs.YtmkdihmmihpibaaDoor.ren] at h
    simp only [belowP] at hk
    cases h with
    | clo _ _ vs hl hrep =>
      rw [renL_map, List.length_map] at hl
      exact .clo g caps vs hl (unrenL hM hb ho caps vs hk hrep)
  | .agg caps, v, hk, h => by
    simp only [Go.Proofs.YtmkdihmmihpibaaDoor.ren] at h
    simp only [belowP] at hk
    cases h with
    | agg _ vs hl h1 hrep =>
      rw [renL_map, List.length_map] at hl
      refine .agg caps vs hl (fun d hd => ?_) (unrenL hM hb ho caps vs hk hrep)
      rw [← ren_one ρ]
      exact h1 _ (by rw [renL_map]; exact List.mem_map_of_mem hd)
  | .tup caps, v, hk, h => by
    simp only [Go.Proofs.YtmkdihmmihpibaaDoor.ren] at h
    simp only [belowP] at hk
    cases h with
    | tup _ vs hl hrep =>
      rw [renL_map, List.length_map] at hl
      exact .tup caps vs hl (unrenL hM hb ho caps vs hk hrep)
theorem unrenL {c c1 : Cx} {w : World} {ρ : Nat → Nat} {m : Nat} (hM : ∀ d x, RepD c.M w d x → RepD c1.M w d x) (hb : ∀ j, j < m → ∀ b, c.bl (ρ j) = some b → c1.bl j = some b) (ho : ∀ j, j < m → ∀ g u, c.ov (ρ j) g = some u → c1.ov j g = some u) : ∀ (l : List PV) (vs : List Value), belowL m l = true → (∀ (j : Nat) (d : PV) (x : Value), (renL ρ l)[j]? = some d → vs[j]? = some x → RepP c w d x) → ∀ (j : Nat) (d : PV) (x : Value), l[j]? = some d → vs[j]? = some x → RepP c1 w d x
  | [], _, _, _, j, d, x, hj, _ => by simp at hj
  | p :: l, [], _, _, j, d, x, _, hx => by simp at hx
  | p :: l, v :: vs, hk, h, j, d, x, hj, hx => by
    simp only [belowL, Bool.and_eq_true] at hk
    cases j with
    | zero =>
      have e1 : p = d := by simpa using hj
      have e2 : v = x := by simpa using hx
      rw [← e1, ← e2]
      exact unren hM hb ho p v hk.1 (h 0 _ v rfl rfl)
    | succ j => exact unrenL hM hb ho l vs hk.2 (fun j d x h1 h2 => h (j + 1) d x h1 (by simpa using h2)) j d x (by simpa using hj) (by simpa using hx)
end
theorem belowR_flat {m : Nat} {rows : List (List PV)} (h : belowR m rows = true) : belowL m rows.flatten = true := by
  induction rows with
  | nil => rfl
  | cons r rows ih =>
    simp only [belowR, Bool.and_eq_true] at h
    have app : ∀ (a b : List PV), belowL m a = true → belowL m b = true → belowL m (a ++ b) = true := by
      intro a b ha hb
      induction a with
      | nil => exact hb
      | cons x a iha =>
        simp only [belowL, Bool.and_eq_true] at ha
        simp only [List.cons_append, belowL, ha.1, iha ha.2, Bool.and_self]
    rw [List.flatten_cons]
    exact app _ _ h.1 (ih h.2)
/-- The callee's frame holds nothing that counts. -/
def act0 : Act := { tmps := #[], defers := [] }
/-- What is proved of a function that chunks are lent to: what it returns, and what it leaves of them; the lent ones come first. -/
structure MSpec (P : Program) (f : Nat) (args : List PV) (h0 : List Chunk) (r : PV) (h1 : List Chunk) : Prop where
  fn : FnOK P f
  le : h0.length ≤ h1.length
  ba : belowL h0.length args = true
  bh : belowH h0.length h0 = true
  run : ∀ X : Cfg, X.P = P → X.n = 0 → X.m = h0.length → ∀ (w : World) (c : Cx) (vs : List Value), RealC X (mkF [] h0) act0 w c → RepPs c w args vs →
    Calls P f vs.toArray w fun e w' => ∃ v c', e = .returned v ∧ RepP c' w' r v ∧ RealC X (mkF [] h1) act0 w' c'
/-- Where the callee's chunks lie with the caller: the lent ones as listed, new ones from nk on. -/
def rid : List Nat → Nat → Nat → Nat
  | [], nk, j => nk + j
  | k :: _, _, 0 => k
  | _ :: l, nk, j + 1 => rid l nk j
theorem rid_new : ∀ (ls : List Nat) (nk j : Nat), rid ls nk (ls.length + j) = nk + j
  | [], nk, j => by simp [rid]
  | k :: l, nk, j => by
    rw [List.length_cons, show l.length + 1 + j = (l.length + j) + 1 by omega]
    exact rid_new l nk j
theorem rid_old : ∀ {ls : List Nat} {nk j : Nat}, j < ls.length → ls[j]? = some (rid ls nk j)
  | k :: l, nk, 0, _ => rfl
  | k :: l, nk, j + 1, h => by simpa [rid] using rid_old (ls := l) (nk := nk) (j := j) (by simpa using h)
theorem rid_inj {ls : List Nat} {nk : Nat} (hn : ls.Nodup) (hlt : ∀ k ∈ ls, k < nk) {i j : Nat} (h : rid ls nk i = rid ls nk j) : i = j := by
  have old : ∀ i, i < ls.length → rid ls nk i < nk := fun i hi => hlt _ (List.mem_of_getElem? (rid_old hi))
  rcases Nat.lt_or_ge i ls.length with hi | hi <;> rcases Nat.lt_or_ge j ls.length with hj | hj
  · have h1 := rid_old (nk := nk) hi
    have h2 := rid_old (nk := nk) hj
    rw [h] at h1
    rw [List.getElem?_eq_getElem hi] at h1
    rw [List.getElem?_eq_getElem hj] at h2
    have h3 : ls[i] = ls[j] := Option.some.inj (h1.trans h2.symm)
    exact (List.getElem_inj (h₀ := hi) (h₁ := hj) hn).1 h3
  · have := old i hi
    have h2 := rid_new ls nk (j - ls.length)
    rw [show ls.length + (j - ls.length) = j by omega] at h2
    omega
  · have := old j hj
    have h2 := rid_new ls nk (i - ls.length)
    rw [show ls.length + (i - ls.length) = i by omega] at h2
    omega
  · have h1 := rid_new ls nk (i - ls.length)
    have h2 := rid_new ls nk (j - ls.length)
    rw [show ls.length + (i - ls.length) = i by omega] at h1
    rw [show ls.length + (j - ls.length) = j by omega] at h2
    omega
def effM (ρ : Nat → Nat) : Nat → List Chunk → List (Nat × Chunk)
  | _, [] => []
  | j, c :: l => (ρ j, renC ρ c) :: effM ρ (j + 1) l
def lentOK (h : Nat → Chunk) (ρ : Nat → Nat) : Nat → List Chunk → Prop
  | _, [] => True
  | j, c :: l => h (ρ j) = renC ρ c ∧ lentOK h ρ (j + 1) l
theorem lentOK_at {h : Nat → Chunk} {ρ : Nat → Nat} : ∀ {l : List Chunk} {i : Nat}, lentOK h ρ i l → ∀ {j : Nat}, j < l.length → h (ρ (i + j)) = renC ρ (hatL l j)
  | c :: l, i, ⟨h1, h2⟩, 0, _ => h1
  | c :: l, i, ⟨h1, h2⟩, j + 1, hj => by
    have := lentOK_at h2 (j := j) (by simpa using hj)
    rw [show i + 1 + j = i + (j + 1) by omega] at this
    exact this
theorem effM_keys (ρ : Nat → Nat) : ∀ (l : List Chunk) (i : Nat), (effM ρ i l).map (·.1) = (List.range l.length).map fun j => ρ (i + j)
  | [], i => rfl
  | c :: l, i => by
    rw [effM, List.map_cons, effM_keys ρ l (i + 1), List.length_cons, List.range_succ_eq_map, List.map_cons, List.map_map]
    congr 1
    refine List.map_congr_left fun j _ => ?_
    simp only [Function.comp]
    rw [show i + 1 + j = i + (j + 1) by omega]
theorem effM_at {ρ : Nat → Nat} (hinj : ∀ i j, ρ i = ρ j → i = j) {h : Nat → Chunk} : ∀ (l : List Chunk) (i j : Nat), j < l.length → effH (effM ρ i l) h (ρ (i + j)) = renC ρ (hatL l j)
  | c :: l, i, 0, _ => by simp [effM, effH, hatL]
  | c :: l, i, j + 1, hj => by
    simp only [effM, effH]
    rw [if_neg (fun e => by have := hinj _ _ e; omega)]
    have := effM_at hinj (h := h) l (i + 1) j (by simpa using hj)
    rw [show i + 1 + j = i + (j + 1) by omega] at this
    exact this
theorem effM_off {ρ : Nat → Nat} {h : Nat → Chunk} {k : Nat} : ∀ (l : List Chunk) (i : Nat), (∀ j, j < l.length → ρ (i + j) ≠ k) → effH (effM ρ i l) h k = h k
  | [], _, _ => rfl
  | c :: l, i, hk => by
    simp only [effM, effH]
    rw [if_neg (fun e => hk 0 (by simp) (by simpa using e.symm))]
    exact effM_off l (i + 1) fun j hj e => hk (j + 1) (by simpa using hj) (by rw [← e]; congr 1; omega)
end Go.Proofs.YtmkdihmmihpibaaDoor
namespace Go.Proofs.YtmkdihmmihpibaaDoor
open Go Go.RowKit
theorem unrenC {c c1 : Cx} {w : World} {ρ : Nat → Nat} {m j : Nat} {ch : Chunk} (hM : ∀ d x, RepD c.M w d x → RepD c1.M w d x) (hb : ∀ j, j < m → ∀ b, c.bl (ρ j) = some b → c1.bl j = some b) (ho : ∀ j, j < m → ∀ g u, c.ov (ρ j) g = some u → c1.ov j g = some u)
    (hbn : c1.bl j = c.bl (ρ j)) (hon : c1.ov j = c.ov (ρ j)) (hbel : belowC m ch = true) (h : ChunkOK c w (ρ j) (renC ρ ch)) : ChunkOK c1 w j ch := by
  cases ch with
  | none => cases h with | none h1 h2 => exact .none (hbn.trans h1) (fun g => by rw [hon]; exact h2 g)
  | gone => exact .gone
  | mp nB sB ents => cases h with | mp _ _ _ b hb hh hn => exact .mp nB sB ents b (hbn.trans hb) hh hn
  | box T cells =>
    cases h with
    | box _ _ b vs h1 h2 h3 h4 =>
      refine .box T cells b vs (hbn.trans h1) h2 ⟨by rw [← h3.1, renL_map, List.length_map], unrenL hM hb ho cells vs (by simpa [belowC] using hbel) h3.2⟩ (fun d hd => ?_)
      rw [← ren_one ρ]
      exact h4 _ (by rw [renL_map]; exact List.mem_map_of_mem hd)
  | row E sz g rows =>
    cases h with
    | row _ _ _ _ v xs h1 h2 h3 h4 h5 h6 =>
      rw [renR_len] at h2
      rw [renR_flatten] at h3
      refine .row E sz g rows v xs (by rw [hon]; exact h1) h2 ⟨by rw [← h3.1, List.length_map], unrenL (ρ := ρ) hM hb ho rows.flatten xs (belowR_flat (by simpa [belowC] using hbel)) (fun j d x hj hx => h3.2 j d x (by rw [← renL_map]; exact hj) hx)⟩ (fun r hr => ?_) (fun r hr d hd => ?_) (fun g' hg => by rw [hon]; exact h6 g' hg)
      · have := h4 (r.map (ren ρ)) (by rw [renR_map]; exact List.mem_map_of_mem (f := (List.map (ren ρ))) hr)
        simpa using this
      · have := h5 (r.map (ren ρ)) (by rw [renR_map]; exact List.mem_map_of_mem (f := (List.map (ren ρ))) hr) (ren ρ d) (List.mem_map_of_mem hd)
        rwa [ren_one] at this
theorem renC_ok {c c2 : Cx} {w : World} {ρ : Nat → Nat} {j : Nat} {ch : Chunk} (hM : ∀ d x, RepD c.M w d x → RepD c2.M w d x) (hb : ∀ k b, c.bl k = some b → c2.bl (ρ k) = some b) (ho : ∀ k g u, c.ov k g = some u → c2.ov (ρ k) g = some u)
    (hbn : c2.bl (ρ j) = c.bl j) (hon : c2.ov (ρ j) = c.ov j) (h : ChunkOK c w j ch) : ChunkOK c2 w (ρ j) (renC ρ ch) := by
  cases h with
  | none h1 h2 => exact .none (hbn.trans h1) (fun g => by rw [hon]; exact h2 g)
  | gone => exact .gone
  | mp nB sB ents b hb hh hn => exact .mp nB sB ents b (hbn.trans hb) hh hn
  | box T cells b vs h1 h2 h3 h4 =>
    refine .box T _ b vs (hbn.trans h1) h2 (by rw [renL_map]; exact h3.ren hM hb ho) (fun d hd => ?_)
    rw [renL_map] at hd
    obtain ⟨y, hy, rfl⟩ := List.mem_map.1 hd
    rw [ren_one]; exact h4 y hy
  | row E sz g rows v xs h1 h2 h3 h4 h5 h6 =>
    refine .row E sz g _ v xs (by rw [hon]; exact h1) (by rw [renR_len]; exact h2) (by rw [renR_flatten]; exact h3.ren hM hb ho) (fun r hr => ?_) (fun r hr d hd => ?_) (fun g' hg => by rw [hon]; exact h6 g' hg)
    · rw [renR_map] at hr
      obtain ⟨y, hy, rfl⟩ := List.mem_map.1 hr
      rw [List.length_map]; exact h4 y hy
    · rw [renR_map] at hr
      obtain ⟨y, hy, rfl⟩ := List.mem_map.1 hr
      obtain ⟨z, hz, rfl⟩ := List.mem_map.1 hd
      rw [ren_one]; exact h5 y hy z hz
theorem block_ren {c c1 : Cx} {ρ : Nat → Nat} {j : Nat} {ch : Chunk} (hb : c1.bl j = c.bl (ρ j)) (ho : c1.ov j = c.ov (ρ j)) : c1.block j ch = c.block (ρ j) (renC ρ ch) := by
  cases ch <;> simp [Cx.block, renC, hb, ho]
theorem hat_over : ∀ (l : List Chunk) (k : Nat), l.length ≤ k → hatL l k = .none
  | [], _, _ => rfl
  | c :: l, 0, h => by simp at h
  | c :: l, k + 1, h => by simpa [hatL] using hat_over l k (by simpa using h)
/-- What a callee leaves, with the caller's names. -/
theorem RealC.back {X : Cfg} {s : FS} {a : Act} {w w' : World} {c c2 : Cx} (hc : RealC X s a w c) {h0 h1 : List Chunk} {ls : List Nat} {nk : Nat} {X1 : Cfg} (hX1 : X1.w0 = w ∧ X1.m = h0.length ∧
      (∀ b, X1.L b ↔ ∃ j, j < h0.length ∧ c.block (rid ls nk j) (s.heap (rid ls nk j)) = some b) ∧ (∀ b, X1.M0 b ↔ c.M b ∧ ¬ X1.L b) ∧ (∀ j, j < h0.length → X1.c0.bl j = c.bl (rid ls nk j) ∧ X1.c0.ov j = c.ov (rid ls nk j)))
    (hle01 : h0.length ≤ h1.length) (hl : ls.length = h0.length) (hnd : ls.Nodup) (hlt : ∀ k ∈ ls, k < nk) (hnew : ∀ i, h0.length + i < h1.length → s.heap (nk + i) = .none) (hnkm : X.m ≤ nk)
    (h : RealC X1 (mkF [] h1) act0 w' c2) {p : PV} {v : Value} (hp : RepP c2 w' p v) :
    ∃ c3, RealC X { s with heap := effH (effM (rid ls nk) 0 h1) s.heap } a w' c3 ∧ RepP c3 w' (ren (rid ls nk) p) v := by
  obtain ⟨hw0, hm1, hL, hM0, hc0⟩ := hX1
  generalize hρ : rid ls nk = ρ at *
  have inj : ∀ i j, ρ i = ρ j → i = j := fun i j e => by rw [← hρ] at e; exact rid_inj hnd hlt e
  have new_id : ∀ i, ρ (h0.length + i) = nk + i := fun i => by rw [← hρ, ← hl]; exact rid_new ls nk i
  have old_id : ∀ j, j < h0.length → ρ j < nk := fun j hj => by rw [← hρ]; exact hlt _ (List.mem_of_getElem? (rid_old (by omega)))
  have new_none : ∀ j, h0.length ≤ j → j < h1.length → s.heap (ρ j) = .none := fun j h2 h3 => by
    have := new_id (j - h0.length)
    rw [show h0.length + (j - h0.length) = j by omega] at this
    rw [this]
    exact hnew _ (by omega)
  have hlent := h.lent
  rw [hm1] at hlent
  let c3 : Cx := { M := c2.M, bl := fun k => open Classical in if e : ∃ j, j < h1.length ∧ ρ j = k then c2.bl e.choose else c.bl k, ov := fun k => open Classical in if e : ∃ j, j < h1.length ∧ ρ j = k then c2.ov e.choose else c.ov k }
  have in_bl : ∀ j, j < h1.length → c3.bl (ρ j) = c2.bl j ∧ c3.ov (ρ j) = c2.ov j := by
    intro j hj
    have e : ∃ i, i < h1.length ∧ ρ i = ρ j := ⟨j, hj, rfl⟩
    have e2 := inj _ _ e.choose_spec.2
    refine ⟨?_, ?_⟩
    · show (if e : ∃ i, i < h1.length ∧ ρ i = ρ j then c2.bl e.choose else c.bl (ρ j)) = _
      rw [dif_pos e, e2]
    · show (if e : ∃ i, i < h1.length ∧ ρ i = ρ j then c2.ov e.choose else c.ov (ρ j)) = _
      rw [dif_pos e, e2]
  have off_bl : ∀ k, (∀ j, j < h1.length → ρ j ≠ k) → c3.bl k = c.bl k ∧ c3.ov k = c.ov k := by
    intro k hk
    have e : ¬ ∃ j, j < h1.length ∧ ρ j = k := fun ⟨j, h1, h2⟩ => hk j h1 h2
    refine ⟨?_, ?_⟩
    · show (if e : ∃ i, i < h1.length ∧ ρ i = k then c2.bl e.choose else c.bl k) = _
      rw [dif_neg e]
    · show (if e : ∃ i, i < h1.length ∧ ρ i = k then c2.ov e.choose else c.ov k) = _
      rw [dif_neg e]
  have far : ∀ j, h1.length ≤ j → c2.bl j = none ∧ ∀ g, c2.ov j g = none := by
    intro j hj
    have := h.chunk j
    rw [show (mkF [] h1).heap j = .none from hat_over h1 j hj] at this
    cases this with | none a b => exact ⟨a, b⟩
  have fwd_b : ∀ k b, c2.bl k = some b → c3.bl (ρ k) = some b := by
    intro k b hb
    rcases Nat.lt_or_ge k h1.length with hk | hk
    · rw [(in_bl k hk).1]; exact hb
    · rw [(far k hk).1] at hb; cases hb
  have fwd_o : ∀ k g u, c2.ov k g = some u → c3.ov (ρ k) g = some u := by
    intro k g u hu
    rcases Nat.lt_or_ge k h1.length with hk | hk
    · rw [(in_bl k hk).2]; exact hu
    · rw [(far k hk).2] at hu; cases hu
  have lent_bl : ∀ j, j < h0.length → c2.bl j = c.bl (ρ j) ∧ ∀ g u, c.ov (ρ j) g = some u → c2.ov j g = some u := by
    intro j hj
    obtain ⟨q1, q2⟩ := hlent j hj
    obtain ⟨q3, q4⟩ := hc0 j hj
    exact ⟨q1.trans q3, fun g u hu => q2 g u (by rw [q4]; exact hu)⟩
  have hle : c.le c3 := by
    refine ⟨fun k b hb => ?_, fun k g u hu => ?_⟩
    · by_cases e : ∃ j, j < h1.length ∧ ρ j = k
      · obtain ⟨j, hj, rfl⟩ := e
        rw [(in_bl j hj).1]
        rcases Nat.lt_or_ge j h0.length with h2 | h2
        · rw [(lent_bl j h2).1]; exact hb
        · have := hc.chunk (ρ j)
          rw [new_none j h2 hj] at this
          cases this with | none a b2 => rw [a] at hb; cases hb
      · rw [(off_bl k fun j hj e2 => e ⟨j, hj, e2⟩).1]; exact hb
    · by_cases e : ∃ j, j < h1.length ∧ ρ j = k
      · obtain ⟨j, hj, rfl⟩ := e
        rw [(in_bl j hj).2]
        rcases Nat.lt_or_ge j h0.length with h2 | h2
        · exact (lent_bl j h2).2 g u hu
        · have := hc.chunk (ρ j)
          rw [new_none j h2 hj] at this
          cases this with | none a b2 => rw [b2] at hu; cases hu
      · rw [(off_bl k fun j hj e2 => e ⟨j, hj, e2⟩).2]; exact hu
  have blk_in : ∀ j, j < h1.length → c3.block (ρ j) (effH (effM ρ 0 h1) s.heap (ρ j)) = c2.block j (hatL h1 j) := by
    intro j hj
    have e := effM_at inj (h := s.heap) h1 0 j hj
    rw [Nat.zero_add] at e
    rw [e]
    exact (block_ren (in_bl j hj).1.symm (in_bl j hj).2.symm).symm
  have blk_off : ∀ k, (∀ j, j < h1.length → ρ j ≠ k) → effH (effM ρ 0 h1) s.heap k = s.heap k ∧ c3.block k (s.heap k) = c.block k (s.heap k) := by
    intro k hk
    refine ⟨effM_off h1 0 fun j hj => by rw [Nat.zero_add]; exact hk j hj, ?_⟩
    obtain ⟨q1, q2⟩ := off_bl k hk
    cases s.heap k <;> simp [Cx.block, q1, q2]
  have blk_far : ∀ j b, c2.block j (hatL h1 j) = some b → j < h1.length := by
    intro j b hb
    rcases Nat.lt_or_ge j h1.length with hj | hj
    · exact hj
    · rw [hat_over h1 j hj] at hb; cases hb
  have hext := h.ext
  rw [hw0] at hext
  have L_M : ∀ b, X1.L b → c.M b := fun b hb => by
    obtain ⟨j, hj, e⟩ := (hL b).1 hb
    exact (hc.mu b).2 (.inr ⟨_, e⟩)
  have L_new : ∀ b, X1.L b → X.L b ∨ X.w0.heap.size ≤ b := fun b hb => by
    obtain ⟨j, hj, e⟩ := (hL b).1 hb
    exact (hc.new _ b e).1
  have hmu2 := h.mu
  have hkp : Keep c.M w c3.M w' := by
    refine ⟨hext.size, fun b hb hm => hext.block b hb (fun e => hm (L_M b e)), fun b hb hm => ?_⟩
    rcases (hmu2 b).1 hm with h2 | ⟨k, h2⟩
    · exact ((hM0 b).1 h2).1
    · rcases (h.new k b h2).1 with h3 | h3
      · exact L_M b h3
      · rw [hw0] at h3; omega
  have off_L : ∀ k b, (∀ j, j < h1.length → ρ j ≠ k) → c.block k (s.heap k) = some b → ¬ X1.L b := by
    intro k b hk hb hb'
    obtain ⟨j, hj, e⟩ := (hL b).1 hb'
    exact hk j (by omega) (hc.apart _ _ b e hb)
  refine ⟨c3, ⟨hc.size, hc.defers, ?_, hc.inv, hc.fresh, fun b => ?_, fun k b hb => ?_, fun k k' b hb hb' => ?_, fun t => (hc.env t).keep hle hkp, fun k => ?_, fun k hk => ?_⟩, hp.ren (c2 := c3) (fun _ _ h => h) fwd_b fwd_o⟩
  · refine ⟨hext.os.trans hc.ext.os, hext.tape.trans hc.ext.tape, hext.output.trans hc.ext.output, Nat.le_trans hc.ext.size hext.size, fun b hb hnl => ?_⟩
    refine (hext.block b (Nat.lt_of_lt_of_le hb hc.ext.size) fun e => ?_).trans (hc.ext.block b hb hnl)
    rcases L_new b e with h2 | h2
    · exact hnl h2
    · omega
  · show c2.M b ↔ _
    rw [hmu2 b, hM0 b, hc.mu b]
    constructor
    · rintro (⟨h2 | ⟨k, h2⟩, h3⟩ | ⟨j, h2⟩)
      · exact .inl h2
      · refine .inr ⟨k, ?_⟩
        have hk : ∀ j, j < h1.length → ρ j ≠ k := fun j hj e => by
          subst e
          rcases Nat.lt_or_ge j h0.length with h4 | h4
          · exact h3 ((hL b).2 ⟨j, h4, h2⟩)
          · rw [new_none j h4 hj] at h2; cases h2
        simp only [(blk_off k hk).1, (blk_off k hk).2]
        exact h2
      · refine .inr ⟨ρ j, ?_⟩
        simp only [blk_in j (blk_far j b h2)]
        exact h2
    · rintro (h2 | ⟨k, h2⟩)
      · refine .inl ⟨.inl h2, fun e => ?_⟩
        obtain ⟨h3, h4⟩ := hc.fresh b h2
        rcases L_new b e with h5 | h5
        · exact h4 h5
        · omega
      · simp only at h2
        by_cases e : ∃ j, j < h1.length ∧ ρ j = k
        · obtain ⟨j, hj, rfl⟩ := e
          rw [blk_in j hj] at h2
          exact .inr ⟨j, h2⟩
        · have hk : ∀ j, j < h1.length → ρ j ≠ k := fun j hj e2 => e ⟨j, hj, e2⟩
          rw [(blk_off k hk).1, (blk_off k hk).2] at h2
          exact .inl ⟨.inr ⟨k, h2⟩, off_L k b hk h2⟩
  · simp only at hb
    by_cases e : ∃ j, j < h1.length ∧ ρ j = k
    · obtain ⟨j, hj, rfl⟩ := e
      rw [blk_in j hj] at hb
      obtain ⟨h2, h3⟩ := h.new j b hb
      refine ⟨?_, h3⟩
      rcases h2 with h2 | h2
      · exact L_new b h2
      · rw [hw0] at h2
        exact .inr (Nat.le_trans hc.ext.size h2)
    · have hk : ∀ j, j < h1.length → ρ j ≠ k := fun j hj e2 => e ⟨j, hj, e2⟩
      rw [(blk_off k hk).1, (blk_off k hk).2] at hb
      exact ⟨(hc.new k b hb).1, Nat.lt_of_lt_of_le (hc.new k b hb).2 hext.size⟩
  · simp only at hb hb'
    have mixed : ∀ j k, j < h1.length → (∀ j, j < h1.length → ρ j ≠ k) → c2.block j (hatL h1 j) = some b → c.block k (s.heap k) = some b → False := by
      intro j k hj hk h2 h3
      rcases (h.new j b h2).1 with h4 | h4
      · exact off_L k b hk h3 h4
      · have := (hc.new k b h3).2
        rw [hw0] at h4
        omega
    by_cases e : ∃ j, j < h1.length ∧ ρ j = k
    · obtain ⟨j, hj, rfl⟩ := e
      rw [blk_in j hj] at hb
      by_cases e' : ∃ j, j < h1.length ∧ ρ j = k'
      · obtain ⟨j', hj', rfl⟩ := e'
        rw [blk_in j' hj'] at hb'
        rw [h.apart j j' b hb hb']
      · have hk : ∀ j, j < h1.length → ρ j ≠ k' := fun j hj e2 => e' ⟨j, hj, e2⟩
        rw [(blk_off k' hk).1, (blk_off k' hk).2] at hb'
        exact (mixed j k' hj hk hb hb').elim
    · have hk : ∀ j, j < h1.length → ρ j ≠ k := fun j hj e2 => e ⟨j, hj, e2⟩
      rw [(blk_off k hk).1, (blk_off k hk).2] at hb
      by_cases e' : ∃ j, j < h1.length ∧ ρ j = k'
      · obtain ⟨j', hj', rfl⟩ := e'
        rw [blk_in j' hj'] at hb'
        exact (mixed j' k hj' hk hb' hb).elim
      · have hk' : ∀ j, j < h1.length → ρ j ≠ k' := fun j hj e2 => e' ⟨j, hj, e2⟩
        rw [(blk_off k' hk').1, (blk_off k' hk').2] at hb'
        exact hc.apart k k' b hb hb'
  · simp only
    by_cases e : ∃ j, j < h1.length ∧ ρ j = k
    · obtain ⟨j, hj, rfl⟩ := e
      have e2 := effM_at inj (h := s.heap) h1 0 j hj
      rw [Nat.zero_add] at e2
      rw [e2]
      exact renC_ok (c := c2) (c2 := c3) (fun _ _ h => h) fwd_b fwd_o (in_bl j hj).1 (in_bl j hj).2 (h.chunk j)
    · have hk : ∀ j, j < h1.length → ρ j ≠ k := fun j hj e2 => e ⟨j, hj, e2⟩
      rw [(blk_off k hk).1]
      exact (hc.chunk k).keep hle hkp (fun b hb => hext.block b (hc.new k b hb).2 (off_L k b hk hb)) (off_bl k hk).1 (off_bl k hk).2
  · obtain ⟨q1, q2⟩ := hc.lent k hk
    by_cases e : ∃ j, j < h1.length ∧ ρ j = k
    · obtain ⟨j, hj, rfl⟩ := e
      have hj0 : j < h0.length := by
        rcases Nat.lt_or_ge j h0.length with h2 | h2
        · exact h2
        · have := new_id (j - h0.length)
          rw [show h0.length + (j - h0.length) = j by omega] at this
          omega
      rw [(in_bl j hj).1, (in_bl j hj).2]
      exact ⟨(lent_bl j hj0).1.trans q1, fun g u hu => (lent_bl j hj0).2 g u (q2 g u hu)⟩
    · have hk' : ∀ j, j < h1.length → ρ j ≠ k := fun j hj e2 => e ⟨j, hj, e2⟩
      rw [(off_bl k hk').1, (off_bl k hk').2]
      exact ⟨q1, q2⟩
/-- What a callee begins with. -/
theorem RealC.lend {X : Cfg} {s : FS} {a : Act} {w : World} {c : Cx} (hc : RealC X s a w c) {h0 : List Chunk} {ls : List Nat} {nk : Nat} (hl : ls.length = h0.length) (hnd : ls.Nodup) (hlt : ∀ k ∈ ls, k < nk) (hbel : belowH h0.length h0 = true) (hlent : lentOK s.heap (rid ls nk) 0 h0) :
    ∃ X1 c1, (X1.P = X.P ∧ X1.n = 0 ∧ X1.m = h0.length) ∧ (X1.w0 = w ∧ X1.m = h0.length ∧
      (∀ b, X1.L b ↔ ∃ j, j < h0.length ∧ c.block (rid ls nk j) (s.heap (rid ls nk j)) = some b) ∧ (∀ b, X1.M0 b ↔ c.M b ∧ ¬ X1.L b) ∧ (∀ j, j < h0.length → X1.c0.bl j = c.bl (rid ls nk j) ∧ X1.c0.ov j = c.ov (rid ls nk j))) ∧
      RealC X1 (mkF [] h0) act0 w c1 ∧ (∀ (ps : List PV) (vs : List Value), belowL h0.length ps = true → RepPs c w (renL (rid ls nk) ps) vs → RepPs c1 w ps vs) := by
  generalize hρ : rid ls nk = ρ at *
  have inj : ∀ i j, ρ i = ρ j → i = j := fun i j e => by rw [← hρ] at e; exact rid_inj hnd hlt e
  let c1 : Cx := { M := c.M, bl := fun j => if j < h0.length then c.bl (ρ j) else none, ov := fun j g => if j < h0.length then c.ov (ρ j) g else none }
  have b1 : ∀ j, j < h0.length → c1.bl j = c.bl (ρ j) ∧ c1.ov j = c.ov (ρ j) := fun j hj => ⟨if_pos hj, funext fun g => if_pos hj⟩
  have lent : ∀ j, j < h0.length → s.heap (ρ j) = renC ρ (hatL h0 j) := fun j hj => by
    have := lentOK_at hlent (j := j) hj
    rwa [Nat.zero_add] at this
  have blk : ∀ j, j < h0.length → c1.block j (hatL h0 j) = c.block (ρ j) (s.heap (ρ j)) := fun j hj => by
    rw [lent j hj]
    exact block_ren (b1 j hj).1 (b1 j hj).2
  have far : ∀ j b, c1.block j (hatL h0 j) = some b → j < h0.length := fun j b hb => by
    rcases Nat.lt_or_ge j h0.length with hj | hj
    · exact hj
    · rw [hat_over h0 j hj] at hb; cases hb
  have hb : ∀ j, j < h0.length → ∀ b, c.bl (ρ j) = some b → c1.bl j = some b := fun j hj b h => by rw [(b1 j hj).1]; exact h
  have ho : ∀ j, j < h0.length → ∀ g u, c.ov (ρ j) g = some u → c1.ov j g = some u := fun j hj g u h => by rw [(b1 j hj).2]; exact h
  have below_at : ∀ (l : List Chunk) (j : Nat), belowH h0.length l = true → belowC h0.length (hatL l j) = true := fun l j h => hat_below h j
  refine ⟨{ P := X.P, n := 0, m := h0.length, w0 := w, M0 := fun b => c.M b ∧ ¬ ∃ j, j < h0.length ∧ c.block (ρ j) (s.heap (ρ j)) = some b, L := fun b => ∃ j, j < h0.length ∧ c.block (ρ j) (s.heap (ρ j)) = some b, c0 := c1 }, c1, ⟨rfl, rfl, rfl⟩,
    ⟨rfl, rfl, fun b => Iff.rfl, fun b => Iff.rfl, fun j hj => b1 j hj⟩, ⟨rfl, rfl, ExtL.refl _ _, hc.ginv.keep ⟨Nat.le_refl _, fun _ _ _ => rfl, fun b _ h => h.elim And.left fun ⟨j, _, hj⟩ => (hc.mu b).2 (.inr ⟨_, hj⟩)⟩, fun b hb => ⟨hc.lt hb.1, hb.2⟩, fun b => ?_, fun k b hk => ?_, fun k k' b hk hk' => ?_, fun t => .any _, fun k => ?_, fun k _ => ⟨rfl, fun _ _ h => h⟩⟩, fun ps vs hps hr => ?_⟩
  · show c.M b ↔ _
    by_cases e : ∃ j, j < h0.length ∧ c.block (ρ j) (s.heap (ρ j)) = some b
    · constructor
      · intro _
        obtain ⟨j, hj, h2⟩ := e
        exact .inr ⟨j, by rw [show (mkF [] h0).heap j = hatL h0 j from rfl, blk j hj]; exact h2⟩
      · intro _
        obtain ⟨j, hj, h2⟩ := e
        exact (hc.mu b).2 (.inr ⟨_, h2⟩)
    · constructor
      · intro hm; exact .inl ⟨hm, e⟩
      · rintro (h2 | ⟨j, h2⟩)
        · exact h2.1
        · have hj := far j b h2
          exact absurd ⟨j, hj, by rw [← blk j hj]; exact h2⟩ e
  · have hj := far k b hk
    have h2 : c.block (ρ k) (s.heap (ρ k)) = some b := by rw [← blk k hj]; exact hk
    exact ⟨.inl ⟨k, hj, h2⟩, (hc.new _ b h2).2⟩
  · have hj := far k b hk
    have hj' := far k' b hk'
    have h2 : c.block (ρ k) (s.heap (ρ k)) = some b := by rw [← blk k hj]; exact hk
    have h3 : c.block (ρ k') (s.heap (ρ k')) = some b := by rw [← blk k' hj']; exact hk'
    exact inj _ _ (hc.apart _ _ b h2 h3)
  · rcases Nat.lt_or_ge k h0.length with hk | hk
    · have hck := hc.chunk (ρ k)
      rw [lent k hk] at hck
      exact unrenC (c := c) (c1 := c1) (ρ := ρ) (fun _ _ h => h) hb ho (b1 k hk).1 (b1 k hk).2 (below_at h0 k hbel) hck
    · rw [show (mkF [] h0).heap k = .none from hat_over h0 k hk]
      exact .none (if_neg (by omega)) fun g => if_neg (by omega)
  · exact ⟨by rw [← hr.1, renL_map, List.length_map], unrenL (c := c) (c1 := c1) (ρ := ρ) (fun _ _ h => h) hb ho ps vs hps hr.2⟩
theorem lentOK_same {h h' : Nat → Chunk} {ρ : Nat → Nat} : ∀ {l : List Chunk} {i : Nat}, lentOK h ρ i l → (∀ j, j < l.length → h' (ρ (i + j)) = h (ρ (i + j))) → lentOK h' ρ i l
  | [], _, _, _ => trivial
  | c :: l, i, ⟨h1, h2⟩, hs => ⟨(hs 0 (by simp)).trans h1, lentOK_same h2 fun j hj => by
      have := hs (j + 1) (by simpa using hj)
      rw [show i + 1 + j = i + (j + 1) by omega]; exact this⟩
theorem op_mcall {X : Cfg} {ops : Array Oper} {s : FS} {o : Oper} (hd : ∀ d, o.dst = some d → d < X.n) {fo : Operand} {args : Array Operand} {tys : Array Nat} {g : Nat} {caps margs : List PV} {h0 h1 : List Chunk} {r : PV} {ls : List Nat} {nk : Nat} (ho : o.op = .call { callee := .value fo, args := args, argTypes := tys })
    (hf : ev s fo = .clo g caps ∨ ∃ cd : List D, ev s fo = .d (.clo g cd) ∧ caps = cd.map .d) (hM : MSpec X.P g margs h0 r h1) (ha : args.toList.map (ev s) ++ caps = renL (rid ls nk) margs)
    (hl : ls.length = h0.length) (hnd : ls.Nodup) (hlt : ∀ k ∈ ls, k < nk) (hlent : lentOK s.heap (rid ls nk) 0 h0) (hnew : ∀ i, h0.length + i < h1.length → s.heap (nk + i) = .none) (hnkm : X.m ≤ nk) :
    OpOK X ops s o { pv := ren (rid ls nk) r, eff := effM (rid ls nk) 0 h1, touch := (List.range h1.length).map (rid ls nk) } := by
  refine ⟨hd, fun kc h => ?_, fun s' he hkk a w hr K Q hK => ?_⟩
  · have h2 := List.mem_map_of_mem (f := (·.1)) h
    rw [effM_keys] at h2
    simpa using h2
  obtain ⟨c, hc⟩ := hr
  have hin : ∀ j, j < h1.length → s'.heap (rid ls nk j) = s.heap (rid ls nk j) := fun j hj => hkk _ (List.mem_map_of_mem (List.mem_range.2 hj))
  have hlent' := lentOK_same (h' := s'.heap) hlent fun j hj => by
    rw [Nat.zero_add]
    exact hin j (Nat.lt_of_lt_of_le hj hM.le)
  have hnew' : ∀ i, h0.length + i < h1.length → s'.heap (nk + i) = .none := fun i hi => by
    have := rid_new ls nk i
    rw [hl] at this
    rw [← this, hin _ hi, this]
    exact hnew i hi
  have hopers : ∀ x, (x = fo ∨ x ∈ args) → ev s' x = ev s x := fun x hx => ev_same he x (by
    rw [ho]
    simp only [Op.operands, Call.operands]
    rcases hx with rfl | hx
    · simp
    · simp [hx])
  obtain ⟨fvs, hfo, hfl2, hfr⟩ : ∃ fvs : List Value, a.eval fo = .func (.func g) #[] fvs.toArray ∧ caps.length = fvs.length ∧ ∀ (j : Nat) (p : PV) (x : Value), caps[j]? = some p → fvs[j]? = some x → RepP c w p x := by
    have h0 := ev_ok hc fo
    rw [hopers fo (.inl rfl)] at h0
    rcases hf with hf | ⟨cd, hf, rfl⟩
    · rw [hf] at h0
      generalize a.eval fo = u at h0
      cases h0 with
      | clo _ _ vs hl hrep => exact ⟨vs, rfl, hl, hrep⟩
    · rw [hf] at h0
      generalize a.eval fo = u at h0
      have h0 := repD_inv h0
      cases h0 with
      | clo _ _ vs hl hrep =>
        refine ⟨vs, rfl, by simpa using hl, fun j p x hj hx => ?_⟩
        simp only [List.getElem?_map, Option.map_eq_some_iff] at hj
        obtain ⟨y, hy, rfl⟩ := hj
        exact .d _ _ (hrep j y x hy hx)
  have hargs : RepPs c w (renL (rid ls nk) margs) (args.toList.map a.eval ++ fvs) := by
    rw [← ha]
    refine ⟨by simp [hfl2], fun j p x hp hx => ?_⟩
    by_cases hlt : j < args.toList.length
    · rw [List.getElem?_append_left (by simpa using hlt)] at hp hx
      simp only [List.getElem?_map, Option.map_eq_some_iff] at hp hx
      obtain ⟨y, hy, rfl⟩ := hp
      obtain ⟨y', hy', rfl⟩ := hx
      rw [hy] at hy'
      cases hy'
      have := ev_ok hc y
      rwa [hopers y (.inr (by simpa using List.mem_of_getElem? hy))] at this
    · rw [List.getElem?_append_right (by simpa using hlt)] at hp hx
      simp only [List.length_map] at hp hx
      exact hfr _ p x hp hx
  obtain ⟨X1, c1, ⟨e1, e2, e3⟩, hX1, hr1, hps⟩ := hc.lend hl hnd hlt hM.bh hlent'
  have hcall := hM.run X1 e1 e2 e3 w c1 (args.toList.map a.eval ++ fvs) hr1 (hps _ _ hM.ba hargs)
  have hrun : (execOp a.eval o).run X.P w = .ok (.enter g (args.toList.map a.eval ++ fvs).toArray) w := by
    have e : (args.toList.map a.eval ++ fvs).toArray = args.map a.eval ++ fvs.toArray := by
      apply Array.ext'
      simp
    rw [e]
    simp [execOp, ho, resolve, hfo, Deferred.ofValue, invoke]
    exact hM.fn _ _
  unfold Oper.wp
  rw [hrun, Oper.upon_enter]
  refine hcall.mono ?_
  rintro e w' ⟨v, c2, rfl, hv, hr2⟩
  obtain ⟨c3, g1, g2⟩ := hc.back hX1 hM.le hl hnd hlt hnew' hnkm hr2 hv
  exact hK v w' ⟨c3, g1.put g2 hd⟩
end Go.Proofs.YtmkdihmmihpibaaDoor
namespace Go.Proofs.YtmkdihmmihpibaaDoor
open Go Go.RowKit
/-- What an operation comes to: nothing known; a result, chunks that it turns, chunks that it looks at, and what must hold; a call. -/
inductive SR where
  | no
  | res (p : PV) (eff : List (Nat × Chunk)) (touch : List Nat) (side : Prop)
  | call (g : Nat) (ps : List PV)
def pickS (c a b : PV) : SR :=
  match c with
  | .d (.v (.bool t)) =>
    match a, b with
    | .d (.v (.bool p)), .d (.v (.bool q)) => .res (.d (.v (.bool (bif t then p else q)))) [] [] True
    | _, _ => .res (if t then a else b) [] [] True
  | _ => .no
def unS (op : UnOp) (x : PV) : SR :=
  match op, x with
  | .not, .d (.v (.bool b)) => .res (.d (.v (.bool (!b)))) [] [] True
  | .neg, .d (.v (.int k n)) => .res (.d (.v (.int k (k.wrap (0 - n))))) [] [] True
  | _, _ => .no
def nilS (x : PV) : SR :=
  match x with
  | .ptr k off => .res (.ptr k off) [] [] True
  | .rp k g sz i j => .res (.rp k g sz i j) [] [] True
  | .d (.ept cs) => .res (.d (.ept cs)) [] [] True
  | _ => .no
def binS (ti : Option TI) (q : Option Nat) (op : BinOp) (x y : PV) : SR :=
  match x, y with
  | .d (.v (.int k m)), .d (.v (.int k' n)) =>
    if k = k' then
      match op with
      | .quo => .res (.d (.v (.int k (k.wrap (m.tdiv n))))) [] [] (n ≠ 0)
      | .rem => .res (.d (.v (.int k (m.tmod n)))) [] [] (n ≠ 0)
      | _ => match intS op k m n with
        | some r => .res (.d (.v r)) [] [] True
        | none => .no
    else
      match op with
      | .shl => match intS .shl k m n with | some r => .res (.d (.v r)) [] [] True | none => .no
      | .shr => match intS .shr k m n with | some r => .res (.d (.v r)) [] [] True | none => .no
      | _ => .no
  | .d (.v (.string m)), .d (.v (.string n)) =>
    match op with
    | .add => .res (.d (.v (.string (m ++ n)))) [] [] (m.size + n.size ≤ 9223372036854775807)
    | .eql => .res (.d (.v (.bool (decide (m = n))))) [] [] True
    | .neq => .res (.d (.v (.bool !decide (m = n)))) [] [] True
    | _ => .no
  | .d (.v (.bool m)), .d (.v (.bool n)) =>
    match ti, op with
    | some ti, .eql => .res (.d (.v (.bool (m == n)))) [] [] (ti.kind = 1)
    | some ti, .neq => .res (.d (.v (.bool (m != n)))) [] [] (ti.kind = 1)
    | _, _ => .no
  | .d (.v (.pointer none)), .d (.v (.pointer none)) =>
    match ti, op with
    | some ti, .eql => .res (.d (.v (.bool true))) [] [] (ti.kind = 3)
    | some ti, .neq => .res (.d (.v (.bool false))) [] [] (ti.kind = 3)
    | _, _ => .no
  | .ptr _ _, .d (.v (.pointer none)) =>
    match ti, op with
    | some ti, .eql => .res (.d (.v (.bool false))) [] [] (ti.kind = 3)
    | some ti, .neq => .res (.d (.v (.bool true))) [] [] (ti.kind = 3)
    | _, _ => .no
  | .rp _ _ _ _ _, .d (.v (.pointer none)) =>
    match ti, op with
    | some ti, .eql => .res (.d (.v (.bool false))) [] [] (ti.kind = 3)
    | some ti, .neq => .res (.d (.v (.bool true))) [] [] (ti.kind = 3)
    | _, _ => .no
  | .d (.ept _), .d (.v (.pointer none)) =>
    match ti, op with
    | some ti, .eql => .res (.d (.v (.bool false))) [] [] (ti.kind = 3)
    | some ti, .neq => .res (.d (.v (.bool true))) [] [] (ti.kind = 3)
    | _, _ => .no
  | .d (.sl _ (_ :: _)), .d (.v (.slice none _ _)) =>
    match ti, op with
    | some ti, .eql => .res (.d (.v (.bool false))) [] [] (ti.elem.isSome = true)
    | some ti, .neq => .res (.d (.v (.bool true))) [] [] (ti.elem.isSome = true)
    | _, _ => .no
  | .d (.v (.slice ao _ _)), .d (.v (.slice none _ _)) =>
    match ti, op with
    | some ti, .eql => .res (.d (.v (.bool ao.isNone))) [] [] (ti.elem.isSome = true)
    | some ti, .neq => .res (.d (.v (.bool !ao.isNone))) [] [] (ti.elem.isSome = true)
    | _, _ => .no
  | .d (.agg ds), .d (.agg es) =>
    match q, intsD ds, intsD es with
    | some n, some xs, some ys =>
      match op with
      | .eql => .res (.d (.v (.bool (xs == ys)))) [] [] (xs.length = n ∧ ys.length = n)
      | .neq => .res (.d (.v (.bool (xs != ys)))) [] [] (xs.length = n ∧ ys.length = n)
      | _ => .no
    | _, _, _ => .no
  | _, _ => .no
/-- An interface value held against nil. -/
def nifS (ti : Option TI) (op : BinOp) (x : PV) : SR :=
  match ti, op, x with
  | some ti, .eql, .d .nei => .res (.d (.v (.bool false))) [] [] (ti.kind = 5)
  | some ti, .neq, .d .nei => .res (.d (.v (.bool true))) [] [] (ti.kind = 5)
  | some ti, .eql, .d (.v .nilIface) => .res (.d (.v (.bool true))) [] [] (ti.kind = 5)
  | some ti, .neq, .d (.v .nilIface) => .res (.d (.v (.bool false))) [] [] (ti.kind = 5)
  | _, _, _ => .no
def fieldS (ti : Option TI) (f : Nat) (x : PV) : SR :=
  match ti with
  | some ti =>
    match ti.fields[f]? with
    | some (off, sz) =>
      match x with
      | .d (.ept ds) => .res (.d (.ept (ds.drop off))) [] [] (sz ≠ 0)
      | .ptr k o' => .res (.ptr k (o' + off)) [] [] (sz ≠ 0)
      | .rp k g sz' i j => .res (.rp k g sz' i (j + off)) [] [] (sz ≠ 0)
      | _ => .no
    | none => .no
  | none => .no
def loadS (ti : Option TI) (h : Nat → Chunk) (x : PV) : SR :=
  match ti with
  | some ti =>
    match x with
    | .d (.ept ds) =>
      if ti.agg then .res (.d (.agg (ds.take ti.size))) [] [] (ti.size ≤ ds.length)
      else match ds with
        | d :: _ => .res (.d d) [] [] (ti.size = 1)
        | [] => .no
    | .ptr k off =>
      match h k with
      | .box _ cells =>
        if ti.agg then .res (aggP ((cells.drop off).take ti.size)) [] [k] (off + ti.size ≤ cells.length)
        else match cells.drop off with
          | p :: _ => .res p [] [k] (ti.size = 1)
          | [] => .no
      | _ => .no
    | .rp k g sz i j =>
      match h k with
      | .row _ sz' g' rows =>
        match rows[i]? with
        | some row =>
          if ti.agg then .res (aggP ((row.drop j).take ti.size)) [] [k] (g = g' ∧ sz = sz' ∧ j + ti.size ≤ sz)
          else match row.drop j with
            | p :: _ => .res p [] [k] (g = g' ∧ sz = sz' ∧ ti.size = 1 ∧ j + 1 ≤ sz)
            | [] => .no
        | none => .no
      | _ => .no
    | _ => .no
  | none => .no
def indexS (T : Nat → Option TI) (ti : Option TI) (h : Nat → Chunk) (x y : PV) : SR :=
  match ti with
  | some ti =>
    match ti.elem with
    | some e =>
      match T e with
      | some te =>
        match y with
        | .d (.v (.int _ n)) =>
          match x with
          | .d (.sl sz rows) => match rows[n.toNat]? with | some row => .res (.d (.ept row)) [] [] (te.size = sz ∧ 0 ≤ n) | none => .no
          | .own k g =>
            match h k with
            | .row e' sz g' rows => .res (.rp k g sz n.toNat 0) [] [k] (e' = e ∧ g' = g ∧ te.size = sz ∧ 0 ≤ n ∧ n.toNat < rows.length)
            | _ => .no
          | .osl k g sz st m => .res (.rp k g sz (st + n.toNat) 0) [] [] (te.size = sz ∧ 0 ≤ n ∧ n.toNat < m)
          | _ => .no
        | _ => .no
      | none => .no
    | none =>
      match ti.arr, x, y with
      | some (m, e), .ptr k off, .d (.v (.int _ n)) =>
        match T e with
        | some te => .res (.ptr k (off + n.toNat * te.size)) [] [] (0 ≤ n ∧ n.toNat < m)
        | none => .no
      | _, _, _ => .no
  | none => .no
/-- A byte of a string; a part of an array. -/
def indexV (T : Nat → Option TI) (ti : Option TI) (x y : PV) : SR :=
  match ti with
  | some ti =>
    match x, y with
    | .d (.v (.string a)), .d (.v (.int _ n)) => .res (.d (.v (.int .u8 (byteAt a n.toNat)))) [] [] (ti.kind = 2 ∧ 0 ≤ n ∧ n.toNat < a.size)
    | .d (.agg ds), .d (.v (.int _ n)) =>
      match ti.arr with
      | some (m, e) =>
        match T e with
        | some te => match ds[n.toNat]? with | some q => .res (.d q) [] [] (te.size = 1 ∧ te.agg = false ∧ 0 ≤ n ∧ n.toNat < m) | none => .no
        | none => .no
      | none => .no
    | _, _ => .no
  | none => .no
def extrS (x : PV) (i : Nat) : SR :=
  match x with
  | .d (.tup ds) => match ds[i]? with | some d => .res (.d d) [] [] True | none => .no
  | .tup ds => match ds[i]? with | some d => .res d [] [] True | none => .no
  | _ => .no
def partsS (e : Env) : List (Nat × Operand) → Option (List (Nat × List PV))
  | [] => some []
  | (i, x) :: l =>
    if okP (evL e x) then
      match partsS e l with
      | some pd => some ((i, cellsP (evL e x)) :: pd)
      | none => none
    else none
def buildS (T : Nat → Option TI) (ti : Option TI) (e : Env) (parts : List (Nat × Operand)) : SR :=
  match ti with
  | some ti =>
    match ti.fields with
    | [] =>
      match ti.arr with
      | some (n, el) =>
        match T el, partsS e parts with
        | some te, some pd =>
          match fillD ((List.range n).map fun i => (i * te.size, te.size)) (ti.zero.map fun x => .d (.v x)) pd with
          | some out => .res (aggP out) [] [] True
          | none => .no
        | _, _ => .no
      | none => .no
    | _ :: _ =>
      match partsS e parts with
      | some pd =>
        match fillD ti.fields (ti.zero.map fun x => .d (.v x)) pd with
        | some out => .res (aggP out) [] [] True
        | none => .no
      | none => .no
  | none => .no
def rowsS (e : Env) : Nat → List (Nat × Operand) → Option (List (List PV))
  | _, [] => some []
  | n, (i, x) :: l =>
    if okP (evL e x) && (i == n) then
      match rowsS e (n + 1) l with
      | some rows => some (cellsP (evL e x) :: rows)
      | none => none
    else none
def dsR : List (List PV) → Option (List (List D))
  | [] => some []
  | r :: l => match dsOf r, dsR l with | some d, some ds => some (d :: ds) | _, _ => none
def allLen (sz : Nat) : List (List PV) → Prop
  | [] => True
  | r :: l => r.length = sz ∧ allLen sz l
def bslS (T : Nat → Option TI) (ti : Option TI) (nk : Nat) (e : Env) (n : Nat) (parts : List (Nat × Operand)) : SR :=
  match ti with
  | some ti =>
    match ti.elem with
    | some el =>
      match T el with
      | some te =>
        match n, parts with
        | 0, [] => .res (.own nk 0) [(nk, .row el te.size 0 [])] [nk] True
        | n + 1, parts =>
          match rowsS e 0 parts with
          | some rows =>
            match dsR rows with
            | some ds => .res (.d (.sl te.size ds)) [] [] (0 < te.size ∧ (n + 1) * te.size ≤ 16777216 ∧ rows.length = n + 1 ∧ allLen te.size rows)
            | none => .res (.own nk 0) [(nk, .row el te.size 0 rows)] [nk] (0 < te.size ∧ (n + 1) * te.size ≤ 16777216 ∧ rows.length = n + 1 ∧ allLen te.size rows)
          | none => .no
        | _, _ => .no
      | none => .no
    | none => .no
  | none => .no
def mkSlS (T : Nat → Option TI) (ti : Option TI) (nk : Nat) (x y : PV) : SR :=
  match ti with
  | some ti =>
    match ti.elem with
    | some el =>
      match T el with
      | some te =>
        match te.zero, x, y with
        | [zv], .d (.v (.int _ n)), .d (.v (.int _ m)) => .res (.own nk 0) [(nk, .row el 1 0 (List.replicate n.toNat [.d (.v zv)]))] [nk] (n = m ∧ 0 < n ∧ (te.bytes : Int) * n ≤ 281474976710656 ∧ n ≤ 9223372036854775807)
        | _, _, _ => .no
      | none => .no
    | none => .no
  | none => .no
def convS (T : Nat → Option TI) (ts td : Option TI) (x : PV) : SR :=
  match ts, td with
  | some ts, some td =>
    match td.int, x with
    | some k, .d (.v (.int _ n)) => .res (.d (.v (.int k (k.wrap n)))) [] [] True
    | none, .d (.sl 1 rows) =>
      match ts.elem with
      | some e =>
        match T e with
        | some te => match bytesD rows with | some xs => .res (.d (.v (.string (strOfNums xs)))) [] [] (te.int = some .u8 ∧ td.kind = 2) | none => .no
        | none => .no
      | none => .no
    | _, _ => .no
  | _, _ => .no
def lenS (ti : Option TI) (h : Nat → Chunk) (x : PV) : SR :=
  match ti with
  | some ti =>
    match ti.elem with
    | some _ =>
      match x with
      | .d (.sl _ rows) => .res (.d (.v (.int .i64 rows.length))) [] [] True
      | .d (.v (.slice none 0 0)) => .res (.d (.v (.int .i64 (0 : Nat)))) [] [] True
      | .own k g => match h k with | .row _ _ g' rows => .res (.d (.v (.int .i64 rows.length))) [] [k] (g = g') | _ => .no
      | .osl _ _ _ _ n => .res (.d (.v (.int .i64 n))) [] [] True
      | _ => .no
    | none => match x with | .d (.v (.string a)) => .res (.d (.v (.int .i64 a.size))) [] [] (ti.kind = 2) | _ => .no
  | none => .no
/-- What is appended. -/
def srcS (h : Nat → Chunk) (sz : Nat) (y : PV) : Option (List (List PV) × List Nat) :=
  match y with
  | .d (.sl sz' news) => if sz' = sz then some (dRows news, []) else none
  | .d (.v (.slice _ 0 _)) => some ([], [])
  | .own k g => match h k with | .row _ sz' g' rows => if sz' = sz ∧ g' = g then some (rows, [k]) else none | _ => none
  | .osl k g sz' st n => match h k with | .row _ sz'' g' rows => if sz' = sz ∧ sz'' = sz ∧ g' = g then some ((rows.drop st).take n, [k]) else none | _ => none
  | _ => none
def appS (T : Nat → Option TI) (ti : Option TI) (nk : Nat) (h : Nat → Chunk) (x y : PV) : SR :=
  match ti with
  | some ti =>
    match ti.elem with
    | some el =>
      match T el with
      | some te =>
        if te.size = 0 ∨ te.bytes = 0 then .no else
        match srcS h te.size y with
        | some (news, ty) =>
          match x with
          | .own k g =>
            match h k with
            | .row e' sz g' rows => .res (.own k (g + 1)) [(k, .row e' sz (g + 1) (rows ++ news))] (k :: ty) (e' = el ∧ g' = g ∧ te.size = sz ∧ (rows.length + news.length) * te.bytes ≤ 140737488355328)
            | _ => .no
          | .d (.v (.slice none 0 0)) => .res (.own nk 0) [(nk, .row el te.size 0 news)] (nk :: ty) (news.length * te.bytes ≤ 140737488355328)
          | .osl k g sz st n =>
            match h k with
            | .row e' sz' g' rows => .res (.osl k g sz 0 (n + news.length)) [(k, .row e' sz' g' (setAt rows n news))] (k :: ty) (st = 0 ∧ e' = el ∧ g' = g ∧ sz' = sz ∧ te.size = sz ∧ rows ≠ [] ∧ n + news.length ≤ rows.length)
            | _ => .no
          | _ => .no
        | none => .no
      | none => .no
    | none => .no
  | none => .no
def storeS (ti : Option TI) (h : Nat → Chunk) (dst : Option Nat) (x y : PV) : SR :=
  match ti, dst with
  | some ti, none =>
    match x with
    | .ptr k off =>
      match h k with
      | .box T cells => if okP y then .res .any [(k, .box T (setAt cells off (cellsP y)))] [k] ((cellsP y).length = ti.size ∧ off + ti.size ≤ cells.length) else .no
      | _ => .no
    | .rp k g sz i j =>
      match h k with
      | .row E sz' g' rows =>
        match rows[i]? with
        | some row => if okP y then .res .any [(k, .row E sz' g' (rows.set i (setAt row j (cellsP y))))] [k] (g = g' ∧ sz = sz' ∧ (cellsP y).length = ti.size ∧ j + ti.size ≤ sz) else .no
        | none => .no
      | _ => .no
    | _ => .no
  | _, _ => .no
/-- A part of a slice. -/
def sliceS (T : Nat → Option TI) (ti : Option TI) (h : Nat → Chunk) (x : PV) (lo hi mx : Option PV) : SR :=
  match ti with
  | some ti =>
    match ti.elem with
    | some e =>
      match T e with
      | some te =>
        match mx with
        | none =>
          match x with
          | .d (.sl sz rows) =>
            match loB lo, hiB rows.length hi with
            | some l, some r => .res (.d (.sl sz ((rows.take r).drop l))) [] [] (te.size = sz ∧ l ≤ r ∧ r ≤ rows.length)
            | _, _ => .no
          | .own k g =>
            match h k with
            | .row e' sz g' [] =>
              match loB lo, hiB 0 hi with
              | some l, some r => .res .any [] [k] (e' = e ∧ g' = g ∧ te.size = sz ∧ l = 0 ∧ r = 0)
              | _, _ => .no
            | .row e' sz g' rows =>
              match loB lo, hiB rows.length hi with
              | some l, some r => .res (.osl k g sz l (r - l)) [] [k] (e' = e ∧ g' = g ∧ te.size = sz ∧ rows ≠ [] ∧ l ≤ r ∧ r ≤ rows.length)
              | _, _ => .no
            | _ => .no
          | .osl k g sz st n =>
            match h k with
            | .row e' sz' g' rows =>
              match loB lo, hiB n hi with
              | some l, some r => .res (.osl k g sz (st + l) (r - l)) [] [k] (e' = e ∧ g' = g ∧ sz' = sz ∧ te.size = sz ∧ rows ≠ [] ∧ l ≤ r ∧ st + r ≤ rows.length)
              | _, _ => .no
            | _ => .no
          | _ => .no
        | some m =>
          match x, lo, hi, m with
          | .own k g, some (.d (.v (.int _ n1))), some (.d (.v (.int _ n2))), .d (.v (.int _ n3)) =>
            match h k with
            | .row e' sz g' rows => .res .any [] [k] (e' = e ∧ g' = g ∧ te.size = sz ∧ rows ≠ [] ∧ 0 ≤ n1 ∧ n1 ≤ n2 ∧ n2 ≤ n3 ∧ n3 ≤ (rows.length : Int))
            | _ => .no
          | _, _, _, _ => .no
      | none => .no
    | none =>
      match x, mx with
      | .d (.v (.string a)), none =>
        match loB lo, hiB a.size hi with
        | some l, some r => .res (.d (.v (.string (a.extract l r)))) [] [] (ti.kind = 2 ∧ l ≤ r ∧ r ≤ a.size)
        | _, _ => .no
      | _, _ => .no
  | none => .no
def clearS (T : Nat → Option TI) (ti : Option TI) (h : Nat → Chunk) (x : PV) : SR :=
  match ti with
  | some ti =>
    match ti.elem with
    | some e =>
      match T e with
      | some te =>
        match x with
        | .osl k g sz st n =>
          match h k with
          | .row e' sz' g' rows => .res (.d (.v (.tuple #[]))) [(k, .row e' sz' g' (setAt rows st (List.replicate n (te.zero.map fun x => .d (.v x)))))] [k] (e' = e ∧ g' = g ∧ sz' = sz ∧ te.size = sz ∧ rows ≠ [] ∧ st + n ≤ rows.length)
          | _ => .no
        | _ => .no
      | none => .no
    | none => .no
  | none => .no
def makeMapS (ti : Option TI) (nk : Nat) : SR :=
  match ti with
  | some ti =>
    match ti.mp with
    | some (n, sB) => .res (.mref nk) [(nk, .mp n sB [])] [nk] True
    | none => .no
  | none => .no
def lookupS (ti : Option TI) (h : Nat → Chunk) (m x : PV) (ok : Bool) : SR :=
  match ti with
  | some ti =>
    match ti.mp with
    | some (n, sB) =>
      match m with
      | .mref k =>
        match h k with
        | .mp n' sB' ents =>
          match keyP sB x with
          | some xs => .res (if ok then .d (.tup [.v (.int .i64 ((lkE ents xs).getD 0)), .v (.bool (lkE ents xs).isSome)]) else .d (.v (.int .i64 ((lkE ents xs).getD 0)))) [] [k] (n' = n ∧ sB' = sB ∧ xs.length = n)
          | none => .no
        | _ => .no
      | _ => .no
    | none => .no
  | none => .no
def mapUpS (ti : Option TI) (h : Nat → Chunk) (dst : Option Nat) (m x y : PV) : SR :=
  match ti, dst with
  | some ti, none =>
    match ti.mp with
    | some (n, sB) =>
      match m with
      | .mref k =>
        match h k with
        | .mp n' sB' ents =>
          match keyP sB x, y with
          | some xs, .d (.v (.int .i64 v)) => .res .any [(k, .mp n' sB' (upE ents xs v))] [k] (n' = n ∧ sB' = sB ∧ xs.length = n)
          | _, _ => .no
        | _ => .no
      | _ => .no
    | none => .no
  | _, _ => .no
def callS (f : PV) (args : List PV) : SR :=
  match f with
  | .clo g caps => .call g (args ++ caps)
  | .d (.clo g cd) => .call g (args ++ cd.map .d)
  | _ => .no
def opS (T : Nat → Option TI) (Q : Nat → Option Nat) (e : Env) (hl : List Chunk) (o : Oper) : SR :=
  match o.op with
  | .move x => .res (evL e x) [] [] True
  | .assign x => .res (evL e x) [] [] True
  | .pick c a b => pickS (evL e c) (evL e a) (evL e b)
  | .unOp op _ x => unS op (evL e x)
  | .nilCheck x => nilS (evL e x)
  | .binOp op t x (.const .nilIface) _ => nifS (T t) op (evL e x)
  | .binOp op t x y _ => binS (T t) (Q t) op (evL e x) (evL e y)
  | .fieldAddr t x f => fieldS (T t) f (evL e x)
  | .load t x => loadS (T t) (hatL hl) (evL e x)
  | .indexAddr t x y => indexS T (T t) (hatL hl) (evL e x) (evL e y)
  | .index t x y => indexV T (T t) (evL e x) (evL e y)
  | .extract x i => extrS (evL e x) i
  | .alloc t => match T t with | some ti => .res (.ptr hl.length 0) [(hl.length, .box t (ti.zero.map fun x => .d (.v x)))] [hl.length] True | none => .no
  | .box t x => if okP (evL e x) then .res (.ptr hl.length 0) [(hl.length, .box t (cellsP (evL e x)))] [hl.length] True else .no
  | .store t x y => storeS (T t) (hatL hl) o.dst (evL e x) (evL e y)
  | .build t ⟨parts⟩ => buildS T (T t) e parts
  | .buildSlice t n ⟨parts⟩ => bslS T (T t) hl.length e n parts
  | .makeFunc (.func g) ⟨[]⟩ ⟨caps⟩ => .res (.clo g (caps.map (evL e))) [] [] True
  | .convert src dst x => convS T (T src) (T dst) (evL e x)
  | .call ⟨.builtin .len, ⟨[x]⟩, ⟨[t]⟩⟩ => lenS (T t) (hatL hl) (evL e x)
  | .slice t x lo hi mx => sliceS T (T t) (hatL hl) (evL e x) (lo.map (evL e)) (hi.map (evL e)) (mx.map (evL e))
  | .call ⟨.builtin .clear, ⟨[x]⟩, ⟨[t]⟩⟩ => clearS T (T t) (hatL hl) (evL e x)
  | .call ⟨.builtin .append, ⟨[x, y]⟩, ⟨[t, t']⟩⟩ => if t = t' then appS T (T t) hl.length (hatL hl) (evL e x) (evL e y) else .no
  | .call ⟨.builtin .min, ⟨[x, y]⟩, _⟩ => match evL e x, evL e y with | .d (.v (.int k m)), .d (.v (.int k' n)) => if k = k' then .res (.d (.v (.int k (if n < m then n else m)))) [] [] True else .no | _, _ => .no
  | .call ⟨.builtin .max, ⟨[x, y]⟩, _⟩ => match evL e x, evL e y with | .d (.v (.int k m)), .d (.v (.int k' n)) => if k = k' then .res (.d (.v (.int k (if m < n then n else m)))) [] [] True else .no | _, _ => .no
  | .call ⟨.value f, ⟨args⟩, _⟩ => callS (evL e f) (args.map (evL e))
  | .makeSlice t x y => mkSlS T (T t) hl.length (evL e x) (evL e y)
  | .makeMap t none => makeMapS (T t) hl.length
  | .lookup t m x ok => lookupS (T t) (hatL hl) (evL e m) (evL e x) ok
  | .mapUpdate t m x y => mapUpS (T t) (hatL hl) o.dst (evL e m) (evL e x) (evL e y)
  | .insert t m x y => mapUpS (T t) (hatL hl) o.dst (evL e m) (evL e x) (evL e y)
  | _ => .no
end Go.Proofs.YtmkdihmmihpibaaDoor
namespace Go.Proofs.YtmkdihmmihpibaaDoor
open Go Go.RowKit
theorem hatL_end : ∀ (l : List Chunk), hatL l l.length = .none
  | [] => rfl
  | _ :: l => hatL_end l
/-- The tables are the program's. -/
structure TabOK (P : Program) (T : Nat → Option TI) (Q : Nat → Option Nat) : Prop where
  t : ∀ t ti, T t = some ti → tcheck P t = some ti
  q : ∀ t n, Q t = some n → EqOK P t n
  m : ∀ t ti n s, T t = some ti → ti.mp = some (n, s) → MapOK P t n s
theorem run_equal_ptr {P : Program} {t e : Nat} (h : P.underlying t = some (.pointer e)) (a : Addr) (w : World) : (Op.equal t (.pointer (some a)) (.pointer none)).run P w = .ok false w := by
  unfold Op.equal
  show (Op.equalIn (9999 + 1) t _ _).run P w = _
  rw [Op.equalIn, Sem.run_bind, run_underlying h]
  rfl
theorem run_equal_nil {P : Program} {t e : Nat} (h : P.underlying t = some (.pointer e)) (w : World) : (Op.equal t (.pointer none) (.pointer none)).run P w = .ok true w := by
  unfold Op.equal
  show (Op.equalIn (9999 + 1) t _ _).run P w = _
  rw [Op.equalIn, Sem.run_bind, run_underlying h]
  rfl
theorem op_nilNil {X : Cfg} {ops : Array Oper} {s : FS} {o : Oper} (hd : ∀ d, o.dst = some d → d < X.n) {ti : TI} {op : BinOp} {t t' : Nat} {x y : Operand} {r : Bool} (ho : o.op = .binOp op t x y t') (ht : tcheck X.P t = some ti) (hb : ti.kind = 3) (hx : ev s x = .d (.v (.pointer none))) (hy : ev s y = .d (.v (.pointer none)))
    (hr : (op = .eql ∧ r = true) ∨ (op = .neq ∧ r = false)) : OpOK X ops s o { pv := .d (.v (.bool r)) } :=
  opok_read hd fun s' he _ a w c hc => by
    have h1 := ev_v' hc ((he x (by simp [ho, Op.operands])).trans hx)
    have h2 := ev_v' hc ((he y (by simp [ho, Op.operands])).trans hy)
    obtain ⟨i, d, z, tk⟩ := tck ht
    obtain ⟨el, rfl⟩ : ∃ el, d = .pointer el := by
      have := tk.kind
      rw [hb] at this
      cases d <;> simp [kindD] at this
      exact ⟨_, rfl⟩
    refine ⟨.bool r, ?_, .d _ _ (.v _)⟩
    rcases hr with ⟨rfl, rfl⟩ | ⟨rfl, rfl⟩ <;> simp [execOp, ho, h1, h2, eqGuard, binOp, run_equal_nil tk.und]
theorem run_equal_slnil {P : Program} {t e : Nat} (h : P.underlying t = some (.slice e)) (a : Option Addr) (n c n' c' : Nat) (w : World) : (Op.equal t (.slice a n c) (.slice none n' c')).run P w = .ok a.isNone w := by
  unfold Op.equal
  show (Op.equalIn (9999 + 1) t _ _).run P w = _
  rw [Op.equalIn, Sem.run_bind, run_underlying h]
  cases a <;> rfl
theorem op_slNil {X : Cfg} {ops : Array Oper} {s : FS} {o : Oper} (hd : ∀ d, o.dst = some d → d < X.n) {ti : TI} {op : BinOp} {t t' n' c' : Nat} {x y : Operand} {r z : Bool} (ho : o.op = .binOp op t x y t') (ht : tcheck X.P t = some ti) (hb : ti.elem.isSome = true)
    (hx : (∃ sz a l, ev s x = .d (.sl sz (a :: l)) ∧ z = false) ∨ ∃ ao n c, ev s x = .d (.v (.slice ao n c)) ∧ z = ao.isNone) (hy : ev s y = .d (.v (.slice none n' c')))
    (hr : (op = .eql ∧ r = z) ∨ (op = .neq ∧ r = !z)) : OpOK X ops s o { pv := .d (.v (.bool r)) } :=
  opok_read hd fun s' he _ a w c hc => by
    have e1 := ev_ok hc x
    rw [he x (by simp [ho, Op.operands])] at e1
    have h2 := ev_v' hc ((he y (by simp [ho, Op.operands])).trans hy)
    generalize hu : a.eval x = u at e1
    obtain ⟨i, d, zz, tk⟩ := tck ht
    obtain ⟨el, rfl⟩ : ∃ el, d = .slice el := by
      have := tk.elem
      obtain ⟨el, hel⟩ := Option.isSome_iff_exists.1 hb
      rw [hel] at this
      cases d <;> simp [elemD] at this
      exact ⟨_, rfl⟩
    obtain ⟨ao, n, cap, rfl, hz⟩ : ∃ ao n cap, u = .slice ao n cap ∧ z = ao.isNone := by
      rcases hx with ⟨sz, b, l, hx, rfl⟩ | ⟨ao, n, cap, hx, rfl⟩
      · rw [hx] at e1
        have e1 := repD_inv e1
        cases e1 with
        | sl _ _ b off cap => exact ⟨_, _, cap, rfl, rfl⟩
      · rw [hx] at e1
        have e1 := repD_inv e1
        cases e1
        exact ⟨_, _, _, rfl, rfl⟩
    subst hz
    refine ⟨.bool r, ?_, .d _ _ (.v _)⟩
    rcases hr with ⟨rfl, rfl⟩ | ⟨rfl, rfl⟩ <;> simp [execOp, ho, hu, h2, eqGuard, binOp, run_equal_slnil tk.und]
theorem op_ptrNil {X : Cfg} {ops : Array Oper} {s : FS} {o : Oper} (hd : ∀ d, o.dst = some d → d < X.n) {ti : TI} {op : BinOp} {t t' : Nat} {x y : Operand} {r : Bool} (ho : o.op = .binOp op t x y t') (ht : tcheck X.P t = some ti) (hb : ti.kind = 3)
    (hx : (∃ k off, ev s x = .ptr k off) ∨ (∃ k g sz i j, ev s x = .rp k g sz i j) ∨ ∃ ds, ev s x = .d (.ept ds)) (hy : ev s y = .d (.v (.pointer none)))
    (hr : (op = .eql ∧ r = false) ∨ (op = .neq ∧ r = true)) : OpOK X ops s o { pv := .d (.v (.bool r)) } :=
  opok_read hd fun s' he _ a w c hc => by
    have h1 : ∃ ad, a.eval x = .pointer (some ad) := by
      have := ev_ok hc x
      rw [he x (by simp [ho, Op.operands])] at this
      generalize a.eval x = u at this
      rcases hx with ⟨k, off, hx⟩ | ⟨k, g, sz, i, j, hx⟩ | ⟨ds, hx⟩ <;> rw [hx] at this
      · cases this; exact ⟨_, rfl⟩
      · cases this; exact ⟨_, rfl⟩
      · have := repD_inv this
        cases this; exact ⟨_, rfl⟩
    obtain ⟨ad, h1⟩ := h1
    have h2 := ev_v' hc ((he y (by simp [ho, Op.operands])).trans hy)
    obtain ⟨i, d, z, tk⟩ := tck ht
    obtain ⟨el, rfl⟩ : ∃ el, d = .pointer el := by
      have := tk.kind
      rw [hb] at this
      cases d <;> simp [kindD] at this
      exact ⟨_, rfl⟩
    refine ⟨.bool r, ?_, .d _ _ (.v _)⟩
    rcases hr with ⟨rfl, rfl⟩ | ⟨rfl, rfl⟩ <;> simp [execOp, ho, h1, h2, eqGuard, binOp, run_equal_ptr tk.und]
theorem op_nilCheckRp {X : Cfg} {ops : Array Oper} {s : FS} {o : Oper} (hd : ∀ d, o.dst = some d → d < X.n) {x : Operand} {k g sz i j : Nat} (ho : o.op = .nilCheck x) (hx : ev s x = .rp k g sz i j) : OpOK X ops s o { pv := .rp k g sz i j } :=
  opok_read hd fun s' he _ a w c hc => by
    have := ev_ok hc x
    rw [he x (by simp [ho, Op.operands]), hx] at this
    generalize hu : a.eval x = u at this
    cases this with
    | rp _ _ _ _ _ b n cap h => exact ⟨_, by simp [execOp, ho, hu], .rp k g sz i j b n cap h⟩
section
variable {X : Cfg} {ops : Array Oper} {e : Env} {hl : List Chunk} {o : Oper} {T : Nat → Option TI} {Q : Nat → Option Nat} (hTQ : TabOK X.P T Q) (hd : ∀ d, o.dst = some d → d < X.n) {p : PV} {eff : List (Nat × Chunk)} {touch : List Nat} {side : Prop}
include hd
theorem pickS_ok {x y z : Operand} (ho : o.op = .pick x y z) (h : pickS (evL e x) (evL e y) (evL e z) = .res p eff touch side) (_hs : side) : OpOK X ops (mkF e hl) o { pv := p, eff := eff, touch := touch } := by
  unfold pickS at h
  split at h
  · rename_i t hx
    have key := op_pick (X := X) (ops := ops) (s := mkF e hl) hd ho ((ev_mk e hl x).trans hx)
    rw [ev_mk, ev_mk] at key
    split at h
    · rename_i a b ha hb
      cases h
      rw [ha, hb] at key
      cases t <;> exact key
    · cases h
      exact key
  · cases h
theorem unS_ok {op : UnOp} {t : Nat} {x : Operand} (ho : o.op = .unOp op t x) (h : unS op (evL e x) = .res p eff touch side) (_hs : side) : OpOK X ops (mkF e hl) o { pv := p, eff := eff, touch := touch } := by
  unfold unS at h
  split at h
  · rename_i b hx
    cases h
    exact op_not hd ho ((ev_mk e hl x).trans hx)
  · rename_i k n hx
    cases h
    exact op_neg hd ho ((ev_mk e hl x).trans hx)
  · cases h
theorem nilS_ok {x : Operand} (ho : o.op = .nilCheck x) (h : nilS (evL e x) = .res p eff touch side) (_hs : side) : OpOK X ops (mkF e hl) o { pv := p, eff := eff, touch := touch } := by
  unfold nilS at h
  split at h
  · rename_i k off hx
    cases h
    have := op_nilCheck (X := X) (ops := ops) (s := mkF e hl) hd ho (.inl ⟨k, off, (ev_mk e hl x).trans hx⟩)
    rwa [ev_mk, hx] at this
  · rename_i k g sz i j hx
    cases h
    exact op_nilCheckRp hd ho ((ev_mk e hl x).trans hx)
  · rename_i cs hx
    cases h
    have := op_nilCheck (X := X) (ops := ops) (s := mkF e hl) hd ho (.inr ⟨cs, (ev_mk e hl x).trans hx⟩)
    rwa [ev_mk, hx] at this
  · cases h
include hTQ in
theorem binS_ok {op : BinOp} {t t' : Nat} {x y : Operand} (ho : o.op = .binOp op t x y t') (h : binS (T t) (Q t) op (evL e x) (evL e y) = .res p eff touch side) (hs : side) : OpOK X ops (mkF e hl) o { pv := p, eff := eff, touch := touch } := by
  unfold binS at h
  split at h
  · rename_i k m k' n hx hy
    split at h
    · rename_i hk
      subst hk
      split at h
      · cases h
        exact op_divrem hd ho ((ev_mk e hl x).trans hx) ((ev_mk e hl y).trans hy) hs (.inl ⟨rfl, rfl⟩)
      · cases h
        exact op_divrem hd ho ((ev_mk e hl x).trans hx) ((ev_mk e hl y).trans hy) hs (.inr ⟨rfl, rfl⟩)
      · split at h
        · rename_i r hr
          cases h
          exact op_int hd ho ((ev_mk e hl x).trans hx) ((ev_mk e hl y).trans hy) hr
        · cases h
    · split at h
      · split at h
        · rename_i r hr
          cases h
          exact op_shift hd ho (.inl rfl) ((ev_mk e hl x).trans hx) ((ev_mk e hl y).trans hy) hr
        · cases h
      · split at h
        · rename_i r hr
          cases h
          exact op_shift hd ho (.inr rfl) ((ev_mk e hl x).trans hx) ((ev_mk e hl y).trans hy) hr
        · cases h
      · cases h
  · rename_i m n hx hy
    split at h
    · cases h
      exact op_strAdd hd ho ((ev_mk e hl x).trans hx) ((ev_mk e hl y).trans hy) hs
    · cases h
      exact op_strEq hd ho ((ev_mk e hl x).trans hx) ((ev_mk e hl y).trans hy) (.inl ⟨rfl, rfl⟩)
    · cases h
      exact op_strEq hd ho ((ev_mk e hl x).trans hx) ((ev_mk e hl y).trans hy) (.inr ⟨rfl, rfl⟩)
    · cases h
  · rename_i m n hx hy
    split at h
    · rename_i ti ht
      cases h
      exact op_boolEq hd ho (hTQ.t t _ ht) hs ((ev_mk e hl x).trans hx) ((ev_mk e hl y).trans hy) (.inl ⟨rfl, rfl⟩)
    · rename_i ti ht
      cases h
      exact op_boolEq hd ho (hTQ.t t _ ht) hs ((ev_mk e hl x).trans hx) ((ev_mk e hl y).trans hy) (.inr ⟨rfl, rfl⟩)
    · cases h
  · rename_i hx hy
    split at h
    · rename_i ti ht
      cases h
      exact op_nilNil hd ho (hTQ.t t _ ht) hs ((ev_mk e hl x).trans hx) ((ev_mk e hl y).trans hy) (.inl ⟨rfl, rfl⟩)
    · rename_i ti ht
      cases h
      exact op_nilNil hd ho (hTQ.t t _ ht) hs ((ev_mk e hl x).trans hx) ((ev_mk e hl y).trans hy) (.inr ⟨rfl, rfl⟩)
    · cases h
  · rename_i k off hx hy
    split at h
    · rename_i ti ht
      cases h
      exact op_ptrNil hd ho (hTQ.t t _ ht) hs (.inl ⟨k, off, (ev_mk e hl x).trans hx⟩) ((ev_mk e hl y).trans hy) (.inl ⟨rfl, rfl⟩)
    · rename_i ti ht
      cases h
      exact op_ptrNil hd ho (hTQ.t t _ ht) hs (.inl ⟨k, off, (ev_mk e hl x).trans hx⟩) ((ev_mk e hl y).trans hy) (.inr ⟨rfl, rfl⟩)
    · cases h
  · rename_i k g sz i j hx hy
    split at h
    · rename_i ti ht
      cases h
      exact op_ptrNil hd ho (hTQ.t t _ ht) hs (.inr (.inl ⟨k, g, sz, i, j, (ev_mk e hl x).trans hx⟩)) ((ev_mk e hl y).trans hy) (.inl ⟨rfl, rfl⟩)
    · rename_i ti ht
      cases h
      exact op_ptrNil hd ho (hTQ.t t _ ht) hs (.inr (.inl ⟨k, g, sz, i, j, (ev_mk e hl x).trans hx⟩)) ((ev_mk e hl y).trans hy) (.inr ⟨rfl, rfl⟩)
    · cases h
  · rename_i ds hx hy
    split at h
    · rename_i ti ht
      cases h
      exact op_ptrNil hd ho (hTQ.t t _ ht) hs (.inr (.inr ⟨ds, (ev_mk e hl x).trans hx⟩)) ((ev_mk e hl y).trans hy) (.inl ⟨rfl, rfl⟩)
    · rename_i ti ht
      cases h
      exact op_ptrNil hd ho (hTQ.t t _ ht) hs (.inr (.inr ⟨ds, (ev_mk e hl x).trans hx⟩)) ((ev_mk e hl y).trans hy) (.inr ⟨rfl, rfl⟩)
    · cases h
  · rename_i sz a l n' c' hx hy
    split at h
    · rename_i ti ht
      cases h
      exact op_slNil hd ho (hTQ.t t _ ht) hs (.inl ⟨_, _, _, (ev_mk e hl x).trans hx, rfl⟩) ((ev_mk e hl y).trans hy) (.inl ⟨rfl, rfl⟩)
    · rename_i ti ht
      cases h
      exact op_slNil hd ho (hTQ.t t _ ht) hs (.inl ⟨_, _, _, (ev_mk e hl x).trans hx, rfl⟩) ((ev_mk e hl y).trans hy) (.inr ⟨rfl, rfl⟩)
    · cases h
  · rename_i ao n c n' c' hx hy
    split at h
    · rename_i ti ht
      cases h
      exact op_slNil hd ho (hTQ.t t _ ht) hs (.inr ⟨_, _, _, (ev_mk e hl x).trans hx, rfl⟩) ((ev_mk e hl y).trans hy) (.inl ⟨rfl, rfl⟩)
    · rename_i ti ht
      cases h
      exact op_slNil hd ho (hTQ.t t _ ht) hs (.inr ⟨_, _, _, (ev_mk e hl x).trans hx, rfl⟩) ((ev_mk e hl y).trans hy) (.inr ⟨rfl, rfl⟩)
    · cases h
  · rename_i ds es hx hy
    split at h
    · rename_i n xs ys hq h1 h2
      split at h
      · cases h
        exact op_eqAgg hd ho (hTQ.q t n hq) (.inl rfl) ((ev_mk e hl x).trans hx) ((ev_mk e hl y).trans hy) h1 h2 hs.1 hs.2
      · cases h
        have := op_eqAgg (X := X) (ops := ops) (s := mkF e hl) hd ho (hTQ.q t n hq) (.inr rfl) ((ev_mk e hl x).trans hx) ((ev_mk e hl y).trans hy) h1 h2 hs.1 hs.2
        simpa using this
      · cases h
    · cases h
  · cases h
include hTQ in
theorem fieldS_ok {t f : Nat} {x : Operand} (ho : o.op = .fieldAddr t x f) (h : fieldS (T t) f (evL e x) = .res p eff touch side) (hs : side) : OpOK X ops (mkF e hl) o { pv := p, eff := eff, touch := touch } := by
  unfold fieldS at h
  split at h
  · rename_i ti ht
    split at h
    · rename_i off sz hf
      split at h
      · rename_i ds hx
        cases h
        exact op_field hd ho (hTQ.t t ti ht) hf hs ((ev_mk e hl x).trans hx)
      · rename_i k o' hx
        cases h
        exact op_fieldPtr hd ho (hTQ.t t ti ht) hf hs ((ev_mk e hl x).trans hx)
      · rename_i k g sz' i j hx
        cases h
        exact op_fieldRp hd ho (hTQ.t t ti ht) hf hs ((ev_mk e hl x).trans hx)
      · cases h
    · cases h
  · cases h
omit hd in
theorem drop_cons {α : Type} {l : List α} {j : Nat} {d : α} {r : List α} (h : l.drop j = d :: r) : l[j]? = some d := by
  have := List.getElem?_drop (xs := l) (i := j) (j := 0)
  rw [h] at this
  simpa using this.symm
include hTQ in
theorem loadS_ok {t : Nat} {x : Operand} (ho : o.op = .load t x) (h : loadS (T t) (hatL hl) (evL e x) = .res p eff touch side) (hs : side) : OpOK X ops (mkF e hl) o { pv := p, eff := eff, touch := touch } := by
  unfold loadS at h
  split at h
  · rename_i ti ht
    have ht := hTQ.t t ti ht
    split at h
    · rename_i ds hx
      have hx := (ev_mk e hl x).trans hx
      split at h
      · rename_i hag
        cases h
        exact op_loadE hd ho ht hx hs (.inl ⟨hag, rfl⟩)
      · rename_i hag
        split at h
        · rename_i d r
          cases h
          have hs' : ti.size = 1 := hs
          exact op_loadE hd ho ht hx (by rw [hs']; simp) (.inr ⟨by simpa using hag, hs', rfl⟩)
        · cases h
    · rename_i k off hx
      have hx := (ev_mk e hl x).trans hx
      split at h
      · rename_i TT cells hk
        split at h
        · rename_i hag
          cases h
          exact op_loadP hd ho ht hx (s := mkF e hl) hk hs (.inl ⟨hag, rfl⟩)
        · rename_i hag
          split at h
          · rename_i q r hc
            cases h
            have hs' : ti.size = 1 := hs
            have hc' := drop_cons hc
            exact op_loadP hd ho ht hx (s := mkF e hl) hk (by have := (List.getElem?_eq_some_iff.1 hc').1; omega) (.inr ⟨by simpa using hag, hs', hc'⟩)
          · cases h
      · cases h
    · rename_i k g sz i j hx
      have hx := (ev_mk e hl x).trans hx
      split at h
      · rename_i E sz' g' rows hk
        split at h
        · rename_i row hrow
          split at h
          · rename_i hag
            cases h
            obtain ⟨rfl, rfl, hj⟩ := hs
            exact op_loadRp hd ho ht hx (s := mkF e hl) hk hrow hj (.inl ⟨hag, rfl⟩)
          · rename_i hag
            split at h
            · rename_i d r hc
              cases h
              obtain ⟨rfl, rfl, hs', hj⟩ := hs
              have hc' := drop_cons hc
              exact op_loadRp hd ho ht hx (s := mkF e hl) hk hrow (by omega) (.inr ⟨by simpa using hag, hs', hc'⟩)
            · cases h
        · cases h
      · cases h
    · cases h
  · cases h
include hTQ in
theorem nifS_ok {op : BinOp} {t t' : Nat} {x : Operand} (ho : o.op = .binOp op t x (.const .nilIface) t') (h : nifS (T t) op (evL e x) = .res p eff touch side) (hs : side) : OpOK X ops (mkF e hl) o { pv := p, eff := eff, touch := touch } := by
  unfold nifS at h
  split at h
  · rename_i ti ht hx
    cases h
    exact op_nilIf hd ho (hTQ.t _ _ ht) hs ((ev_mk e hl x).trans hx) (.inl rfl) (.inl ⟨rfl, rfl⟩)
  · rename_i ti ht hx
    cases h
    exact op_nilIf hd ho (hTQ.t _ _ ht) hs ((ev_mk e hl x).trans hx) (.inl rfl) (.inr ⟨rfl, rfl⟩)
  · rename_i ti ht hx
    cases h
    exact op_nilIf hd ho (hTQ.t _ _ ht) hs ((ev_mk e hl x).trans hx) (.inr rfl) (.inl ⟨rfl, rfl⟩)
  · rename_i ti ht hx
    cases h
    exact op_nilIf hd ho (hTQ.t _ _ ht) hs ((ev_mk e hl x).trans hx) (.inr rfl) (.inr ⟨rfl, rfl⟩)
  · cases h
include hTQ in
theorem indexS_ok {t : Nat} {x y : Operand} (ho : o.op = .indexAddr t x y) (h : indexS T (T t) (hatL hl) (evL e x) (evL e y) = .res p eff touch side) (hs : side) : OpOK X ops (mkF e hl) o { pv := p, eff := eff, touch := touch } := by
  unfold indexS at h
  split at h
  · rename_i ti ht
    split at h
    · rename_i el he
      split at h
      · rename_i te hte
        split at h
        · rename_i kd n hy
          have hy := (ev_mk e hl y).trans hy
          split at h
          · rename_i sz rows hx
            split at h
            · rename_i row hrow
              cases h
              exact op_index hd ho (hTQ.t t ti ht) he (hTQ.t el te hte) hs.1 ((ev_mk e hl x).trans hx) hy hs.2 hrow
            · cases h
          · rename_i k g hx
            split at h
            · rename_i e' sz g' rows hk
              cases h
              obtain ⟨rfl, rfl, h1, h2, h3⟩ := hs
              exact op_indexOwn hd ho (hTQ.t t ti ht) he (hTQ.t _ te hte) h1 ((ev_mk e hl x).trans hx) (s := mkF e hl) hk hy h2 h3
            · cases h
          · rename_i k g sz st m hx
            cases h
            exact op_indexOsl hd ho (hTQ.t t ti ht) he (hTQ.t _ te hte) hs.1 ((ev_mk e hl x).trans hx) (s := mkF e hl) hy hs.2.1 hs.2.2
          · cases h
        · cases h
      · cases h
    · split at h
      · rename_i m el k off kd n ha hx hy
        split at h
        · rename_i te hte
          cases h
          exact op_arrAddr hd ho (hTQ.t t ti ht) ha (hTQ.t el te hte) rfl ((ev_mk e hl x).trans hx) ((ev_mk e hl y).trans hy) hs.1 hs.2
        · cases h
      · cases h
  · cases h
include hTQ in
theorem indexV_ok {t : Nat} {x y : Operand} (ho : o.op = .index t x y) (h : indexV T (T t) (evL e x) (evL e y) = .res p eff touch side) (hs : side) : OpOK X ops (mkF e hl) o { pv := p, eff := eff, touch := touch } := by
  unfold indexV at h
  split at h
  · rename_i ti ht
    split at h
    · rename_i a kd n hx hy
      cases h
      exact op_strIndex hd ho (hTQ.t t ti ht) hs.1 ((ev_mk e hl x).trans hx) ((ev_mk e hl y).trans hy) hs.2.1 hs.2.2
    · rename_i ds kd n hx hy
      split at h
      · rename_i m el ha
        split at h
        · rename_i te hte
          split at h
          · rename_i q hq
            cases h
            exact op_arrIndex hd ho (hTQ.t t ti ht) ha (hTQ.t el te hte) hs.1 hs.2.1 ((ev_mk e hl x).trans hx) ((ev_mk e hl y).trans hy) hs.2.2.1 hs.2.2.2 hq
          · cases h
        · cases h
      · cases h
    · cases h
  · cases h
theorem extrS_ok {x : Operand} {i : Nat} (ho : o.op = .extract x i) (h : extrS (evL e x) i = .res p eff touch side) (_hs : side) : OpOK X ops (mkF e hl) o { pv := p, eff := eff, touch := touch } := by
  unfold extrS at h
  split at h
  · rename_i ds hx
    split at h
    · rename_i d hi
      cases h
      exact op_extract hd ho ((ev_mk e hl x).trans hx) hi
    · cases h
  · rename_i ds hx
    split at h
    · rename_i d hi
      cases h
      exact op_extractP hd ho ((ev_mk e hl x).trans hx) hi
    · cases h
  · cases h
omit hd in
theorem partsS_ok : ∀ {parts : List (Nat × Operand)} {pd : List (Nat × List PV)}, partsS e parts = some pd → pd.length = parts.length ∧ ∀ (j : Nat) (i : Nat) (x : Operand), parts[j]? = some (i, x) → pd[j]? = some (i, cellsP (evL e x)) ∧ okP (evL e x) = true
  | [], pd, h => by cases h; simp
  | (i, x) :: l, pd, h => by
    unfold partsS at h
    split at h
    · rename_i hok
      split at h
      · rename_i pd' h2
        cases h
        obtain ⟨q1, q2⟩ := partsS_ok h2
        refine ⟨by simp [q1], fun j i' y hj => ?_⟩
        cases j with
        | zero =>
          simp at hj
          obtain ⟨rfl, rfl⟩ := hj
          exact ⟨rfl, hok⟩
        | succ j => simpa using q2 j i' y (by simpa using hj)
      · cases h
    · cases h
include hTQ in
theorem buildS_ok {t : Nat} {parts : List (Nat × Operand)} (ho : o.op = .build t ⟨parts⟩) (h : buildS T (T t) e parts = .res p eff touch side) (_hs : side) : OpOK X ops (mkF e hl) o { pv := p, eff := eff, touch := touch } := by
  unfold buildS at h
  split at h
  · rename_i ti ht
    split at h
    · split at h
      · rename_i n el ha
        split at h
        · rename_i te pd hte hp
          split at h
          · rename_i out hf
            cases h
            obtain ⟨q1, q2⟩ := partsS_ok hp
            refine op_buildArr hd ho (hTQ.t t ti ht) ha (hTQ.t el te hte) (pd := pd) (by simpa using q1) (fun j i x hj => ?_) hf
            obtain ⟨r1, r2⟩ := q2 j i x (by simpa using hj)
            rw [ev_mk]
            exact ⟨r1, r2⟩
          · cases h
        · cases h
      · cases h
    · rename_i f fs hfl
      split at h
      · rename_i pd hp
        split at h
        · rename_i out hf
          cases h
          obtain ⟨q1, q2⟩ := partsS_ok hp
          refine op_build hd ho (hTQ.t t ti ht) (by rw [hfl]; simp) (pd := pd) (by simpa using q1) (fun j i x hj => ?_) (by rw [← hf, hfl])
          obtain ⟨r1, r2⟩ := q2 j i x (by simpa using hj)
          rw [ev_mk]
          exact ⟨r1, r2⟩
        · cases h
      · cases h
  · cases h
omit hd in
theorem rowsS_ok : ∀ {parts : List (Nat × Operand)} {n : Nat} {rows : List (List PV)}, rowsS e n parts = some rows → parts.length = rows.length ∧ ∀ (j : Nat) (i : Nat) (x : Operand), parts[j]? = some (i, x) →
    i = n + j ∧ rows[j]? = some (cellsP (evL e x)) ∧ okP (evL e x) = true
  | [], n, rows, h => by cases h; simp
  | (i, x) :: l, n, rows, h => by
    unfold rowsS at h
    split at h
    · rename_i hok
      simp only [Bool.and_eq_true, beq_iff_eq] at hok
      split at h
      · rename_i rows' h2
        cases h
        obtain ⟨q1, q2⟩ := rowsS_ok h2
        refine ⟨by simp [q1], fun j i' y hj => ?_⟩
        cases j with
        | zero =>
          simp at hj
          obtain ⟨rfl, rfl⟩ := hj
          exact ⟨by omega, rfl, hok.1⟩
        | succ j =>
          obtain ⟨r0, r1, r3⟩ := q2 j i' y (by simpa using hj)
          exact ⟨by omega, by simpa using r1, r3⟩
      · cases h
    · cases h
omit hd in
theorem dsR_at : ∀ {rows : List (List PV)} {ds : List (List D)}, dsR rows = some ds → rows.length = ds.length ∧ ∀ (j : Nat) (r : List PV), rows[j]? = some r → ∃ d, ds[j]? = some d ∧ dsOf r = some d
  | [], ds, h => by cases h; simp
  | r :: l, ds, h => by
    unfold dsR at h
    split at h
    · rename_i d ds' h1 h2
      cases h
      obtain ⟨q1, q2⟩ := dsR_at h2
      refine ⟨by simp [q1], fun j x hj => ?_⟩
      cases j with
      | zero => simp at hj; subst hj; exact ⟨d, rfl, h1⟩
      | succ j => simpa using q2 j x (by simpa using hj)
    · cases h
omit hd in
theorem allLen_mem {sz : Nat} : ∀ {rows : List (List PV)}, allLen sz rows → ∀ r ∈ rows, r.length = sz
  | r :: rows, h, q, hq => by
    rcases List.mem_cons.1 hq with rfl | hq
    · exact h.1
    · exact allLen_mem h.2 q hq
include hTQ in
theorem bslS_ok (hml : X.m ≤ hl.length) {t n : Nat} {parts : List (Nat × Operand)} (ho : o.op = .buildSlice t n ⟨parts⟩) (h : bslS T (T t) hl.length e n parts = .res p eff touch side) (hs : side) : OpOK X ops (mkF e hl) o { pv := p, eff := eff, touch := touch } := by
  unfold bslS at h
  split at h
  · rename_i ti ht
    split at h
    · rename_i el he
      split at h
      · rename_i te hte
        split at h
        · cases h
          exact op_buildSlice0 hd ho (hTQ.t t ti ht) he (hTQ.t el te hte) (s := mkF e hl) (hatL_end hl) (by omega)
        · rename_i n' parts'
          split at h
          · rename_i rows hr
            obtain ⟨q1, q2⟩ := rowsS_ok hr
            split at h
            · rename_i ds hds
              cases h
              obtain ⟨h1, h2, h3, h4⟩ := hs
              obtain ⟨g1, g2⟩ := dsR_at hds
              refine op_buildSlice hd ho (hTQ.t t ti ht) he (hTQ.t el te hte) rfl h1 (by omega) h2 (by omega) (by simp; omega) (fun j i x hj => ?_)
              obtain ⟨r0, r1, r3⟩ := q2 j i x (by simpa using hj)
              obtain ⟨d, g3, g4⟩ := g2 j _ r1
              have hlen := allLen_mem h4 _ (List.mem_of_getElem? r1)
              refine ⟨by omega, d, g3, by rw [ev_mk]; exact g4, by rw [ev_mk]; exact r3, ?_⟩
              have := congrArg List.length (dsOf_eq g4)
              rw [List.length_map] at this
              omega
            · cases h
              obtain ⟨h1, h2, h3, h4⟩ := hs
              refine op_buildSliceO hd ho (hTQ.t t ti ht) he (hTQ.t el te hte) rfl h1 (by omega) h2 h3 (by simp; omega) (s := mkF e hl) (hatL_end hl) (by omega) (fun j i x hj => ?_)
              obtain ⟨r0, r1, r3⟩ := q2 j i x (by simpa using hj)
              rw [ev_mk]
              exact ⟨by omega, r1, r3, allLen_mem h4 _ (List.mem_of_getElem? r1)⟩
          · cases h
        · cases h
      · cases h
    · cases h
  · cases h
include hTQ in
theorem mkSlS_ok (hml : X.m ≤ hl.length) {t : Nat} {x y : Operand} (ho : o.op = .makeSlice t x y) (h : mkSlS T (T t) hl.length (evL e x) (evL e y) = .res p eff touch side) (hs : side) : OpOK X ops (mkF e hl) o { pv := p, eff := eff, touch := touch } := by
  unfold mkSlS at h
  split at h
  · rename_i ti ht
    split at h
    · rename_i el he
      split at h
      · rename_i te hte
        split at h
        · rename_i zv kx n ky m hz hx hy
          cases h
          obtain ⟨h1, h2, h3, h4⟩ := hs
          subst h1
          exact op_makeSlice hd ho (hTQ.t t ti ht) he (hTQ.t el te hte) hz h2 h3 h4 (s := mkF e hl) (by rw [ev_mk]; exact hx) (by rw [ev_mk]; exact hy) (hatL_end hl) (by omega)
        · cases h
      · cases h
    · cases h
  · cases h
include hTQ in
theorem convS_ok {src dst : Nat} {x : Operand} (ho : o.op = .convert src dst x) (h : convS T (T src) (T dst) (evL e x) = .res p eff touch side) (hs : side) : OpOK X ops (mkF e hl) o { pv := p, eff := eff, touch := touch } := by
  unfold convS at h
  split at h
  · rename_i ts td h1 h2
    split at h
    · rename_i k k' n hi hx
      cases h
      exact op_convert hd ho (hTQ.t _ _ h1) (hTQ.t _ _ h2) hi ((ev_mk e hl x).trans hx)
    · rename_i rows hi hx
      split at h
      · rename_i el he
        split at h
        · rename_i te hte
          split at h
          · rename_i xs hb
            cases h
            exact op_strBytes hd ho (hTQ.t _ _ h1) (hTQ.t _ _ h2) he (hTQ.t _ _ hte) hs.1 hs.2 ((ev_mk e hl x).trans hx) hb
          · cases h
        · cases h
      · cases h
    · cases h
  · cases h
include hTQ in
theorem lenS_ok {t : Nat} {x : Operand} (ho : o.op = .call ⟨.builtin .len, ⟨[x]⟩, ⟨[t]⟩⟩) (h : lenS (T t) (hatL hl) (evL e x) = .res p eff touch side) (hs : side) : OpOK X ops (mkF e hl) o { pv := p, eff := eff, touch := touch } := by
  unfold lenS at h
  split at h
  · rename_i ti ht
    split at h
    · rename_i el he
      split at h
      · rename_i sz rows hx
        cases h
        exact op_len (ty := 0) hd ho (hTQ.t _ _ ht) he ((ev_mk e hl x).trans hx) (.inl ⟨_, _, rfl, rfl⟩)
      · rename_i hx
        cases h
        exact op_len (ty := 0) hd ho (hTQ.t _ _ ht) he ((ev_mk e hl x).trans hx) (.inr ⟨rfl, rfl⟩)
      · rename_i k g hx
        split at h
        · rename_i E sz g' rows hk
          cases h
          subst hs
          exact op_lenOwn hd ho (hTQ.t _ _ ht) he ((ev_mk e hl x).trans hx) (s := mkF e hl) hk
        · cases h
      · rename_i k g sz st n hx
        cases h
        exact op_lenOsl hd ho (hTQ.t _ _ ht) he ((ev_mk e hl x).trans hx)
      · cases h
    · split at h
      · rename_i a hx
        cases h
        exact op_strLen hd ho (hTQ.t _ _ ht) hs ((ev_mk e hl x).trans hx)
      · cases h
  · cases h
omit hd in
theorem srcS_ok {sz : Nat} {y : PV} {news : List (List PV)} {ty : List Nat} (h : srcS (hatL hl) sz y = some (news, ty)) : SrcP (mkF e hl) sz y news ty := by
  unfold srcS at h
  split at h
  · split at h
    · rename_i e1
      subst e1
      cases h
      exact .sl _
    · cases h
  · cases h
    exact .nil _ _
  · split at h
    · rename_i E sz' g' rows hk
      split at h
      · rename_i e1
        obtain ⟨rfl, rfl⟩ := e1
        cases h
        exact .own _ _ _ _ hk
      · cases h
    · cases h
  · split at h
    · rename_i E sz' g' rows hk
      split at h
      · rename_i e1
        obtain ⟨rfl, rfl, rfl⟩ := e1
        cases h
        exact .osl _ _ _ _ _ _ hk
      · cases h
    · cases h
  · cases h
include hTQ in
theorem appS_ok (hml : X.m ≤ hl.length) {t : Nat} {x y : Operand} (ho : o.op = .call ⟨.builtin .append, ⟨[x, y]⟩, ⟨[t, t]⟩⟩) (h : appS T (T t) hl.length (hatL hl) (evL e x) (evL e y) = .res p eff touch side) (hs : side) : OpOK X ops (mkF e hl) o { pv := p, eff := eff, touch := touch } := by
  unfold appS at h
  split at h
  · rename_i ti ht
    split at h
    · rename_i el he
      split at h
      · rename_i te hte
        split at h
        · cases h
        · rename_i hz
          have hz1 : 0 < te.size := by omega
          have hz2 : 0 < te.bytes := by omega
          have big : ∀ m : Nat, m * te.bytes ≤ 140737488355328 → m ≤ 9223372036854775807 := fun m hm => by
            have := Nat.le_mul_of_pos_right m hz2
            omega
          split at h
          · rename_i news ty hsrc
            have hsrc := srcS_ok (e := e) (hl := hl) hsrc
            rw [← ev_mk e hl] at hsrc
            split at h
            · rename_i k g hx
              split at h
              · rename_i e' sz g' rows hk
                cases h
                obtain ⟨rfl, rfl, rfl, hb⟩ := hs
                exact op_append hd ho (hTQ.t _ _ ht) he (hTQ.t _ _ hte) rfl hz1 ((ev_mk e hl x).trans hx) (s := mkF e hl) hk hsrc (big _ hb) hb
              · cases h
            · rename_i hx
              cases h
              exact op_appendNil hd ho (hTQ.t _ _ ht) he (hTQ.t _ _ hte) rfl hz1 ((ev_mk e hl x).trans hx) (s := mkF e hl) (hatL_end hl) (by omega) hsrc (big _ hs) hs
            · rename_i k g sz st n hx
              split at h
              · rename_i e' sz' g' rows hk
                cases h
                obtain ⟨rfl, rfl, rfl, rfl, rfl, h1, h2⟩ := hs
                exact op_appendOsl hd ho (hTQ.t _ _ ht) he (hTQ.t _ _ hte) rfl hz1 ((ev_mk e hl x).trans hx) (s := mkF e hl) hk h1 hsrc h2
              · cases h
            · cases h
          · cases h
      · cases h
    · cases h
  · cases h
include hTQ in
theorem sliceS_ok {t : Nat} {x : Operand} {lo hi mx : Option Operand} (ho : o.op = .slice t x lo hi mx) (h : sliceS T (T t) (hatL hl) (evL e x) (lo.map (evL e)) (hi.map (evL e)) (mx.map (evL e)) = .res p eff touch side) (hs : side) : OpOK X ops (mkF e hl) o { pv := p, eff := eff, touch := touch } := by
  have hm : ∀ y : Option Operand, y.map (evL e) = y.map (ev (mkF e hl)) := fun y => by cases y <;> simp [ev_mk]
  rw [hm lo, hm hi] at h
  unfold sliceS at h
  split at h
  · rename_i ti ht
    split at h
    · rename_i el he
      split at h
      · rename_i te hte
        split at h
        · rename_i hmx
          have hmx : mx = none := by simpa using hmx
          subst hmx
          split at h
          · rename_i sz rows hx
            split at h
            · rename_i l r hlo hhi
              cases h
              exact op_sliceD hd ho (hTQ.t _ _ ht) he (hTQ.t _ _ hte) hs.1 ((ev_mk e hl x).trans hx) hlo hhi hs.2.1 hs.2.2
            · cases h
          · rename_i k g hx
            split at h
            · rename_i e' sz g' hk
              split at h
              · rename_i l r hlo hhi
                cases h
                obtain ⟨rfl, rfl, h1, rfl, rfl⟩ := hs
                exact op_sliceOwn0 hd ho (hTQ.t _ _ ht) he (hTQ.t _ _ hte) h1 ((ev_mk e hl x).trans hx) (s := mkF e hl) hk hlo hhi
              · cases h
            · rename_i e' sz g' rows hne hk
              split at h
              · rename_i l r hlo hhi
                cases h
                obtain ⟨rfl, rfl, h1, h2, h3, h4⟩ := hs
                exact op_sliceOwn hd ho (hTQ.t _ _ ht) he (hTQ.t _ _ hte) h1 ((ev_mk e hl x).trans hx) (s := mkF e hl) hk h2 hlo hhi h3 h4
              · cases h
            · cases h
          · rename_i k g sz st n hx
            split at h
            · rename_i e' sz' g' rows hk
              split at h
              · rename_i l r hlo hhi
                cases h
                obtain ⟨rfl, rfl, rfl, h1, h2, h3, h4⟩ := hs
                exact op_sliceOsl hd ho (hTQ.t _ _ ht) he (hTQ.t _ _ hte) h1 ((ev_mk e hl x).trans hx) (s := mkF e hl) hk h2 hlo hhi h3 h4
              · cases h
            · cases h
          · cases h
        · rename_i m hmx
          split at h
          · rename_i k g k1 n1 k2 n2 k3 n3 hx hlo hhi
            split at h
            · rename_i e' sz g' rows hk
              cases h
              obtain ⟨rfl, rfl, h1, h2, h3, h4, h5, h6⟩ := hs
              cases lo with
              | none => cases hlo
              | some y1 => cases hi with
                | none => cases hhi
                | some y2 => cases mx with
                  | none => cases hmx
                  | some y3 =>
                    simp only [Option.map_some, Option.some.injEq] at hlo hhi hmx
                    exact op_slice3 hd ho (hTQ.t _ _ ht) he (hTQ.t _ _ hte) h1 ((ev_mk e hl x).trans hx) (s := mkF e hl) hk h2 hlo hhi ((ev_mk e hl y3).trans hmx) h3 h4 h5 h6
            · cases h
          · cases h
      · cases h
    · split at h
      · rename_i a hx hmx
        have hmx : mx = none := by simpa using hmx
        subst hmx
        split at h
        · rename_i l r hlo hhi
          cases h
          exact op_strSlice hd ho (hTQ.t _ _ ht) hs.1 ((ev_mk e hl x).trans hx) hlo hhi hs.2.1 hs.2.2
        · cases h
      · cases h
  · cases h
include hTQ in
theorem clearS_ok {t : Nat} {x : Operand} (ho : o.op = .call ⟨.builtin .clear, ⟨[x]⟩, ⟨[t]⟩⟩) (h : clearS T (T t) (hatL hl) (evL e x) = .res p eff touch side) (hs : side) : OpOK X ops (mkF e hl) o { pv := p, eff := eff, touch := touch } := by
  unfold clearS at h
  split at h
  · rename_i ti ht
    split at h
    · rename_i el he
      split at h
      · rename_i te hte
        split at h
        · rename_i k g sz st n hx
          split at h
          · rename_i e' sz' g' rows hk
            cases h
            obtain ⟨rfl, rfl, rfl, h1, h2, h3⟩ := hs
            exact op_clearOsl hd ho (hTQ.t _ _ ht) he (hTQ.t _ _ hte) h1 ((ev_mk e hl x).trans hx) (s := mkF e hl) hk h2 h3
          · cases h
        · cases h
      · cases h
    · cases h
  · cases h
include hTQ in
theorem storeS_ok {t : Nat} {x y : Operand} (ho : o.op = .store t x y) (h : storeS (T t) (hatL hl) o.dst (evL e x) (evL e y) = .res p eff touch side) (hs : side) : OpOK X ops (mkF e hl) o { pv := p, eff := eff, touch := touch } := by
  unfold storeS at h
  split at h
  · rename_i ti ht hdst
    split at h
    · rename_i k off hx
      split at h
      · rename_i TT cells hk
        split at h
        · rename_i hok
          cases h
          have := op_store (X := X) (ops := ops) hd ho hdst (hTQ.t _ _ ht) ((ev_mk e hl x).trans hx) (s := mkF e hl) hk (y := y) (by rw [ev_mk]; exact hok) (by rw [ev_mk]; exact hs.1) hs.2
          rwa [ev_mk] at this
        · cases h
      · cases h
    · rename_i k g sz i j hx
      split at h
      · rename_i E sz' g' rows hk
        split at h
        · rename_i row hrow
          split at h
          · rename_i hok
            cases h
            obtain ⟨rfl, rfl, h1, h2⟩ := hs
            have := op_storeRp (X := X) (ops := ops) hd ho hdst (hTQ.t _ _ ht) ((ev_mk e hl x).trans hx) (s := mkF e hl) hk hrow (y := y) (by rw [ev_mk]; exact hok) (by rw [ev_mk]; exact h1) h2
            rwa [ev_mk] at this
          · cases h
        · cases h
      · cases h
    · cases h
  · cases h
theorem makeMapS_ok (hml : X.m ≤ hl.length) {t : Nat} (ho : o.op = .makeMap t none) (h : makeMapS (T t) hl.length = .res p eff touch side) : OpOK X ops (mkF e hl) o { pv := p, eff := eff, touch := touch } := by
  unfold makeMapS at h
  split at h
  · split at h
    · cases h
      exact op_makeMap hd ho (s := mkF e hl) (hatL_end hl) (by omega)
    · cases h
  · cases h
include hTQ in
theorem lookupS_ok {t : Nat} {m x : Operand} {ok : Bool} (ho : o.op = .lookup t m x ok) (h : lookupS (T t) (hatL hl) (evL e m) (evL e x) ok = .res p eff touch side) (hs : side) : OpOK X ops (mkF e hl) o { pv := p, eff := eff, touch := touch } := by
  unfold lookupS at h
  split at h
  · rename_i ti ht
    split at h
    · rename_i n sB hmp
      split at h
      · rename_i k hm
        split at h
        · rename_i n' sB' ents hk
          split at h
          · rename_i xs hx
            cases h
            obtain ⟨rfl, rfl, h3⟩ := hs
            exact op_lookup (X := X) (ops := ops) hd ho (hTQ.m _ _ _ _ ht hmp) ((ev_mk e hl m).trans hm) (s := mkF e hl) hk (by rw [ev_mk]; exact hx) h3
          · cases h
        · cases h
      · cases h
    · cases h
  · cases h
include hTQ in
theorem mapUpS_ok {t : Nat} {m x y : Operand} (ho : o.op = .mapUpdate t m x y ∨ o.op = .insert t m x y) (h : mapUpS (T t) (hatL hl) o.dst (evL e m) (evL e x) (evL e y) = .res p eff touch side) (hs : side) : OpOK X ops (mkF e hl) o { pv := p, eff := eff, touch := touch } := by
  unfold mapUpS at h
  split at h
  · rename_i ti ht hdst
    split at h
    · rename_i n sB hmp
      split at h
      · rename_i k hm
        split at h
        · rename_i n' sB' ents hk
          split at h
          · rename_i xs v hx hy
            cases h
            obtain ⟨rfl, rfl, h3⟩ := hs
            exact op_mapUpdate (X := X) (ops := ops) hd ho hdst (hTQ.m _ _ _ _ ht hmp) ((ev_mk e hl m).trans hm) (s := mkF e hl) hk (by rw [ev_mk]; exact hx) h3 ((ev_mk e hl y).trans hy)
          · cases h
        · cases h
      · cases h
    · cases h
  · cases h
end
end Go.Proofs.YtmkdihmmihpibaaDoor
namespace Go.Proofs.YtmkdihmmihpibaaDoor
open Go Go.RowKit
section
variable {X : Cfg} {ops : Array Oper} {e : Env} {hl : List Chunk} {o : Oper} {T : Nat → Option TI} {Q : Nat → Option Nat} (hTQ : TabOK X.P T Q) (hd : ∀ d, o.dst = some d → d < X.n)
include hTQ hd
theorem opS_ok (hml : X.m ≤ hl.length) {p : PV} {eff : List (Nat × Chunk)} {touch : List Nat} {side : Prop} (h : opS T Q e hl o = .res p eff touch side) (hs : side) : OpOK X ops (mkF e hl) o { pv := p, eff := eff, touch := touch } := by
  unfold opS at h
  split at h
  · rename_i x ho
    cases h
    have := op_move (X := X) (ops := ops) (s := mkF e hl) hd ho
    rwa [ev_mk] at this
  · rename_i x ho
    cases h
    have := op_assign (X := X) (ops := ops) (s := mkF e hl) hd ho
    rwa [ev_mk] at this
  · rename_i ho; exact pickS_ok hd ho h hs
  · rename_i ho; exact unS_ok hd ho h hs
  · rename_i ho; exact nilS_ok hd ho h hs
  · rename_i ho; exact nifS_ok hTQ hd ho h hs
  · rename_i ho; exact binS_ok hTQ hd ho h hs
  · rename_i ho; exact fieldS_ok hTQ hd ho h hs
  · rename_i ho; exact loadS_ok hTQ hd ho h hs
  · rename_i ho; exact indexS_ok hTQ hd ho h hs
  · rename_i ho; exact indexV_ok hTQ hd ho h hs
  · rename_i ho; exact extrS_ok hd ho h hs
  · rename_i t ho
    split at h
    · rename_i ti ht
      cases h
      exact op_alloc hd ho (hTQ.t _ _ ht) (s := mkF e hl) (hatL_end hl) (by omega)
    · cases h
  · rename_i t x ho
    split at h
    · rename_i hok
      cases h
      have := op_box (X := X) (ops := ops) (s := mkF e hl) hd ho (hatL_end hl) (by omega) (by rw [ev_mk]; exact hok)
      rwa [ev_mk] at this
    · cases h
  · rename_i ho; exact storeS_ok hTQ hd ho h hs
  · rename_i ho; exact buildS_ok hTQ hd ho h hs
  · rename_i ho; exact bslS_ok hTQ hd hml ho h hs
  · rename_i g caps ho
    cases h
    have := op_makeFunc (X := X) (ops := ops) (s := mkF e hl) hd ho
    have e1 : (List.map (ev (mkF e hl)) caps) = caps.map (evL e) := List.map_congr_left fun x _ => ev_mk e hl x
    simp only at this
    rwa [e1] at this
  · rename_i ho; exact convS_ok hTQ hd ho h hs
  · rename_i ho; exact lenS_ok hTQ hd ho h hs
  · rename_i ho; exact sliceS_ok hTQ hd ho h hs
  · rename_i ho; exact clearS_ok hTQ hd ho h hs
  · rename_i x y t t' ho
    split at h
    · rename_i e1
      subst e1
      exact appS_ok hTQ hd hml ho h hs
    · cases h
  · rename_i x y tys ho
    split at h
    · rename_i k m k' n hx hy
      split at h
      · rename_i e1
        subst e1
        cases h
        exact op_min hd ho ((ev_mk e hl x).trans hx) ((ev_mk e hl y).trans hy)
      · cases h
    · cases h
  · rename_i x y tys ho
    split at h
    · rename_i k m k' n hx hy
      split at h
      · rename_i e1
        subst e1
        cases h
        exact op_max hd ho ((ev_mk e hl x).trans hx) ((ev_mk e hl y).trans hy)
      · cases h
    · cases h
  · unfold callS at h
    split at h <;> cases h
  · rename_i ho; exact mkSlS_ok hTQ hd hml ho h hs
  · rename_i ho; exact makeMapS_ok hd hml ho h
  · rename_i ho; exact lookupS_ok hTQ hd ho h hs
  · rename_i ho; exact mapUpS_ok hTQ hd (.inl ho) h hs
  · rename_i ho; exact mapUpS_ok hTQ hd (.inr ho) h hs
  · cases h
omit hTQ hd in
theorem opS_call {g : Nat} {ps : List PV} (h : opS T Q e hl o = .call g ps) : ∃ (fo : Operand) (args : List Operand) (tys : Array Nat) (caps : List PV), o.op = .call ⟨.value fo, ⟨args⟩, tys⟩ ∧ (evL e fo = .clo g caps ∨ ∃ cd : List D, evL e fo = .d (.clo g cd) ∧ caps = cd.map .d) ∧ ps = args.map (evL e) ++ caps := by
  have key : ∀ (fo : Operand) (args : List Operand) (tys : Array Nat), o.op = .call ⟨.value fo, ⟨args⟩, tys⟩ → callS (evL e fo) (args.map (evL e)) = .call g ps → ∃ (fo : Operand) (args : List Operand) (tys : Array Nat) (caps : List PV), o.op = .call ⟨.value fo, ⟨args⟩, tys⟩ ∧ (evL e fo = .clo g caps ∨ ∃ cd : List D, evL e fo = .d (.clo g cd) ∧ caps = cd.map .d) ∧ ps = args.map (evL e) ++ caps := by
    intro fo args tys ho h
    unfold callS at h
    split at h
    · rename_i g' caps hfo
      cases h
      exact ⟨fo, args, tys, caps, ho, .inl hfo, rfl⟩
    · rename_i g' cd hfo
      cases h
      exact ⟨fo, args, tys, _, ho, .inr ⟨cd, hfo, rfl⟩, rfl⟩
    · cases h
  unfold opS at h
  split at h <;> first
    | (rename_i ho; exact key _ _ _ ho h)
    | (exfalso; revert h; unfold pickS; repeat (first | (split) | (intro h; cases h)))
    | (exfalso; revert h; unfold unS; repeat (first | (split) | (intro h; cases h)))
    | (exfalso; revert h; unfold nilS; repeat (first | (split) | (intro h; cases h)))
    | (exfalso; revert h; unfold nifS; repeat (first | (split) | (intro h; cases h)))
    | (exfalso; revert h; unfold binS; repeat (first | (split) | (intro h; cases h)))
    | (exfalso; revert h; unfold fieldS; repeat (first | (split) | (intro h; cases h)))
    | (exfalso; revert h; unfold loadS; repeat (first | (split) | (intro h; cases h)))
    | (exfalso; revert h; unfold indexV; repeat (first | (split) | (intro h; cases h)))
    | (exfalso; revert h; unfold indexS; repeat (first | (split) | (intro h; cases h)))
    | (exfalso; revert h; unfold extrS; repeat (first | (split) | (intro h; cases h)))
    | (exfalso; revert h; unfold storeS; repeat (first | (split) | (intro h; cases h)))
    | (exfalso; revert h; unfold buildS; repeat (first | (split) | (intro h; cases h)))
    | (exfalso; revert h; unfold bslS; repeat (first | (split) | (intro h; cases h)))
    | (exfalso; revert h; unfold convS; repeat (first | (split) | (intro h; cases h)))
    | (exfalso; revert h; unfold lenS; repeat (first | (split) | (intro h; cases h)))
    | (exfalso; revert h; unfold appS; repeat (first | (split) | (intro h; cases h)))
    | (exfalso; revert h; unfold sliceS; repeat (first | (split) | (intro h; cases h)))
    | (exfalso; revert h; unfold clearS; repeat (first | (split) | (intro h; cases h)))
    | (exfalso; revert h; unfold mkSlS; repeat (first | (split) | (intro h; cases h)))
    | (exfalso; revert h; unfold makeMapS; repeat (first | (split) | (intro h; cases h)))
    | (exfalso; revert h; unfold lookupS; repeat (first | (split) | (intro h; cases h)))
    | (exfalso; revert h; unfold mapUpS; repeat (first | (split) | (intro h; cases h)))
    | (exfalso; revert h; repeat (first | (split) | (intro h; cases h)))
end
def putE (e : Env) (dst : Option Nat) (p : PV) : Env :=
  match dst with
  | some d => (d, p) :: e
  | none => e
def setC : List Chunk → Nat → Chunk → List Chunk
  | [], 0, c => [c]
  | [], _ + 1, _ => []
  | _ :: l, 0, c => c :: l
  | a :: l, k + 1, c => a :: setC l k c
def effC : List (Nat × Chunk) → List Chunk → List Chunk
  | [], h => h
  | (k, c) :: l, h => setC (effC l h) k c
theorem hatL_setC : ∀ {h : List Chunk} {k : Nat} {c : Chunk}, k ≤ h.length → ∀ k', hatL (setC h k c) k' = if k' = k then c else hatL h k'
  | [], 0, c, _, k' => by cases k' <;> simp [setC, hatL]
  | [], k + 1, c, h, k' => by simp at h
  | a :: l, 0, c, _, k' => by cases k' <;> simp [setC, hatL]
  | a :: l, k + 1, c, h, k' => by
    cases k' with
    | zero => simp [setC, hatL]
    | succ k' =>
      simp only [setC, hatL]
      rw [hatL_setC (by simpa using h)]
      simp
theorem setC_len : ∀ {h : List Chunk} {k : Nat} {c : Chunk}, h.length ≤ (setC h k c).length
  | [], 0, c => by simp [setC]
  | [], k + 1, c => by simp [setC]
  | a :: l, 0, c => by simp [setC]
  | a :: l, k + 1, c => by
    have := setC_len (h := l) (k := k) (c := c)
    simpa [setC] using this
theorem effC_len : ∀ {eff : List (Nat × Chunk)} {h : List Chunk}, h.length ≤ (effC eff h).length
  | [], _ => Nat.le_refl _
  | (_, _) :: _, _ => Nat.le_trans effC_len setC_len
theorem hatL_effC : ∀ {eff : List (Nat × Chunk)} {h : List Chunk}, (∀ kc ∈ eff, kc.1 ≤ h.length) → ∀ k', hatL (effC eff h) k' = effH eff (hatL h) k'
  | [], _, _, _ => rfl
  | (k, c) :: l, h, hk, k' => by
    simp only [effC, effH]
    rw [hatL_setC (Nat.le_trans (hk (k, c) (by simp)) effC_len), hatL_effC fun kc hkc => hk kc (by simp [hkc])]
theorem mkF_app {e : Env} {h : List Chunk} {dst : Option Nat} {p : PV} {eff : List (Nat × Chunk)} {touch : List Nat} (hk : ∀ kc ∈ eff, kc.1 ≤ h.length) : (mkF e h).app dst { pv := p, eff := eff, touch := touch } = mkF (putE e dst p) (effC eff h) := by
  have h1 : hatL (effC eff h) = effH eff (hatL h) := funext (hatL_effC hk)
  cases dst with
  | none => simp only [FS.app, FS.put, mkF, putE, h1]
  | some d =>
    simp only [FS.app, FS.put, mkF, putE, h1]
    congr 1
theorem setC_lt : ∀ {h : List Chunk} {k : Nat} {c : Chunk}, k < h.length → (setC h k c).length = h.length
  | a :: l, 0, c, _ => rfl
  | a :: l, k + 1, c, hk => by simp only [setC, List.length_cons]; rw [setC_lt (by simpa using hk)]
theorem setC_end : ∀ {h : List Chunk} {c : Chunk}, (setC h h.length c).length = h.length + 1
  | [], c => rfl
  | a :: l, c => by simp only [setC, List.length_cons]; rw [setC_end]
/-- What a callee leaves, in the caller's list. -/
def heapM (ρ : Nat → Nat) : Nat → List Chunk → List Chunk → List Chunk
  | _, [], h => h
  | j, c :: l, h => heapM ρ (j + 1) l (setC h (ρ j) (renC ρ c))
theorem effH_put {ρ : Nat → Nat} (inj : ∀ i j, ρ i = ρ j → i = j) {c : Chunk} : ∀ (l : List Chunk) (i j : Nat) (h : Nat → Chunk), j < i → ∀ k, effH (effM ρ i l) (fun k' => if k' = ρ j then c else h k') k = if k = ρ j then c else effH (effM ρ i l) h k
  | [], i, j, h, hj, k => rfl
  | d :: l, i, j, h, hj, k => by
    simp only [effM, effH]
    by_cases e : k = ρ i
    · rw [if_pos e, if_pos e, if_neg (fun e2 => by have := inj _ _ (e.symm.trans e2); omega)]
    · rw [if_neg e, if_neg e]
      exact effH_put inj l (i + 1) j h (by omega) k
theorem heapM_ok {ls : List Nat} {nk : Nat} (hnd : ls.Nodup) (hlt : ∀ k ∈ ls, k < nk) : ∀ (l : List Chunk) (i : Nat) (h : List Chunk), (i ≤ ls.length → h.length = nk) → (ls.length ≤ i → h.length = nk + (i - ls.length)) →
    (∀ k, hatL (heapM (rid ls nk) i l h) k = effH (effM (rid ls nk) i l) (hatL h) k) ∧ h.length ≤ (heapM (rid ls nk) i l h).length
  | [], i, h, _, _ => ⟨fun _ => rfl, Nat.le_refl _⟩
  | c :: l, i, h, h1, h2 => by
    have inj : ∀ i j, rid ls nk i = rid ls nk j → i = j := fun i j e => rid_inj hnd hlt e
    rcases Nat.lt_or_ge i ls.length with hi | hi
    · have hlen := h1 (by omega)
      have hk : rid ls nk i < h.length := by rw [hlen]; exact hlt _ (List.mem_of_getElem? (rid_old hi))
      have hset := setC_lt (c := renC (rid ls nk) c) hk
      obtain ⟨q1, q2⟩ := heapM_ok hnd hlt l (i + 1) (setC h (rid ls nk i) (renC (rid ls nk) c)) (fun _ => hset.trans hlen) (fun hge => by rw [hset, hlen]; omega)
      refine ⟨fun k => ?_, by rw [hset] at q2; exact q2⟩
      simp only [heapM, effM, effH]
      rw [q1 k, show hatL (setC h (rid ls nk i) (renC (rid ls nk) c)) = fun k' => if k' = rid ls nk i then renC (rid ls nk) c else hatL h k' from funext (hatL_setC (Nat.le_of_lt hk))]
      exact effH_put inj l (i + 1) i _ (by omega) k
    · have hlen := h2 hi
      have hk : rid ls nk i = h.length := by
        have := rid_new ls nk (i - ls.length)
        rw [show ls.length + (i - ls.length) = i by omega] at this
        omega
      have hset : (setC h (rid ls nk i) (renC (rid ls nk) c)).length = h.length + 1 := by rw [hk]; exact setC_end
      obtain ⟨q1, q2⟩ := heapM_ok hnd hlt l (i + 1) (setC h (rid ls nk i) (renC (rid ls nk) c)) (fun hge => by omega) (fun _ => by rw [hset, hlen]; omega)
      refine ⟨fun k => ?_, Nat.le_trans (by omega) q2⟩
      simp only [heapM, effM, effH]
      rw [q1 k, show hatL (setC h (rid ls nk i) (renC (rid ls nk) c)) = fun k' => if k' = rid ls nk i then renC (rid ls nk) c else hatL h k' from funext (hatL_setC (by omega))]
      exact effH_put inj l (i + 1) i _ (by omega) k
def yieldD (dj : Option Nat) (e : Env) : Option (Option Bool) :=
  match dj with
  | none => some none
  | some t => match look e t with
    | .d (.v (.bool b)) => some (some b)
    | .d (.v (.tuple _)) => some none
    | _ => none
def guardD (ds : List (Option Nat)) (e : Env) (o : Oper) : Option Bool :=
  match o.guard with
  | none => some true
  | some (j, want) => (yieldD (ds.getD j none) e).map (· == some want)
theorem guardD_ok {ops : Array Oper} {e : Env} {h : List Chunk} {o : Oper} : guardS ops (mkF e h) o = guardD (ops.toList.map (·.dst)) e o := by
  unfold guardS guardD
  cases o.guard with
  | none => rfl
  | some jw =>
    obtain ⟨j, want⟩ := jw
    simp only
    congr 1
    unfold yieldS yieldD
    have : (ops[j]?).bind (·.dst) = (ops.toList.map (·.dst)).getD j none := by
      simp only [List.getD_eq_getElem?_getD, List.getElem?_map, Array.getElem?_toList]
      cases ops[j]? <;> rfl
    rw [this]
    rfl
def dstB (n : Nat) (o : Oper) : Bool := match o.dst with | some d => decide (d < n) | none => true
def vwL (h : Nat → Chunk) (ps : List PV) : Option (List D) := viewL (vw h) ps
def tcL (h : Nat → Chunk) (ps : List PV) : List Nat := tchL (tc h) ps
def mids (ls : List Nat) (nk n : Nat) : List Nat := (List.range n).map (rid ls nk)
/-- One operation's result, with all that follows behind a name. -/
def runO (P : Program) (r : SR) (dst : Option Nat) (e : Env) (h : List Chunk) (sm : List (List Nat × List Nat)) (R : Env → List Chunk → List (List Nat × List Nat) → Prop) : Prop :=
  match r with
  | .no => False
  | .res p eff touch side => side ∧ (eff.all fun kc => decide (kc.1 ≤ h.length)) = true ∧ R (putE e dst p) (effC eff h) ((eff.map (·.1), touch) :: sm)
  | .call g ps => (∃ ds r, vwL (hatL h) ps = some ds ∧ PSpec P g ds r ∧ (tcL (hatL h) ps = [] ∨ r.flat = true) ∧ R (putE e dst (.d r)) h (([], tcL (hatL h) ps) :: sm)) ∨
      ∃ ls args h0 r h1, MSpec P g args h0 r h1 ∧ ps = renL (rid ls h.length) args ∧ ls.length = h0.length ∧ ls.Nodup ∧ (∀ k ∈ ls, k < h.length) ∧ lentOK (hatL h) (rid ls h.length) 0 h0 ∧
        R (putE e dst (ren (rid ls h.length) r)) (heapM (rid ls h.length) 0 h1 h) ((mids ls h.length h1.length, mids ls h.length h1.length) :: sm)
/-- A region, evaluated. -/
def sOps (P : Program) (n : Nat) (T : Nat → Option TI) (Q : Nat → Option Nat) (draw : Bool) (ops : Array Oper) (ds : List (Option Nat)) : List Oper → Env → List Chunk → List (List Nat × List Nat) → (Env → List Chunk → Prop) → Prop
  | [], e, h, sm, K => (draw = true → (indepB ops sm.reverse && edgesB ops) = true) ∧ K e h
  | o :: l, e, h, sm, K =>
    match guardD ds e o with
    | some g =>
      dstB n o = true ∧
      (g = true → runO P (opS T Q e h o) o.dst e h sm (fun e' h' sm' => sOps P n T Q draw ops ds l e' h' sm' K)) ∧
      (g = false → sOps P n T Q draw ops ds l (putE e o.dst (.d (.v undef))) h (([], []) :: sm) K)
    | none => False
theorem sOps_sound {X : Cfg} {T : Nat → Option TI} {Q : Nat → Option Nat} (hTQ : TabOK X.P T Q) {draw : Bool} {ops : Array Oper} {K : Env → List Chunk → Prop} : ∀ (l : List Oper) (i : Nat) (e : Env) (h : List Chunk) (sm : List (List Nat × List Nat)), X.m ≤ h.length → ops.toList.drop i = l → i ≤ ops.size →
    sOps X.P X.n T Q draw ops (ops.toList.map (·.dst)) l e h sm K → ∃ its e' h', TraceOK X ops (mkF e h) i its ∧ runS (mkF e h) its = mkF e' h' ∧ (draw = true → (indepB ops (sm.reverse ++ smOf its) && edgesB ops) = true) ∧ K e' h'
  | [], i, e, h, sm, hml, hl, hi, hs => by
    refine ⟨[], e, h, ?_, rfl, by simpa [smOf] using hs.1, hs.2⟩
    have := congrArg List.length hl
    simp at this
    simp only [TraceOK]
    omega
  | o :: l, i, e, h, sm, hml, hl, hi, hs => by
    have hlt : i < ops.size := by
      have := congrArg List.length hl
      simp at this
      omega
    have hoi : ops[i]? = some o := by
      have := List.getElem?_drop (xs := ops.toList) (i := i) (j := 0)
      rw [hl] at this
      simpa using this.symm
    have hl' : ops.toList.drop (i + 1) = l := by
      rw [← List.drop_drop, hl]; rfl
    unfold sOps at hs
    split at hs
    · rename_i g hg
      obtain ⟨hdst, h1, h2⟩ := hs
      have hd : ∀ d, o.dst = some d → d < X.n := by
        intro d hd
        unfold dstB at hdst
        rw [hd] at hdst
        simpa using hdst
      have hgS : guardS ops (mkF e h) o = some g := guardD_ok.trans hg
      have step : ∀ (res : Res) (e2 : Env) (h2 : List Chunk), ItOK X ops (mkF e h) ⟨o, g, res⟩ → (mkF e h).app o.dst res = mkF e2 h2 → h.length ≤ h2.length → sOps X.P X.n T Q draw ops (ops.toList.map (·.dst)) l e2 h2 ((res.eff.map (·.1), res.touch) :: sm) K →
          ∃ its e' h', TraceOK X ops (mkF e h) i its ∧ runS (mkF e h) its = mkF e' h' ∧ (draw = true → (indepB ops (sm.reverse ++ smOf its) && edgesB ops) = true) ∧ K e' h' := by
        intro res e2 h2 hit happ hlen hs
        obtain ⟨its, e', h', t1, t2, t3, t4⟩ := sOps_sound hTQ l (i + 1) e2 h2 _ (by omega) hl' (by omega) hs
        refine ⟨⟨o, g, res⟩ :: its, e', h', ⟨hoi, hit, by rw [happ]; exact t1⟩, ?_, fun hdr => ?_, t4⟩
        · show runS ((mkF e h).app o.dst res) its = _
          rw [happ]
          exact t2
        · have := t3 hdr
          simpa [smOf] using this
      cases g with
      | true =>
        have h1 := h1 rfl
        unfold runO at h1
        split at h1
        · exact h1.elim
        · rename_i p eff touch side hop
          obtain ⟨hside, heff, hrest⟩ := h1
          have hk : ∀ kc ∈ eff, kc.1 ≤ h.length := fun kc hkc => by
            have := List.all_eq_true.1 heff kc hkc
            simpa using this
          exact step ⟨p, eff, touch⟩ _ _ ⟨hgS, fun _ => opS_ok hTQ hd hml hop hside, fun hf => by cases hf⟩ (mkF_app hk) effC_len hrest
        · rename_i g ps hop
          obtain ⟨fo, args, tys, caps, ho, hf, rfl⟩ := opS_call hop
          have e1 : (List.map (ev (mkF e h)) args) = args.map (evL e) := List.map_congr_left fun x _ => ev_mk e h x
          have hf' : ev (mkF e h) fo = .clo g caps ∨ ∃ cd : List D, ev (mkF e h) fo = .d (.clo g cd) ∧ caps = cd.map .d := by rw [ev_mk]; exact hf
          rcases h1 with ⟨ds, r, hv, hp, hfl, hrest⟩ | ⟨ls, margs, h0, r, hh1, hM, hps, g1, g2, g3, g4, hrest⟩
          · have := op_call (X := X) (ops := ops) (s := mkF e h) hd ho hf' (by simp only; rw [e1]; exact hv) hp (by simp only; rw [e1]; exact hfl)
            simp only at this
            rw [e1] at this
            exact step ⟨.d r, [], _⟩ _ h ⟨hgS, fun _ => this, fun hf => by cases hf⟩ (mkF_app (fun kc h => by simp at h)) (Nat.le_refl _) hrest
          · have := op_mcall (X := X) (ops := ops) (s := mkF e h) (ls := ls) (nk := h.length) hd ho hf' hM (by simp only; rw [e1]; exact hps) g1 g2 g3 g4 (fun i _ => hat_over h (h.length + i) (by omega)) hml
            obtain ⟨q1, q2⟩ := heapM_ok g2 g3 hh1 0 h (fun _ => rfl) (fun h0 => by omega)
            refine step ⟨_, _, _⟩ (putE e o.dst (ren (rid ls h.length) r)) (heapM (rid ls h.length) 0 hh1 h) ⟨hgS, fun _ => this, fun hf => by cases hf⟩ ?_ q2 ?_
            · have h3 : hatL (heapM (rid ls h.length) 0 hh1 h) = effH (effM (rid ls h.length) 0 hh1) (hatL h) := funext q1
              cases hdd : o.dst with
              | none => simp only [FS.app, FS.put, mkF, putE, h3]
              | some d =>
                simp only [FS.app, FS.put, mkF, putE, h3]
                congr 1
            · have h4 : (effM (rid ls h.length) 0 hh1).map (·.1) = mids ls h.length hh1.length := by
                rw [effM_keys]
                exact List.map_congr_left fun j _ => by rw [Nat.zero_add]
              simp only
              rw [h4]
              exact hrest
      | false =>
        exact step undefR _ h ⟨hgS, (fun hf => (by cases hf)), fun _ => ⟨rfl, hd⟩⟩ (mkF_app (fun kc h => by simp at h)) (Nat.le_refl _) (h2 rfl)
    · exact hs.elim
theorem region_sound {X : Cfg} {T : Nat → Option TI} {Q : Nat → Option Nat} (hTQ : TabOK X.P T Q) (hm : X.P.follows .mixedOrders = true) {id : Nat} {draw : Bool} {ops : Array Oper} {K : Env → List Chunk → Prop} {e : Env} {h : List Chunk} {a : Act} {w : World} {R : Exit → Act → World → Prop} (hml : X.m ≤ h.length)
    (hs : sOps X.P X.n T Q draw ops (ops.toList.map (·.dst)) ops.toList e h [] K) (hr : Real X (mkF e h) a w) (hR : ∀ e' h' a' w', K e' h' → Real X (mkF e' h') a' w' → R .normal a' w') : (Code.region id ops draw).wp X.P R a w := by
  obtain ⟨its, e', h', t1, t2, t3, t4⟩ := sOps_sound hTQ ops.toList 0 e h [] hml rfl (Nat.zero_le _) hs
  refine region_real hm id draw t1 (fun hd => ?_) hr (fun a' w' hr' => hR e' h' a' w' t4 (by rw [← t2]; exact hr'))
  have := t3 hd
  simpa using this
end Go.Proofs.YtmkdihmmihpibaaDoor
namespace Go.Proofs.YtmkdihmmihpibaaDoor
open Go Go.RowKit
/-- A state says no more than another. -/
def Weak (P : Program) (n m : Nat) (e : Env) (h : List Chunk) (e' : Env) (h' : List Chunk) : Prop := ∀ X : Cfg, X.P = P → X.n = n → X.m = m → ∀ a w, Real X (mkF e h) a w → Real X (mkF e' h') a w
def RK (X : Cfg) (K : Exit → Env → List Chunk → Prop) (x : Exit) (a : Act) (w : World) : Prop := ∃ e h, K x e h ∧ Real X (mkF e h) a w
/-- What a state makes of code. -/
def swp (P : Program) (n m : Nat) (c : Code) (K : Exit → Env → List Chunk → Prop) (e : Env) (h : List Chunk) : Prop := ∀ X : Cfg, X.P = P → X.n = n → X.m = m → ∀ a w, Real X (mkF e h) a w → c.wp P (RK X K) a w
def argP : List PV → Nat → Env
  | [], _ => []
  | p :: l, i => (i, p) :: argP l (i + 1)
theorem look_argP : ∀ (ps : List PV) (i t : Nat), look (argP ps i) t = if i ≤ t then (match ps[t - i]? with | some p => p | none => .any) else .any
  | [], i, t => by simp [argP, look]
  | d :: l, i, t => by
    simp only [argP, look]
    by_cases h : t = i
    · subst h
      simp
    · rw [if_neg h, look_argP l (i + 1) t]
      by_cases h2 : i ≤ t
      · rw [if_pos h2, if_pos (by omega), show t - i = (t - (i + 1)) + 1 by omega, List.getElem?_cons_succ]
      · rw [if_neg h2, if_neg (by omega)]
def retPV (T : Nat → Option TI) (e : Env) (h : List Chunk) : ResultVar → Option PV
  | .tmp t => some (look e t)
  | .cell a t =>
    match look e a, T t with
    | .ptr k off, some ti =>
      match hatL h k with
      | .box _ cells =>
        if off + ti.size ≤ cells.length then
          if ti.agg then some (aggP ((cells.drop off).take ti.size))
          else match cells.drop off with
            | p :: _ => if ti.size = 1 then some p else none
            | [] => none
        else none
      | _ => none
    | _, _ => none
def retPL (T : Nat → Option TI) (e : Env) (h : List Chunk) : List ResultVar → Option (List PV)
  | [] => some []
  | r :: l => match retPV T e h r, retPL T e h l with | some d, some ds => some (d :: ds) | _, _ => none
def retP : List PV → PV
  | [p] => p
  | ps => tupP ps
/-- A datum says no more than another. -/
def DLe (d d' : D) : Prop := ∀ (M : Nat → Prop) (w : World) (v : Value), RepD M w d v → RepD M w d' v
theorem DLe.refl (d : D) : DLe d d := fun _ _ _ h => h
theorem DLe.nil (sz : Nat) : DLe (.v (.slice none 0 0)) (.sl sz []) := fun _ _ _ h => by cases h; exact .nil _ _ _ (by omega)
def dles : List D → List D → Prop
  | [], [] => True
  | a :: l, b :: m => DLe a b ∧ dles l m
  | _, _ => False
theorem dles_at : ∀ {l m : List D}, dles l m → l.length = m.length ∧ ∀ (j : Nat) (a b : D), l[j]? = some a → m[j]? = some b → DLe a b
  | [], [], _ => ⟨rfl, fun j a b h => by simp at h⟩
  | [], _ :: _, h => h.elim
  | _ :: _, [], h => h.elim
  | a :: l, b :: m, ⟨h1, h2⟩ => by
    obtain ⟨q1, q2⟩ := dles_at h2
    refine ⟨by simp [q1], fun j x y hx hy => ?_⟩
    cases j with
    | zero => simp at hx hy; subst hx; subst hy; exact h1
    | succ j => exact q2 j x y (by simpa using hx) (by simpa using hy)
theorem dles_rep {M : Nat → Prop} {w : World} {l m : List D} {vs : List Value} (h : dles l m) (hr : RepDs M w l vs) : RepDs M w m vs := by
  obtain ⟨q1, q2⟩ := dles_at h
  refine ⟨q1 ▸ hr.1, fun j d x hj hx => ?_⟩
  have hlt : j < l.length := by rw [q1]; exact (List.getElem?_eq_some_iff.1 hj).1
  have hl : l[j]? = some l[j] := List.getElem?_eq_getElem hlt
  exact q2 j _ d hl hj M w x (hr.2 j _ x hl hx)
theorem DLe.agg {l m : List D} (h : dles l m) (h1 : m.all D.one = true) : DLe (.agg l) (.agg m) := fun M w v hr => by
  cases hr with
  | agg _ vs hl _ hrep =>
    have := dles_rep h ⟨hl, hrep⟩
    exact .agg m vs this.1 (by simpa using h1) this.2
theorem DLe.tup {l m : List D} (h : dles l m) : DLe (.tup l) (.tup m) := fun M w v hr => by
  cases hr with
  | tup _ vs hl hrep =>
    have := dles_rep h ⟨hl, hrep⟩
    exact .tup m vs this.1 this.2
theorem PSpec.args {P : Program} {f : Nat} {ds ds' : List D} {r : D} (h : PSpec P f ds' r) (hd : dles ds ds') : PSpec P f ds r := ⟨h.1, fun M w vs hM hG hds => h.2 M w vs hM hG (dles_rep hd hds)⟩
theorem PSpec.res {P : Program} {f : Nat} {ds : List D} {r r' : D} (h : PSpec P f ds r) (hr : DLe r r') : PSpec P f ds r' := ⟨h.1, fun M w vs hM hG hds => (h.2 M w vs hM hG hds).mono fun e w' ⟨v, he, hv, hx⟩ => ⟨v, he, hr M w' v hv, hx⟩⟩
/-- What a function is left with: data. -/
def RetOK (T : Nat → Option TI) (rs : List ResultVar) (r : D) (x : Exit) (e : Env) (h : List Chunk) : Prop := (x = .normal ∨ x = .ret) ∧ ∃ ps d, retPL T e h rs = some ps ∧ vw (hatL h) (retP ps) = some d ∧ DLe d r
/-- What a function is left with: a value, and chunks. -/
def RetM (P : Program) (m : Nat) (T : Nat → Option TI) (rs : List ResultVar) (r : PV) (h1 : List Chunk) (x : Exit) (e : Env) (h : List Chunk) : Prop := (x = .normal ∨ x = .ret) ∧ ∃ ps, retPL T e h rs = some ps ∧ Weak P 1 m [(0, retP ps)] h [(0, r)] h1
def resSem (tmps : Array Value) : ResultVar → Sem Value
  | .tmp t => pure (tmps.getD t undef)
  | .cell a t => do loadVar t (← asAddr (tmps.getD a undef))
theorem results_run {P : Program} {tmps : Array Value} {w : World} : ∀ (rs : List ResultVar) (vs : List Value), rs.length = vs.length →
    (∀ (j : Nat) (r : ResultVar) (v : Value), rs[j]? = some r → vs[j]? = some v → (resSem tmps r).run P w = .ok v w) → (rs.mapM (resSem tmps)).run P w = .ok vs w
  | [], [], _, _ => by simp
  | [], _ :: _, h, _ => by simp at h
  | _ :: _, [], h, _ => by simp at h
  | r :: rs, v :: vs, h, hr => by
    have h0 := hr 0 r v rfl rfl
    have ih := results_run (P := P) (tmps := tmps) (w := w) rs vs (by simpa using h) fun j r v h1 h2 => hr (j + 1) r v (by simpa using h1) (by simpa using h2)
    rw [List.mapM_cons, Sem.run_bind, h0]
    simp only [Result.andThen_ok, Sem.run_bind, ih]
    rfl
theorem ret_one {X : Cfg} {T : Nat → Option TI} {Q : Nat → Option Nat} (hTQ : TabOK X.P T Q) {e : Env} {h : List Chunk} {a : Act} {w : World} {c : Cx} (hc : RealC X (mkF e h) a w c) (rv : ResultVar) (p : PV) (hrv : retPV T e h rv = some p) :
    ∃ v, (resSem a.tmps rv).run X.P w = .ok v w ∧ RepP c w p v := by
  cases rv with
  | tmp t => cases hrv; exact ⟨_, rfl, hc.env t⟩
  | cell b t =>
    simp only [retPV] at hrv
    split at hrv
    · rename_i k off ti hb' ht
      split at hrv
      · rename_i TT cells hk
        split at hrv
        · rename_i hsz
          have hck := hc.chunk k
          have hk' : (mkF e h).heap k = .box TT cells := hk
          rw [hk'] at hck
          have henv := hc.env b
          have hb2 : (mkF e h).env b = .ptr k off := hb'
          rw [hb2] at henv
          generalize hu : a.tmps.getD b undef = u at henv
          cases henv with
          | ptr _ _ bb hbb =>
            cases hck with
            | box _ _ b'' us hb'' hh hrr h1 =>
              rw [hbb] at hb''
              cases hb''
              have hul : us.length = cells.length := hrr.1.symm
              have hlen : ((us.drop off).take ti.size).length = ti.size := by rw [List.length_take, List.length_drop]; omega
              have hcell : ∀ (j : Nat) (v : Value), ((us.drop off).take ti.size)[j]? = some v → w.cell? ⟨bb, off + j, none⟩ = some v := fun j v hj => by
                simp [World.cell?, hh, (take_drop_at hj).2]
              have hload : ∀ (h0 : ti.agg = false → ∃ v, (us.drop off).take ti.size = [v]), (loadVar t ⟨bb, off, none⟩).run X.P w = .ok (if ti.agg then .agg ((us.drop off).take ti.size).toArray else ((us.drop off).take ti.size).headD undef) w := by
                intro h0
                have := run_loadAt (hTQ.t t ti ht) w bb off ((us.drop off).take ti.size) hlen hcell h0
                simpa [Instr.loadAt, Instr.sureAddr] using this
              cases hag : ti.agg with
              | true =>
                rw [hag, if_pos rfl] at hrv
                cases hrv
                have hl := hload (fun h => by rw [hag] at h; cases h)
                rw [hag, if_pos rfl] at hl
                exact ⟨_, by simp [resSem, hu, asAddr, hl], rep_aggP (hrr.part off ti.size) (fun d hd => h1 d (List.mem_of_mem_drop (List.mem_of_mem_take hd)))⟩
              | false =>
                rw [hag, if_neg (by simp)] at hrv
                split at hrv
                · rename_i q l hdr
                  split at hrv
                  · rename_i h1'
                    cases hrv
                    have hp := drop_cons hdr
                    obtain ⟨v, hv⟩ : ∃ v, us[off]? = some v := ⟨us[off]'(by omega), List.getElem?_eq_getElem _⟩
                    have hone : (us.drop off).take ti.size = [v] := by
                      rw [h1', List.drop_eq_getElem_cons (by omega)]
                      simp only [List.take_succ_cons, List.take_zero]
                      rw [List.getElem?_eq_getElem (by omega)] at hv
                      simpa using hv
                    have hl := hload (fun _ => ⟨v, hone⟩)
                    rw [hag, if_neg (by simp), hone] at hl
                    exact ⟨v, by simp [resSem, hu, asAddr, hl], hrr.2 off p v hp hv⟩
                  · cases hrv
                · cases hrv
        · cases hrv
      · cases hrv
    · cases hrv
theorem ret_all {X : Cfg} {T : Nat → Option TI} {Q : Nat → Option Nat} (hTQ : TabOK X.P T Q) {e : Env} {h : List Chunk} {a : Act} {w : World} {c : Cx} (hc : RealC X (mkF e h) a w c) {fn : Func} {ps : List PV} (hret : retPL T e h fn.results.toList = some ps) :
    ∃ v, (results fn a.tmps).run X.P w = .ok v w ∧ RepP c w (retP ps) v := by
  have hlist : ∀ (rs : List ResultVar) (ps : List PV), retPL T e h rs = some ps → ∃ vs : List Value, rs.length = vs.length ∧ RepPs c w ps vs ∧
      (∀ (j : Nat) (r : ResultVar) (v : Value), rs[j]? = some r → vs[j]? = some v → (resSem a.tmps r).run X.P w = .ok v w) := by
    intro rs
    induction rs with
    | nil =>
      intro ds hds
      simp [retPL] at hds
      subst hds
      exact ⟨[], rfl, ⟨rfl, fun j d x h => by simp at h⟩, fun j r v h => by simp at h⟩
    | cons rv rs ih =>
      intro ds hds
      simp only [retPL] at hds
      split at hds
      · rename_i d ds' h1 h2
        cases hds
        obtain ⟨v, hv1, hv2⟩ := ret_one hTQ hc rv d h1
        obtain ⟨vs, g1, g2, g3⟩ := ih ds' h2
        refine ⟨v :: vs, by simp [g1], ⟨by simp [g2.1], fun j d x hj hx => ?_⟩, fun j r x hj hx => ?_⟩
        · cases j with
          | zero => simp at hj hx; subst hj; subst hx; exact hv2
          | succ j => exact g2.2 j d x (by simpa using hj) (by simpa using hx)
        · cases j with
          | zero => simp at hj hx; subst hj; subst hx; exact hv1
          | succ j => exact g3 j r x (by simpa using hj) (by simpa using hx)
      · cases hds
  obtain ⟨vs, g1, g2, g3⟩ := hlist _ _ hret
  have hrun := results_run (P := X.P) (tmps := a.tmps) (w := w) fn.results.toList vs g1 g3
  have hres : (results fn a.tmps).run X.P w = .ok (if h : vs.length = 1 then vs[0] else .tuple vs.toArray) w := by
    have e1 : results fn a.tmps = (do let vs ← fn.results.mapM (resSem a.tmps); pure (if h : vs.size = 1 then vs[0] else .tuple vs)) := by
      unfold results
      congr 1
    rw [e1, Sem.run_bind, Array.mapM_eq_mapM_toList]
    simp [hrun]
  refine ⟨_, hres, ?_⟩
  by_cases h1 : vs.length = 1
  · rw [dif_pos h1]
    obtain ⟨d, rfl⟩ := List.length_eq_one_iff.1 (g2.1.trans h1)
    exact g2.2 0 d _ rfl (List.getElem?_eq_getElem (by omega))
  · rw [dif_neg h1]
    have : retP ps = tupP ps := by
      unfold retP
      split
      · exact absurd g2.1.symm h1
      · rfl
    rw [this]
    exact rep_tupP g2
theorem args_env {c : Cx} {w : World} {ps : List PV} {vs : List Value} {n : Nat} (hds : RepPs c w ps vs) (t : Nat) : RepP c w (look (argP ps 0) t) ((vs.toArray ++ Array.replicate (n - vs.toArray.size) undef).getD t undef) := by
  rw [look_argP]
  rw [if_pos (Nat.zero_le _), Nat.sub_zero]
  cases hd : ps[t]? with
  | none => exact .any _
  | some d =>
    have hlt : t < vs.length := by rw [← hds.1]; exact (List.getElem?_eq_some_iff.1 hd).1
    have hv : vs[t]? = some vs[t] := List.getElem?_eq_getElem hlt
    have := hds.2 t d _ hd hv
    simp only [Array.getD_eq_getD_getElem?, Array.getElem?_append, List.size_toArray, hlt, if_true, List.getElem?_toArray, hv, Option.getD_some]
    exact this
theorem pspec_intro {P : Program} {f : Nat} {fn : Func} {c : Code} {T : Nat → Option TI} {Q : Nat → Option Nat} (hTQ : TabOK P T Q) (hf : P.funcs[f]? = some fn) (hb : fn.body = some c) (hn : FnOK P f) {ds : List D} {r : D} (hl : ds.length ≤ fn.ntmps)
    (hp : swp P fn.ntmps 0 c (RetOK T fn.results.toList r) (argP (ds.map .d) 0) []) : PSpec P f ds r := by
  refine ⟨hn, fun M w vs hM hG hds => ?_⟩
  have hvl : vs.length = ds.length := hds.1.symm
  let c0 : Cx := { M := M, bl := fun _ => none, ov := fun _ _ => none }
  let X : Cfg := { P := P, n := fn.ntmps, m := 0, w0 := w, M0 := M, L := fun _ => False, c0 := c0 }
  have hreal : Real X (mkF (argP (ds.map .d) 0) []) { tmps := vs.toArray ++ Array.replicate (fn.ntmps - vs.toArray.size) undef, defers := [] } w := by
    refine ⟨c0, by simp [X]; omega, rfl, ExtL.refl _ _, hG.keep ⟨Nat.le_refl _, fun _ _ _ => rfl, fun b _ h => h.elim id False.elim⟩, fun b hb => ⟨hM b hb, id⟩, fun b => ⟨.inl, fun h => ?_⟩, fun k b h => ?_, fun k k' b h _ => ?_, fun t => args_env (repPs_d (c := c0) hds) t, fun k => ?_, fun k hk => absurd hk (Nat.not_lt_zero _)⟩
    · rcases h with h | ⟨k, h⟩
      · exact h
      · simp [mkF, hatL, Cx.block] at h
    · simp [mkF, hatL, Cx.block] at h
    · simp [mkF, hatL, Cx.block] at h
    · simp only [mkF, hatL]
      exact .none rfl fun _ => rfl
  refine calls_of_wp hf hb (wp_mono (hp X rfl rfl rfl _ _ hreal) fun ex a w' hq => ?_)
  obtain ⟨e, h, ⟨hx, ps, d, hret, hv, hle⟩, hr⟩ := hq
  obtain ⟨cx, hc⟩ := hr
  obtain ⟨v, hrun, hrep⟩ := ret_all hTQ hc hret
  have hd := viewF_ok hc (T := tc (hatL h) (retP ps)) 6 hv (fun _ h => h) hrep
  have hd2 : RepD M w' d v := by
    refine hd.keep ⟨Nat.le_refl _, fun _ _ _ => rfl, fun b _ hb => ⟨(hc.mu b).2 (.inl hb), fun k _ e => ?_⟩⟩
    rcases (hc.new k b e).1 with h1 | h1
    · exact h1
    · have := (hc.fresh b hb).1
      omega
  rcases hx with rfl | rfl
  · exact ⟨hc.defers, v, hrun, v, rfl, hle _ _ _ hd2, hc.ext.ext⟩
  · exact ⟨hc.defers, v, hrun, v, rfl, hle _ _ _ hd2, hc.ext.ext⟩
end Go.Proofs.YtmkdihmmihpibaaDoor
namespace Go.Proofs.YtmkdihmmihpibaaDoor
open Go Go.RowKit
def qPost (W : World) (R : Value → Prop) (e : Ending) (w' : World) : Prop := (∃ u, e = .returned u ∧ R u) ∧ Ext W w'
def qUp (P : Program) (W w : World) (R : Value → Prop) : Result Next → Prop
  | .ok (.value u) w' => w' = w ∧ R u
  | .ok .skip w' => w' = w ∧ R undef
  | .ok (.enter f args) w' => w' = w ∧ Calls P f args w (qPost W R)
  | _ => False
attribute [go_sem] qUp
section
variable {P : Program} {ops : Array Oper} {W : World} {Q : Act → Prop} {o : Oper} {rest : List Oper} {a : Act}
theorem qUp_quiet {w : World} {v : Value} {r : Result Next} (h : ∀ R : Value → Prop, R v → qUp P W w R r) : Oper.quietUpon P (Ext W) w v r := by
  have h1 := h (· = v) rfl
  unfold qUp at h1
  unfold Oper.quietUpon
  split at h1
  · exact h1
  · exact ⟨h1.1, h1.2.symm⟩
  · refine ⟨h1.1, h1.2.mono ?_⟩
    rintro e w' ⟨⟨u, rfl, rfl⟩, hw⟩
    exact ⟨rfl, hw⟩
  · exact h1.elim
theorem quiet_take {v : Value} (hw : Region.wanted o (yielded ops a.tmps) = true) (h : ∀ w, Ext W w → ∀ R : Value → Prop, R v → qUp P W w R ((execOp a.eval o).run P w))
    (hn : wpQuiet P ops (Ext W) Q rest (a.put o.dst v)) : wpQuiet P ops (Ext W) Q (o :: rest) a := by
  unfold wpQuiet
  rw [if_pos hw]
  exact ⟨v, fun w hC => qUp_quiet (h w hC), hn⟩
theorem quiet_skip (hw : Region.wanted o (yielded ops a.tmps) = false) (hn : wpQuiet P ops (Ext W) Q rest (a.put o.dst undef)) : wpQuiet P ops (Ext W) Q (o :: rest) a := by
  unfold wpQuiet
  rw [if_neg (by rw [hw]; simp)]
  exact hn
section
variable {j d : Nat} {v : Value} {W : World} {Q : Act → Prop}
theorem yields_bool {b : Bool} (hd : (ops[j]?).bind (·.dst) = some d) (hv : a.tmps.toList[d]? = some v) (hb : v = .bool b) : yielded ops a.tmps j = some b := by
  subst hb
  rw [Array.getElem?_toList] at hv
  simp [yielded, hd, hv]
theorem yields_undef (hd : (ops[j]?).bind (·.dst) = some d) (hv : a.tmps.toList[d]? = some v) (hb : v = undef) : yielded ops a.tmps j = none := by
  subst hb
  rw [Array.getElem?_toList] at hv
  simp [yielded, hd, hv, undef]
theorem skip_t (hg : o.guard = some (j, true)) (hd : (ops[j]?).bind (·.dst) = some d) (hv : a.tmps.toList[d]? = some v) (hb : v = .bool false) (hn : wpQuiet P ops (Ext W) Q rest (a.put o.dst undef)) : wpQuiet P ops (Ext W) Q (o :: rest) a :=
  quiet_skip (by simp [Region.wanted, hg, yields_bool hd hv hb]) hn
theorem skip_f (hg : o.guard = some (j, false)) (hd : (ops[j]?).bind (·.dst) = some d) (hv : a.tmps.toList[d]? = some v) (hb : v = .bool true) (hn : wpQuiet P ops (Ext W) Q rest (a.put o.dst undef)) : wpQuiet P ops (Ext W) Q (o :: rest) a :=
  quiet_skip (by simp [Region.wanted, hg, yields_bool hd hv hb]) hn
theorem skip_u {b : Bool} (hg : o.guard = some (j, b)) (hd : (ops[j]?).bind (·.dst) = some d) (hv : a.tmps.toList[d]? = some v) (hb : v = undef) (hn : wpQuiet P ops (Ext W) Q rest (a.put o.dst undef)) : wpQuiet P ops (Ext W) Q (o :: rest) a :=
  quiet_skip (by simp [Region.wanted, hg, yields_undef hd hv hb]) hn
theorem want_0 (hg : o.guard = none) : Region.wanted o (yielded ops a.tmps) = true := by simp [Region.wanted, hg]
theorem want_b {b : Bool} (hg : o.guard = some (j, b)) (hd : (ops[j]?).bind (·.dst) = some d) (hv : a.tmps.toList[d]? = some v) (hb : v = .bool b) : Region.wanted o (yielded ops a.tmps) = true := by
  simp [Region.wanted, hg, yields_bool hd hv hb]
end
theorem callq_same {f : FuncId} {args : Array Value} {w : World} {R : Value → Prop} {v : Value} (hw : Ext W w) (h : Calls P f args w fun e w' => e = .returned v ∧ w = w') (hR : R v) : Calls P f args w (qPost W R) :=
  h.mono fun _ _ ⟨he, hx⟩ => ⟨⟨v, he, hR⟩, hx ▸ hw⟩
theorem region_ext {id : Nat} {Q : Exit → Act → World → Prop} {w : World} {l : List Oper} (hm : P.follows .mixedOrders = true) (hB : Region.lexB .any l.toArray = true)
    (h : wpQuiet P l.toArray (Ext w) (fun a' => ∀ w', Ext w w' → Q .normal a' w') l a) : (Code.region id l.toArray true).wp P Q a w :=
  wp_region_quiet (C := Ext w) hm hB (Below.refl _ _).drew (by simpa using h)
end
section
variable {P : Program} {ops : Array Oper} {w : World} {Q : Exit → Act → World → Prop} {a : Act} {n : Nat} {listed : Array Bool}
end
theorem ret_int {k : IntKind} {a b : Int} (h : a = b) : Ending.returned (.int k a) = .returned (.int k b) := by rw [h]
theorem ret_bool {a b : Bool} (h : a = b) : Ending.returned (.bool a) = .returned (.bool b) := by rw [h]
end Go.Proofs.YtmkdihmmihpibaaDoor
namespace Go.Proofs.YtmkdihmmihpibaaDoor
open Go Go.RowKit Go.Proofs
theorem ofInt_i64 (a : Nat) (ha : a < 9223372036854775808) : (BitVec.ofInt 64 (a : Int)).toNat = a := by
  rw [BitVec.ofInt_natCast, BitVec.toNat_ofNat]; exact Nat.mod_eq_of_lt (by omega)
theorem i64_and_nat (a b : Nat) (ha : a < 9223372036854775808) (hb : b < 9223372036854775808) : bits .and .i64 (a : Int) (b : Int) = ((a &&& b : Nat) : Int) := by
  have hx : a &&& b < 2 ^ 63 := Nat.and_lt_two_pow _ (by omega)
  show IntKind.i64.wrap ((BitVec.ofInt 64 (a : Int) &&& BitVec.ofInt 64 (b : Int)).toNat : Int) = _
  rw [BitVec.toNat_and, ofInt_i64 a ha, ofInt_i64 b hb, IntKind.wrap_i64]
  omega
end Go.Proofs.YtmkdihmmihpibaaDoor
namespace Go.Proofs.YtmkdihmmihpibaaDoor
open Go Go.RowKit
def tabT : Nat → Option TI
  | 3 => some { agg := false, size := 1, bytes := 8, zero := [.int .i64 0], fields := [], elem := none, int := some .i64, kind := 0, mp := none }
  | 4 => some { agg := false, size := 1, bytes := 1, zero := [.bool false], fields := [], elem := none, int := none, kind := 1, mp := none }
  | 24 => some { agg := false, size := 1, bytes := 8, zero := [.int .i64 0], fields := [], elem := none, int := some .i64, kind := 0, mp := none }
  | 23 => some { agg := true, size := 2, bytes := 16, zero := [.int .i64 0, .int .i64 0], fields := [(0, 1), (1, 1)], elem := none, int := none, kind := 0, mp := none }
  | 60 => some { agg := false, size := 1, bytes := 24, zero := [.slice none 0 0], fields := [], elem := some 23, int := none, kind := 0, mp := none }
  | 5 => some { agg := false, size := 1, bytes := 1, zero := [.int .u8 0], fields := [], elem := none, int := some .u8, kind := 0, mp := none }
  | 9 => some { agg := false, size := 1, bytes := 16, zero := [.string ByteArray.empty], fields := [], elem := none, int := none, kind := 2, mp := none }
  | 21 => some { agg := false, size := 1, bytes := 4, zero := [.int .i32 0], fields := [], elem := none, int := some .i32, kind := 0, mp := none }
  | 49 => some { agg := false, size := 1, bytes := 8, zero := [.int .u64 0], fields := [], elem := none, int := some .u64, kind := 0, mp := none }
  | 52 => some { agg := true, size := 3, bytes := 24, zero := [.int .i64 0, .int .i64 0, .int .i64 0], fields := [], elem := none, int := none, kind := 0, mp := none, arr := some (3, 3) }
  | 53 => some { agg := true, size := 3, bytes := 48, zero := [.string ByteArray.empty, .string ByteArray.empty, .string ByteArray.empty], fields := [], elem := none, int := none, kind := 0, mp := none, arr := some (3, 9) }
  | 55 => some { agg := false, size := 1, bytes := 16, zero := [.nilIface], fields := [], elem := none, int := none, kind := 5, mp := none }
  | 61 => some { agg := false, size := 1, bytes := 24, zero := [.slice none 0 0], fields := [], elem := some 5, int := none, kind := 0, mp := none }
  | 72 => some { agg := false, size := 1, bytes := 8, zero := [.int .u64 0], fields := [], elem := none, int := some .u64, kind := 0, mp := none }
  | 86 => some { agg := false, size := 1, bytes := 4, zero := [.int .u32 0], fields := [], elem := none, int := some .u32, kind := 0, mp := none }
  | _ => none
theorem tabT_ok : ∀ t ti, tabT t = some ti → tcheck Tryd.prog t = some ti := by
  intro t ti h
  unfold tabT at h
  split at h <;> first | (cases h; kernel_rfl) | cases h
theorem eq_Prefix : EqOK Tryd.prog 23 2 := by
  intro w xs ys x y op hx hy hop
  match xs, ys, hx, hy with
  | [a0, a1], [b0, b1], _, _ =>
    clear hx hy
    rcases hop with rfl | rfl <;> (simp only [List.map_cons, List.map_nil]; go_simp) <;> by_cases h0 : a0 = b0 <;> by_cases h1 : a1 = b1 <;> simp [bne, h0, h1]
def tabQ : Nat → Option Nat
  | 23 => some 2
  | _ => none
theorem tabM_ok : ∀ t ti n s, tabT t = some ti → ti.mp = some (n, s) → MapOK Tryd.prog t n s := by
  intro t ti n s h hm
  unfold tabT at h
  split at h
  · cases h; cases hm
  · cases h; cases hm
  · cases h; cases hm
  · cases h; cases hm
  · cases h; cases hm
  · cases h; cases hm
  · cases h; cases hm
  · cases h; cases hm
  · cases h; cases hm
  · cases h; cases hm
  · cases h; cases hm
  · cases h; cases hm
  · cases h; cases hm
  · cases h; cases hm
  · cases h; cases hm
  · cases h
theorem tab_ok : TabOK Tryd.prog tabT tabQ := by
  refine ⟨tabT_ok, fun t n h => ?_, tabM_ok⟩
  unfold tabQ at h
  split at h
  · cases h; exact eq_Prefix
  · cases h
end Go.Proofs.YtmkdihmmihpibaaDoor
namespace Go.Proofs.YtmkdihmmihpibaaDoor
open Go Go.RowKit
theorem fnok_of {P : Program} {f : Nat} {fn : Func} {c : Code} (hf : P.funcs[f]? = some fn) (hname : (fn.name == "runtime.NumGoroutine") = false) (hb : fn.body = some c) : FnOK P f := by
  intro args w
  simp [callFunc, hf, hb]
  simpa using hname
theorem ob_tt : (some true == some true) = true := rfl
theorem ob_ff : (some false == some false) = true := rfl
theorem ob_tf : (some true == some false) = false := rfl
theorem ob_ft : (some false == some true) = false := rfl
theorem ob_nt : ((none : Option Bool) == some true) = false := rfl
theorem ob_nf : ((none : Option Bool) == some false) = false := rfl
section
variable {P : Program} {n m : Nat} {T : Nat → Option TI} {Q : Nat → Option Nat} {K : Exit → Env → List Chunk → Prop} {e : Env} {h : List Chunk}
/-- What follows a normal end; all else is handed on. -/
def seqK (C : Env → List Chunk → Prop) (K : Exit → Env → List Chunk → Prop) : Exit → Env → List Chunk → Prop
  | .normal, e, h => C e h
  | x, e, h => K x e h
theorem pwp_seq {a b : Code} (hp : ∀ C : Env → List Chunk → Prop, (∀ e h, swp P n m b K e h → C e h) → swp P n m a (seqK C K) e h) : swp P n m (.seq a b) K e h := by
  intro X hX hn hXm ac w hr
  have := hp (fun e h => swp P n m b K e h) (fun _ _ h => h) X hX hn hXm ac w hr
  refine wp_seq (wp_mono this fun ex a' w' hq => ?_)
  obtain ⟨e', h', hk, hr'⟩ := hq
  cases ex with
  | normal => exact hk X hX hn hXm a' w' hr'
  | _ => exact ⟨e', h', hk, hr'⟩
/-- A block's end. -/
def blkK (id : Nat) (C : Env → List Chunk → Prop) (K : Exit → Env → List Chunk → Prop) : Exit → Env → List Chunk → Prop
  | .normal, e, h => C e h
  | .exit i, e, h => if i = id then C e h else K (.exit i) e h
  | x, e, h => K x e h
theorem pwp_block {id : Nat} {c : Code} (hp : ∀ C : Env → List Chunk → Prop, (∀ e h, K .normal e h → C e h) → swp P n m c (blkK id C K) e h) : swp P n m (.block id c) K e h := by
  intro X hX hn hXm ac w hr
  have := hp (fun e h => K .normal e h) (fun _ _ h => h) X hX hn hXm ac w hr
  refine wp_block (wp_mono this fun ex a' w' hq => ?_)
  obtain ⟨e', h', hk, hr'⟩ := hq
  cases ex with
  | exit i =>
    simp only [Exit.inBlock, blkK] at *
    by_cases hi : i = id
    · rw [if_pos hi] at hk ⊢
      exact ⟨e', h', hk, hr'⟩
    · rw [if_neg hi] at hk ⊢
      exact ⟨e', h', hk, hr'⟩
  | _ => exact ⟨e', h', hk, hr'⟩
def grdO (P : Program) (g : Option Bool) (r : SR) (dst : Option Nat) (e : Env) (h : List Chunk) (sm : List (List Nat × List Nat)) (R : Env → List Chunk → List (List Nat × List Nat) → Prop) : Prop :=
  match g with
  | some true => runO P r dst e h sm R
  | some false => R (putE e dst (.d (.v undef))) h (([], []) :: sm)
  | none => False
section
variable {sm : List (List Nat × List Nat)} {dst : Option Nat} {R : Env → List Chunk → List (List Nat × List Nat) → Prop}
/-- A call, by data. -/
theorem runO_P {g : Nat} {ps : List PV} {ds : List D} {r : D} (hv : vwL (hatL h) ps = some ds) (hp : PSpec P g ds r) (hf : tcL (hatL h) ps = [] ∨ r.flat = true) (hR : R (putE e dst (.d r)) h (([], tcL (hatL h) ps) :: sm)) : runO P (.call g ps) dst e h sm R :=
  .inl ⟨ds, r, hv, hp, hf, hR⟩
end
theorem sOps_cons {draw : Bool} {ops : Array Oper} {ds : List (Option Nat)} {o : Oper} {l : List Oper} {sm : List (List Nat × List Nat)} {K : Env → List Chunk → Prop} (hd : dstB n o = true)
    (hp : ∀ R : Env → List Chunk → List (List Nat × List Nat) → Prop, (∀ e h sm, sOps P n T Q draw ops ds l e h sm K → R e h sm) → grdO P (guardD ds e o) (opS T Q e h o) o.dst e h sm R) : sOps P n T Q draw ops ds (o :: l) e h sm K := by
  have hp := hp (sOps P n T Q draw ops ds l · · · K) fun _ _ _ h => h
  unfold sOps
  unfold grdO at hp
  split at hp
  · rename_i g hg
    rw [hg]
    exact ⟨hd, fun _ => hp, fun h => by cases h⟩
  · rename_i g hg
    rw [hg]
    exact ⟨hd, (fun h => (by cases h)), fun _ => hp⟩
  · exact hp.elim
theorem pwp_cond {c : Operand} {a b : Code} {t : Bool} (hc : evL e c = .d (.v (.bool t))) (h1 : t = true → swp P n m a K e h) (h2 : t = false → swp P n m b K e h) : swp P n m (.cond c a b) K e h := by
  intro X hX hn hXm ac w hr
  have hv : ac.eval c = .bool t := by
    obtain ⟨cx, hcx⟩ := hr
    exact ev_v' hcx ((ev_mk e h c).trans hc)
  refine wp_cond hv ?_
  cases t with
  | true => exact h1 rfl X hX hn hXm ac w hr
  | false => exact h2 rfl X hX hn hXm ac w hr
theorem pwp_skip (h1 : K .normal e h) : swp P n m .skip K e h := fun X _ _ _ a w hr => wp_skip ⟨e, h, h1, hr⟩
theorem pwp_exit {id : Nat} (h1 : K (.exit id) e h) : swp P n m (.exit id) K e h := fun X _ _ _ a w hr => wp_exit ⟨e, h, h1, hr⟩
theorem pwp_ret (h1 : K .ret e h) : swp P n m .ret K e h := fun X _ _ _ a w hr => wp_ret ⟨e, h, h1, hr⟩
theorem pwp_label {l : Nat} (h1 : K .normal e h) : swp P n m (.label l) K e h := fun X _ _ _ a w hr => wp_label ⟨e, h, h1, hr⟩
/-- A loop, by what holds at each round's head; the number goes down. -/
theorem pwp_loop {c : Code} (I : Nat → Env → List Chunk → Prop) (mm : Nat) (e1 : Env) (h1 : List Chunk) (h0 : I mm e1 h1) (hw : Weak P n m e h e1 h1)
    (hr : ∀ k e h, I k e h → ∀ C : Env → List Chunk → Prop, (∀ k' e1 h1 e h, k' < k → I k' e1 h1 → Weak P n m e h e1 h1 → C e h) → swp P n m c (seqK C K) e h) : swp P n m (.loop c) K e h := by
  intro X hX hn hXm a w hreal
  refine wp_loop_ghost (fun k a w => ∃ e h, I k e h ∧ Real X (mkF e h) a w) mm ⟨e1, h1, h0, hw X hX hn hXm a w hreal⟩ ?_
  rintro k a w ⟨e, h, hI, hreal⟩
  have := hr k e h hI (fun e' h' => ∃ k' e1 h1, k' < k ∧ I k' e1 h1 ∧ Weak P n m e' h' e1 h1) (fun k' e1 h1 e h a b c => ⟨k', e1, h1, a, b, c⟩) X hX hn hXm a w hreal
  refine wp_mono this fun ex a' w' hq => ?_
  obtain ⟨e', h', hk, hr'⟩ := hq
  cases ex with
  | normal =>
    obtain ⟨k', e2, h2, hlt, hI2, hw2⟩ := hk
    exact ⟨k', hlt, e2, h2, hI2, hw2 X hX hn hXm a' w' hr'⟩
  | _ => exact ⟨e', h', hk, hr'⟩
end
theorem mixed : Tryd.prog.follows .mixedOrders = true := by kernel_rfl
theorem Weak.refl (P : Program) (n m : Nat) (e : Env) (h : List Chunk) : Weak P n m e h e h := fun _ _ _ _ _ _ h => h
theorem dRows_get (l : List (List D)) (i : Nat) : (dRows l)[i]? = (l[i]?).map (·.map .d) := by simp [dRows]
theorem dRows_len (l : List (List D)) : (dRows l).length = l.length := by simp [dRows]
theorem dRows_app (a b : List (List D)) : dRows a ++ dRows b = dRows (a ++ b) := by simp [dRows]
end Go.Proofs.YtmkdihmmihpibaaDoor
namespace Go.Proofs.YtmkdihmmihpibaaDoor
open Go Go.RowKit
def Cx.cut (c : Cx) (n : Nat) : Cx := { M := c.M, bl := fun k => if k < n then c.bl k else none, ov := fun k g => if k < n then c.ov k g else none }
theorem RepP.cut {c : Cx} {w : World} {n : Nat} {p : PV} {v : Value} (h : RepP c w p v) : belowP n p = true → RepP (c.cut n) w p v := by
  induction h with
  | d x v h => intro _; exact .d x v h
  | any v => intro _; exact .any v
  | ptr k off b h => intro hb; simp only [belowP, decide_eq_true_eq] at hb; exact .ptr k off b (by show (if k < n then c.bl k else none) = _; rw [if_pos hb]; exact h)
  | own k g v h h1 => intro hb; simp only [belowP, decide_eq_true_eq] at hb; exact .own k g v (by show (if k < n then c.ov k g else none) = _; rw [if_pos hb]; exact h) h1
  | rp k g sz i j b m cap h => intro hb; simp only [belowP, decide_eq_true_eq] at hb; exact .rp k g sz i j b m cap (by show (if k < n then c.ov k g else none) = _; rw [if_pos hb]; exact h)
  | osl k g sz a m b o N cap h hn hc h2 => intro hb; simp only [belowP, decide_eq_true_eq] at hb; exact .osl k g sz a m b o N cap (by show (if k < n then c.ov k g else none) = _; rw [if_pos hb]; exact h) hn hc h2
  | mref k b h => intro hb; simp only [belowP, decide_eq_true_eq] at hb; exact .mref k b (by show (if k < n then c.bl k else none) = _; rw [if_pos hb]; exact h)
  | agg caps vs hl h1 hrep ih =>
    intro hb
    simp only [belowP] at hb
    exact .agg caps vs hl h1 fun j d x hj hx => ih j d x hj hx (belowL_mem hb d (List.mem_of_getElem? hj))
  | tup caps vs hl hrep ih =>
    intro hb
    simp only [belowP] at hb
    exact .tup caps vs hl fun j d x hj hx => ih j d x hj hx (belowL_mem hb d (List.mem_of_getElem? hj))
  | clo g caps vs hl hrep ih =>
    intro hb
    simp only [belowP] at hb
    exact .clo g caps vs hl fun j d x hj hx => ih j d x hj hx (belowL_mem hb d (List.mem_of_getElem? hj))
theorem look_sub : ∀ {e e' : Env}, subE e e' → ∀ t, look e' t = .any ∨ look e' t = look e t
  | _, [], _, _ => .inl rfl
  | e, (t', p) :: l, ⟨h1, h2⟩, t => by
    simp only [look]
    by_cases ht : t = t'
    · rw [if_pos ht, ht]; exact .inr h1.symm
    · rw [if_neg ht]; exact look_sub h2 t
theorem hat_app : ∀ (h x : List Chunk) (k : Nat), k < h.length → hatL (h ++ x) k = hatL h k
  | c :: l, x, 0, _ => rfl
  | c :: l, x, k + 1, hk => by simpa [hatL] using hat_app l x k (by simpa using hk)
theorem hat_far : ∀ (h : List Chunk) (k : Nat), h.length ≤ k → hatL h k = .none
  | [], _, _ => rfl
  | c :: l, 0, h => by simp at h
  | c :: l, k + 1, h => by simpa [hatL] using hat_far l k (by simpa using h)
/-- Forget slots and the last chunks. -/
theorem weak_forget {P : Program} {n m : Nat} {e e' : Env} {h h' : List Chunk} (x : List Chunk) (hm : m ≤ h'.length) (hh : h = h' ++ x) (he : subE e e') (hb : belowE h'.length e' = true) (hbh : belowH h'.length h' = true) : Weak P n m e h e' h' := by
  intro X _ _ hXm a w hr
  obtain ⟨c, hc⟩ := hr
  subst hh
  have hf := hc.freeze ((List.range x.length).map (h'.length + ·))
  have hmem : ∀ k, k ∈ (List.range x.length).map (h'.length + ·) ↔ h'.length ≤ k ∧ k < h'.length + x.length := by
    intro k
    simp only [List.mem_map, List.mem_range]
    constructor
    · rintro ⟨j, hj, rfl⟩; omega
    · intro hk; exact ⟨k - h'.length, by omega, by omega⟩
  have hlow : ∀ k, k < h'.length → effH (((List.range x.length).map (h'.length + ·)).map fun k => (k, .gone)) (hatL (h' ++ x)) k = hatL h' k := by
    intro k hk
    rw [effH_gone, if_neg (fun h => by have := (hmem k).1 h; omega), hat_app h' x k hk]
  have hhigh : ∀ k, h'.length ≤ k → ∀ c : Cx, c.block k (effH (((List.range x.length).map (h'.length + ·)).map fun k => (k, .gone)) (hatL (h' ++ x)) k) = none := by
    intro k hk c
    rw [effH_gone]
    split
    · rfl
    · rename_i hn
      have : h'.length + x.length ≤ k := by
        rcases Nat.lt_or_ge k (h'.length + x.length) with h1 | h1
        · exact absurd ((hmem k).2 ⟨hk, h1⟩) hn
        · exact h1
      rw [hat_far _ k (by simpa using this)]
      rfl
  generalize hcc : ({ c with M := lessM c (mkF e (h' ++ x)).heap ((List.range x.length).map (h'.length + ·)) } : Cx) = cc at hf
  have hblk : ∀ k, (cc.cut h'.length).block k (hatL h' k) = if k < h'.length then cc.block k (hatL h' k) else none := by
    intro k
    by_cases hk : k < h'.length
    · rw [if_pos hk]
      cases hatL h' k <;> simp [Cx.block, Cx.cut, hk]
    · rw [if_neg hk, hat_far h' k (by omega)]
      rfl
  have hold : ∀ k b, (cc.cut h'.length).block k (hatL h' k) = some b → cc.block k (effH (((List.range x.length).map (h'.length + ·)).map fun k => (k, .gone)) (hatL (h' ++ x)) k) = some b := by
    intro k b hb
    rw [hblk] at hb
    split at hb
    · rename_i hk; rw [hlow k hk]; exact hb
    · cases hb
  refine ⟨cc.cut h'.length, hf.size, hf.defers, hf.ext, hf.inv, hf.fresh, fun b => ?_, fun k b hb => hf.new k b (hold k b hb), fun k k' b hb hb' => hf.apart k k' b (hold k b hb) (hold k' b hb'), fun t => ?_, fun k => ?_, fun k hk => ?_⟩
  · show cc.M b ↔ _
    rw [hf.mu b]
    constructor
    · rintro (h0 | ⟨k, hk⟩)
      · exact .inl h0
      · refine .inr ⟨k, ?_⟩
        show (cc.cut h'.length).block k (hatL h' k) = _
        rw [hblk]
        rcases Nat.lt_or_ge k h'.length with h1 | h1
        · rw [if_pos h1]
          have := hlow k h1
          simp only [mkF] at hk
          rw [this] at hk
          exact hk
        · simp only [mkF] at hk
          rw [hhigh k h1] at hk
          cases hk
    · rintro (h0 | ⟨k, hk⟩)
      · exact .inl h0
      · exact .inr ⟨k, hold k b hk⟩
  · show RepP (cc.cut h'.length) w (look e' t) _
    rcases look_sub he t with h0 | h0
    · rw [h0]; exact .any _
    · have h1 := look_below hb t
      rw [h0] at h1 ⊢
      exact (hf.env t).cut h1
  · show ChunkOK (cc.cut h'.length) w k (hatL h' k)
    rcases Nat.lt_or_ge k h'.length with h1 | h1
    · have hck := hf.chunk k
      simp only [mkF] at hck
      rw [hlow k h1] at hck
      have hbc := hat_below hbh k
      have hbl : (cc.cut h'.length).bl k = cc.bl k := by show (if k < h'.length then cc.bl k else none) = _; rw [if_pos h1]
      have hov : ∀ g, (cc.cut h'.length).ov k g = cc.ov k g := fun g => by show (if k < h'.length then cc.ov k g else none) = _; rw [if_pos h1]
      cases hch : hatL h' k with
      | none => rw [hch] at hck; cases hck with | none q1 q2 => exact .none (by rw [hbl]; exact q1) (fun g => by rw [hov]; exact q2 g)
      | gone => exact .gone
      | box T cells =>
        rw [hch] at hck hbc
        cases hck with
        | box _ _ b vs q1 q2 q3 q4 =>
          exact .box T cells b vs (by rw [hbl]; exact q1) q2 ⟨q3.1, fun j d v hj hv => (q3.2 j d v hj hv).cut (belowL_mem (by simpa [belowC] using hbc) d (List.mem_of_getElem? hj))⟩ q4
      | mp nB sB ents =>
        rw [hch] at hck
        cases hck with
        | mp _ _ _ b q1 q2 q3 => exact .mp nB sB ents b (by rw [hbl]; exact q1) q2 q3
      | row E sz g rows =>
        rw [hch] at hck hbc
        cases hck with
        | row _ _ _ _ v xs q1 q2 q3 q4 q5 q6 => exact .row E sz g rows v xs (by rw [hov]; exact q1) q2 ⟨q3.1, fun j d v hj hv => (q3.2 j d v hj hv).cut (belowL_mem (belowR_flat (by simpa [belowC] using hbc)) d (List.mem_of_getElem? hj))⟩ q4 q5 (fun g' hg => by rw [hov]; exact q6 g' hg)
    · rw [hat_far h' k h1]
      refine .none ?_ fun g => ?_
      · show (if k < h'.length then cc.bl k else none) = _; rw [if_neg (by omega)]
      · show (if k < h'.length then cc.ov k g else none) = _; rw [if_neg (by omega)]
  · have hk' : k < h'.length := by omega
    obtain ⟨q1, q2⟩ := hf.lent k hk
    refine ⟨?_, fun g v hv => ?_⟩
    · show (if k < h'.length then cc.bl k else none) = _; rw [if_pos hk']; exact q1
    · show (if k < h'.length then cc.ov k g else none) = _; rw [if_pos hk']; exact q2 g v hv
theorem Weak.trans {P : Program} {n m : Nat} {e e' e'' : Env} {h h' h'' : List Chunk} (h1 : Weak P n m e h e' h') (h2 : Weak P n m e' h' e'' h'') : Weak P n m e h e'' h'' := fun X hX hn hm a w hr => h2 X hX hn hm a w (h1 X hX hn hm a w hr)
end Go.Proofs.YtmkdihmmihpibaaDoor
namespace Go.Proofs.YtmkdihmmihpibaaDoor
open Go Go.RowKit Go.Proofs
set_option maxRecDepth 100000
def msk (n : Int) : Int := 2 ^ (16 - n).toNat - 1
theorem msk_nat (n : Int) : msk n = ((2 ^ (16 - n).toNat - 1 : Nat) : Int) := by
  have := Nat.one_le_two_pow (n := (16 - n).toNat)
  have h4 : ((2 ^ (16 - n).toNat : Nat) : Int) = (2 : Int) ^ (16 - n).toNat := by simp
  unfold msk; omega
theorem pow_bd (n : Int) (h0 : 0 ≤ n) : (2 : Int) ^ (16 - n).toNat ≤ 65536 ∧ 1 ≤ (2 : Int) ^ (16 - n).toNat := by
  have h1 : (16 - n).toNat ≤ 16 := by omega
  have h2 := Nat.pow_le_pow_right (n := 2) (by omega) h1
  have h3 := Nat.one_le_two_pow (n := (16 - n).toNat)
  have h4 : ((2 ^ (16 - n).toNat : Nat) : Int) = (2 : Int) ^ (16 - n).toNat := by simp
  omega
theorem msk_bd (n : Int) (h0 : 0 ≤ n) : 0 ≤ msk n ∧ msk n ≤ 65535 := by
  have := pow_bd n h0
  unfold msk; omega
theorem mask_any (n : Int) (w : World) (h0 : 0 ≤ n) (h1 : n ≤ 16) :
    Calls Tryd.prog 26 #[.int .i64 n] w fun e w' => e = .returned (.int .i64 (msk n)) ∧ w = w' := by
  have hp := pow_bd n h0
  go_enter Tryd.func26, Tryd.ntmps26
  go_wp2
  go_ret
  exact ⟨rfl, rfl⟩
def chk (a l : Int) : Int := if l < 0 ∨ l > 16 ∨ a < 0 ∨ a > 65535 then 3 else if a % 2 ^ (16 - l).toNat = 0 then 0 else 1
theorem and_msk (a l : Int) (h0 : 0 ≤ a) (h1 : a ≤ 65535) (h2 : 0 ≤ l) : bits .and .i64 a (msk l) = a % 2 ^ (16 - l).toNat := by
  obtain ⟨n, rfl⟩ := Int.eq_ofNat_of_zero_le h0
  rw [msk_nat, i64_and_nat _ _ (by omega) (by have := msk_bd l h2; rw [msk_nat] at this; omega), Nat.and_two_pow_sub_one_eq_mod]
  simp
theorem chk_3 {a l : Int} (h : l < 0 ∨ l > 16 ∨ a < 0 ∨ a > 65535) : chk a l = 3 := if_pos h
theorem chk_in {a l : Int} (h1 : 0 ≤ l) (h2 : l ≤ 16) (h3 : 0 ≤ a) (h4 : a ≤ 65535) : chk a l = if a % 2 ^ (16 - l).toNat = 0 then 0 else 1 := if_neg (by omega)
set_option maxHeartbeats 400000 in
theorem check_any (a l : Int) (w : World) :
    Calls Tryd.prog 9 #[.agg #[.int .i64 a, .int .i64 l]] w fun e w' => e = .returned (.int .i64 (chk a l)) ∧ Ext w w' := by
  by_cases hl : l < 0 ∨ l > 16 ∨ a < 0 ∨ a > 65535
  · have hc := Lib.hid (chk_3 hl)
    by_cases h1 : l < 0
    · clear hl
      go_enter Tryd.func9, Tryd.ntmps9
      go_wp2_with fail
      go_ret
      exact ⟨ret_int hc.out.symm, (Below.refl _ _).alloc (Nat.le_refl _) _⟩
    by_cases h2 : l > 16
    · clear hl
      go_enter Tryd.func9, Tryd.ntmps9
      go_wp2_with fail
      go_ret
      exact ⟨ret_int hc.out.symm, (Below.refl _ _).alloc (Nat.le_refl _) _⟩
    by_cases h3 : a < 0
    · clear hl
      go_enter Tryd.func9, Tryd.ntmps9
      go_wp2_with fail
      go_ret
      exact ⟨ret_int hc.out.symm, (Below.refl _ _).alloc (Nat.le_refl _) _⟩
    have h4 : a > 65535 := by omega
    clear hl
    go_enter Tryd.func9, Tryd.ntmps9
    go_wp2_with fail
    go_ret
    exact ⟨ret_int hc.out.symm, (Below.refl _ _).alloc (Nat.le_refl _) _⟩
  · have hm := msk_bd l (by omega)
    obtain ⟨g1, g2, g3, g4⟩ : 0 ≤ l ∧ l ≤ 16 ∧ 0 ≤ a ∧ a ≤ 65535 := by omega
    clear hl
    have hc := Lib.hid (chk_in g1 g2 g3 g4)
    have ha := Lib.hid (and_msk a l g3 g4 g1)
    go_enter Tryd.func9, Tryd.ntmps9
    go_wp2_with fail
    go_quiet ((go_at_call 26; exact Calls.quiet_of_same ((mask_any _ _ (by omega) (by omega)).mono (fun _ _ h => ⟨h.1, h.2.symm⟩))))
    go_wp2_with fail
    · go_ret
      rename_i h
      rw [ha.out] at h
      exact ⟨ret_int (by rw [hc.out, if_neg (by simpa using h)]), below_drewN ((Below.refl _ _).alloc (Nat.le_refl _) _) _⟩
    · go_ret
      rename_i h
      rw [ha.out] at h
      exact ⟨ret_int (by rw [hc.out, if_pos (by simpa using h)]), below_drewN ((Below.refl _ _).alloc (Nat.le_refl _) _) _⟩
structure Pfx where
  at_ : Int
  len : Int
  deriving DecidableEq
def Pfx.R (cs : List Value) (p : Pfx) : Prop := cs = [.int .i64 p.at_, .int .i64 p.len]
def Pfx.chk (p : Pfx) : Int := Go.Proofs.YtmkdihmmihpibaaDoor.chk p.at_ p.len
set_option maxHeartbeats 400000 in
theorem right_any {A : Area} {w : World} {ao : Option Addr} {cap : Nat} {l : List Pfx} (h : Sl A w 2 Pfx.R ao cap l) :
    Calls Tryd.prog 27 #[.slice ao l.length cap] w fun e w' => e = .returned (.bool (l.all fun p => p.chk == 0)) ∧ Ext w w' := by
  have hcl := h.cap_le
  have hcm := h.cap_max
  go_enter Tryd.func27, Tryd.ntmps27
  go_wp2_with fail
  go_loopw [7] (fun i wr => ∃ k : Nat, k ≤ l.length ∧ i = .int .i64 k ∧ (∀ p ∈ l.take k, p.chk = 0) ∧ Bel w.heap.size w wr) (fun i _ => l.length - (intOf i).toNat)
  case atStart => exact ⟨0, Nat.zero_le _, rfl, by simp, Bel.refl _⟩
  case round =>
    obtain ⟨k, hk, rfl, hall, hb⟩ := hrel
    by_cases hlt : k < l.length
    · obtain ⟨b, off, cs, hao, -, -, hR, hc⟩ := h.elem k hlt
      generalize hp : l[k] = p at hR
      unfold Pfx.R at hR
      subst hR
      have hc0 := hc 0 (by simp)
      have hc1 := hc 1 (by simp)
      simp at hc0 hc1
      have hbl := lt_of_cell hc0
      have hc0 := hb.cell hbl hc0
      have hc1 := hb.cell hbl hc1
      replace hp := Lib.hid hp
      replace hall := Lib.hid hall
      clear hc
      subst hao
      go_wp2_with fail
      have hle := hb.le
      refine (check_any _ _ _).mono ?_
      rintro e w1 ⟨rfl, hw1⟩
      have hb3 : Bel w.heap.size w w1 := by (repeat (first | with_reducible assumption | with_reducible exact Bel.refl _ | with_reducible refine Bel.alloc ?_ _ | with_reducible refine Bel.drewN ?_ _ | with_reducible refine Bel.drew ?_ | (with_reducible refine Bel.setCell0 ?_ ?_ _; rotate_left; (first | omega | (simp; done) | (simp; omega))) | (with_reducible refine Bel.setCell ?_ (p := _) ?_ _; rotate_left; (first | (simp; done) | omega | (simp; omega))) | refine Bel.call ?_ (by assumption) | (refine EX.bel ?_ (by assumption) ?_; rotate_left; (first | omega | (simp; omega)))))
      replace hb3 := Lib.hid hb3
      clear hb
      by_cases hz : Go.Proofs.YtmkdihmmihpibaaDoor.chk p.at_ p.len = 0
      · have hz2 : (Go.Proofs.YtmkdihmmihpibaaDoor.chk p.at_ p.len != 0) = false := by simp [hz]
        replace hz := Lib.hid hz
        go_wp2_with fail
        go_roundw
        case rel => exact ⟨k + 1, by omega, by go_num, by
            intro q hq
            rw [List.take_succ_eq_append_getElem hlt] at hq
            rcases List.mem_append.1 hq with hq | hq
            · exact hall.out q hq
            · rw [List.mem_singleton.1 hq, hp.out]; exact hz.out, hb3.out⟩
        case measure => simp [intOf]; omega
      · have hz2 : (Go.Proofs.YtmkdihmmihpibaaDoor.chk p.at_ p.len != 0) = true := by simp [hz]
        go_wp2_with fail
        go_ret
        refine ⟨?_, hb3.out.bel⟩
        have : (l.all fun p => p.chk == 0) = false := by
          rw [List.all_eq_false]
          exact ⟨l[k], List.getElem_mem hlt, by rw [hp.out]; simpa [Pfx.chk] using hz⟩
        rw [this]; rfl
    · obtain rfl : k = l.length := by omega
      go_wp2_with fail
      go_ret
      refine ⟨?_, hb.bel⟩
      have : (l.all fun p => p.chk == 0) = true := by
        rw [List.all_eq_true]
        intro p hp
        rw [List.take_length] at hall
        simpa using hall p hp
      rw [this]; rfl
end Go.Proofs.YtmkdihmmihpibaaDoor
namespace Go.Proofs.YtmkdihmmihpibaaDoor
open Go Go.RowKit
theorem take_snoc {α : Type} {l : List α} {k : Nat} {x : α} (h : l[k]? = some x) : l.take (k + 1) = l.take k ++ [x] := by
  rw [List.take_add_one, h]; rfl
def encP (p : Pfx) : List D := [.v (.int .i64 p.at_), .v (.int .i64 p.len)]
end Go.Proofs.YtmkdihmmihpibaaDoor
namespace Go.Proofs.YtmkdihmmihpibaaDoor
open Go Go.RowKit
def dval0 : D → Value
  | .v x => x
  | _ => undef
def dval1 : D → Value
  | .v x => x
  | .agg l => .agg (l.map dval0).toArray
  | _ => undef
def dval : D → Value
  | .v x => x
  | .agg l => .agg (l.map dval0).toArray
  | .tup l => .tuple (l.map dval1).toArray
  | _ => undef
theorem ext_list {vs : List Value} {ds : List D} {f : D → Value} (hl : ds.length = vs.length) (h : ∀ (j : Nat) (d : D) (x : Value), ds[j]? = some d → vs[j]? = some x → x = f d) : vs = ds.map f := by
  apply List.ext_getElem?
  intro j
  rw [List.getElem?_map]
  cases hd : ds[j]? with
  | none =>
    have : ds.length ≤ j := by simpa using hd
    rw [List.getElem?_eq_none (by omega)]; rfl
  | some d =>
    have hlt : j < vs.length := by rw [← hl]; exact (List.getElem?_eq_some_iff.1 hd).1
    rw [List.getElem?_eq_getElem hlt, h j d _ hd (List.getElem?_eq_getElem hlt)]; rfl
theorem isV_val {M : Nat → Prop} {w : World} {d : D} {v : Value} (h : RepD M w d v) (hf : d.isV = true) : v = dval0 d := by
  cases d <;> simp [D.isV] at hf
  cases h
  rfl
theorem flat_val {M : Nat → Prop} {w : World} {d : D} {v : Value} (h : RepD M w d v) (hf : d.flat = true) : v = dval d := by
  cases h with
  | v => rfl
  | agg cells vs hl h1 hrep =>
    simp only [D.flat, List.all_eq_true] at hf
    rw [ext_list (f := dval0) hl fun j d x hj hx => isV_val (hrep j d x hj hx) (hf d (List.mem_of_getElem? hj))]
    rfl
  | tup ds vs hl hrep =>
    simp only [D.flat, List.all_eq_true] at hf
    rw [ext_list (f := dval1) hl fun j d x hj hx => ?_]
    · rfl
    · have h0 := hrep j d x hj hx
      have h1 := hf d (List.mem_of_getElem? hj)
      cases h0 with
      | v => rfl
      | agg cells us hl' h1' hrep' =>
        simp only [List.all_eq_true] at h1
        rw [ext_list (f := dval0) hl' fun j d x hj hx => isV_val (hrep' j d x hj hx) (h1 d (List.mem_of_getElem? hj))]
        rfl
      | _ => simp at h1
  | _ => simp [D.flat] at hf
def D.aggOK : D → Bool
  | .agg l => l.all D.one
  | .tup l => l.all fun d => match d with | .agg l => l.all D.one | _ => true
  | _ => true
theorem map_rep {M : Nat → Prop} {w : World} (ds : List D) (hf : ∀ d ∈ ds, d.isV = true) : ∀ (j : Nat) (d : D) (x : Value), ds[j]? = some d → (ds.map dval0)[j]? = some x → RepD M w d x := by
  intro j d x hj hx
  rw [List.getElem?_map, hj] at hx
  cases hx
  have := hf d (List.mem_of_getElem? hj)
  cases d <;> simp [D.isV] at this
  exact .v _
theorem flat_mk {M : Nat → Prop} {w : World} {d : D} (hf : d.flat = true) (h1 : d.aggOK = true) : RepD M w d (dval d) := by
  cases d with
  | v x => exact .v x
  | agg l =>
    simp only [D.flat, List.all_eq_true] at hf
    simp only [D.aggOK, List.all_eq_true] at h1
    exact .agg l _ (by simp) h1 (map_rep l hf)
  | tup l =>
    simp only [D.flat, List.all_eq_true] at hf
    simp only [D.aggOK, List.all_eq_true] at h1
    refine .tup l _ (by simp) fun j d x hj hx => ?_
    rw [List.getElem?_map, hj] at hx
    cases hx
    have h2 := hf d (List.mem_of_getElem? hj)
    have h3 := h1 d (List.mem_of_getElem? hj)
    cases d with
    | v x => exact .v x
    | agg l' =>
      simp only [List.all_eq_true] at h2 h3
      exact .agg l' _ (by simp) h3 (map_rep l' h2)
    | _ => simp at h2
  | _ => simp [D.flat] at hf
theorem pspec_flat {P : Program} {f : Nat} {ds : List D} {r : D} (hn : FnOK P f) (hf : ∀ d ∈ ds, d.flat = true) (hr : r.flat = true) (hr1 : r.aggOK = true) (h : ∀ w, Calls P f (ds.map dval).toArray w fun e w' => e = .returned (dval r) ∧ Ext w w') : PSpec P f ds r := by
  refine ⟨hn, fun M w vs _ _ hds => ?_⟩
  rw [ext_list (f := dval) hds.1 fun j d x hj hx => flat_val (hds.2 j d x hj hx) (hf d (List.mem_of_getElem? hj))]
  exact (h w).mono fun e w' ⟨he, hx⟩ => ⟨dval r, he, flat_mk hr hr1, hx⟩
end Go.Proofs.YtmkdihmmihpibaaDoor
namespace Go.Proofs.YtmkdihmmihpibaaDoor
open Go Go.RowKit
/-- What bears it is not looked into by the simplifier. -/
structure Tg.{u} {α : Sort u} (a : α) : Type where
  mk ::
/-- Both ways of a test that is not decided. -/
def condS (p : PV) (A B : Prop) (_ : Tg A) (_ : Tg B) : Prop := match p with | .d (.v (.bool t)) => (t = true → A) ∧ (t = false → B) | _ => False
def gK (g : Option Bool) (A B : Prop) (_ : Tg A) (_ : Tg B) : Prop := match g with | some g => (g = true → A) ∧ (g = false → B) | none => False
/-- The order that is drawn doesn't matter. -/
def drwOK (l : List Oper) (_ : Tg l) (sm : List (List Nat × List Nat)) : Prop := (indepB ⟨l⟩ sm.reverse && edgesB ⟨l⟩) = true
def endK (draw : Bool) (l : List Oper) (_ : Tg l) (sm : List (List Nat × List Nat)) (A : Prop) (_ : Tg A) : Prop := match draw with | true => drwOK l ⟨⟩ sm ∧ A | false => A
def guardP (ds : List (Option Nat)) (e : Env) (g : Option (Nat × Bool)) : Option Bool :=
  match g with
  | none => some true
  | some (j, want) => match ds[j]? with | some dj => (yieldD dj e).map (· == some want) | none => none
abbrev KT := Exit → Env → List Chunk → Prop
def nK (K : KT) : Env → List Chunk → Prop := K .normal
def lopK (C : Env → List Chunk → Prop) (K : KT) : KT
  | .normal, e, h => C e h
  | x, e, h => K x e h
/-- What follows. -/
def apK (K : KT) (_ : Tg K) (x : Exit) (e : Env) (h : List Chunk) : Prop := K x e h
def opK (P : Program) (r : SR) (dst : Option Nat) (e : Env) (h : List Chunk) (sm : List (List Nat × List Nat)) (R : Env → List Chunk → List (List Nat × List Nat) → Prop) (_ : Tg R) : Prop := runO P r dst e h sm R
section
variable (P : Program) (n m : Nat) (T : Nat → Option TI) (Q : Nat → Option Nat)
def rO (draw : Bool) (ops : List Oper) (K : KT) : (l : List Oper) → Tg (ops, K, l) → List (Option Nat) → Env → List Chunk → List (List Nat × List Nat) → Prop
  | [], _, _, e, h, sm => endK draw ops ⟨⟩ sm (apK K ⟨⟩ .normal e h) ⟨⟩
  | o :: l, _, ds, e, h, sm => gK (guardP ds e o.guard) (opK P (opS T Q e h o) o.dst e h sm (fun e' h' sm' => rO draw ops K l ⟨⟩ (ds ++ [o.dst]) e' h' sm') ⟨⟩) (rO draw ops K l ⟨⟩ (ds ++ [o.dst]) (putE e o.dst (.d (.v undef))) h (([], []) :: sm)) ⟨⟩ ⟨⟩
/-- Each operation's slot is one of the frame. -/
def codeB : Code → Bool
  | .seq a b => codeB a && codeB b
  | .block _ c => codeB c
  | .cond _ a b => codeB a && codeB b
  | .region _ ops _ => ops.toList.all (dstB n)
  | .loop c => codeB c
  | .rangeFunc _ _ a b => codeB a && codeB b
  | _ => true
/-- A loop is looked at apart. -/
def loopK (c : Code) (K : KT) (_ : Tg (c, K)) (e : Env) (h : List Chunk) : Prop := codeB n c = true → swp P n m (.loop c) K e h
def elseK (c : Code) (K : KT) (_ : Tg (c, K)) (e : Env) (h : List Chunk) : Prop := swp P n m c K e h
def sC : (c : Code) → (K : KT) → Tg (c, K) → Env → List Chunk → Prop
  | .seq a b, K, _, e, h => sC a (seqK (sC b K ⟨⟩) K) ⟨⟩ e h
  | .block id c, K, _, e, h => sC c (blkK id (nK K) K) ⟨⟩ e h
  | .skip, K, _, e, h => apK K ⟨⟩ .normal e h
  | .exit i, K, _, e, h => apK K ⟨⟩ (.exit i) e h
  | .ret, K, _, e, h => apK K ⟨⟩ .ret e h
  | .label _, K, _, e, h => apK K ⟨⟩ .normal e h
  | .cond c a b, K, _, e, h => condS (evL e c) (sC a K ⟨⟩ e h) (sC b K ⟨⟩ e h) ⟨⟩ ⟨⟩
  | .region _ ⟨ops⟩ draw, K, _, e, h => m ≤ h.length ∧ rO P T Q draw ops K ops ⟨⟩ [] e h []
  | .loop c, K, _, e, h => loopK P n m c K ⟨⟩ e h
  | c, K, _, e, h => elseK P n m c K ⟨⟩ e h
end
theorem guardP_ok {ds : List (Option Nat)} {full : List (Option Nat)} (hp : ∃ x, full = ds ++ x) {e : Env} {o : Oper} {g : Bool} (h : guardP ds e o.guard = some g) : guardD full e o = some g := by
  obtain ⟨x, rfl⟩ := hp
  unfold guardP at h
  unfold guardD
  cases hg : o.guard with
  | none => rw [hg] at h; exact h
  | some jw =>
    obtain ⟨j, want⟩ := jw
    rw [hg] at h
    simp only at h ⊢
    cases hd : ds[j]? with
    | none => rw [hd] at h; cases h
    | some dj =>
      rw [hd] at h
      have hj := (List.getElem?_eq_some_iff.1 hd).1
      rw [List.getD_eq_getElem?_getD, List.getElem?_append_left hj, hd]
      exact h
theorem rO_sound {P : Program} {n : Nat} {T : Nat → Option TI} {Q : Nat → Option Nat} {draw : Bool} {ops : List Oper} {K : KT} : ∀ (l : List Oper) (pre : List Oper) (e : Env) (h : List Chunk) (sm : List (List Nat × List Nat)), ops = pre ++ l → l.all (dstB n) = true →
    rO P T Q draw ops K l ⟨⟩ (pre.map (·.dst)) e h sm → sOps P n T Q draw ⟨ops⟩ (ops.map (·.dst)) l e h sm (K .normal)
  | [], pre, e, h, sm, _, _, hs => by
    unfold rO endK at hs
    unfold sOps
    cases draw with
    | true => exact ⟨fun _ => hs.1, hs.2⟩
    | false => exact ⟨(fun h => (by cases h)), hs⟩
  | o :: l, pre, e, h, sm, hop, hb, hs => by
    simp only [List.all_cons, Bool.and_eq_true] at hb
    have hop' : ops = (pre ++ [o]) ++ l := by rw [hop]; simp
    have hds : pre.map (·.dst) ++ [o.dst] = (pre ++ [o]).map (·.dst) := by simp
    refine sOps_cons hb.1 fun R hR => ?_
    unfold rO gK at hs
    unfold grdO
    rw [hds] at hs
    split at hs
    · rename_i g hg
      rw [guardP_ok (full := ops.map (·.dst)) ⟨(o :: l).map (·.dst), by rw [hop]; simp⟩ hg]
      cases g with
      | true =>
        have hs := hs.1 rfl
        show runO _ _ _ _ _ _ _
        unfold opK runO at hs
        unfold runO
        split at hs
        · exact hs
        · obtain ⟨a, b, c⟩ := hs
          exact ⟨a, b, hR _ _ _ (rO_sound l _ _ _ _ hop' hb.2 c)⟩
        · rcases hs with ⟨ds, r, a, b, c, d⟩ | ⟨ls, args, h0, r, h1, a, b, c, d, e1, f, g⟩
          · exact .inl ⟨ds, r, a, b, c, hR _ _ _ (rO_sound l _ _ _ _ hop' hb.2 d)⟩
          · exact .inr ⟨ls, args, h0, r, h1, a, b, c, d, e1, f, hR _ _ _ (rO_sound l _ _ _ _ hop' hb.2 g)⟩
      | false => exact hR _ _ _ (rO_sound l _ _ _ _ hop' hb.2 (hs.2 rfl))
    · exact hs.elim
theorem sC_sound {P : Program} {n m : Nat} {T : Nat → Option TI} {Q : Nat → Option Nat} (hTQ : TabOK P T Q) (hmix : P.follows .mixedOrders = true) : ∀ (c : Code) (K : KT) (e : Env) (h : List Chunk), codeB n c = true → sC P n m T Q c K ⟨⟩ e h → swp P n m c K e h
  | .seq a b, K, e, h, hb, hs => by
    simp only [codeB, Bool.and_eq_true] at hb
    refine pwp_seq fun C hC => ?_
    intro X hX hn hXm ac w hr
    refine wp_mono (sC_sound hTQ hmix a _ e h hb.1 hs X hX hn hXm ac w hr) fun ex a' w' ⟨e', h', hk, hr'⟩ => ⟨e', h', ?_, hr'⟩
    cases ex with
    | normal => exact hC _ _ (sC_sound hTQ hmix b _ _ _ hb.2 hk)
    | _ => exact hk
  | .block id c, K, e, h, hb, hs => by
    refine pwp_block fun C hC => ?_
    intro X hX hn hXm ac w hr
    refine wp_mono (sC_sound hTQ hmix c _ e h hb hs X hX hn hXm ac w hr) fun ex a' w' ⟨e', h', hk, hr'⟩ => ⟨e', h', ?_, hr'⟩
    cases ex with
    | normal => exact hC _ _ hk
    | exit i =>
      simp only [blkK] at hk ⊢
      split
      · rename_i hi; rw [if_pos hi] at hk; exact hC _ _ hk
      · rename_i hi; rw [if_neg hi] at hk; exact hk
    | _ => exact hk
  | .skip, K, e, h, _, hs => pwp_skip hs
  | .exit i, K, e, h, _, hs => pwp_exit hs
  | .ret, K, e, h, _, hs => pwp_ret hs
  | .label _, K, e, h, _, hs => pwp_label hs
  | .cond c a b, K, e, h, hb, hs => by
    simp only [codeB, Bool.and_eq_true] at hb
    simp only [sC, condS] at hs
    split at hs
    · rename_i t ht
      exact pwp_cond ht (fun h0 => sC_sound hTQ hmix a _ _ _ hb.1 (hs.1 h0)) (fun h0 => sC_sound hTQ hmix b _ _ _ hb.2 (hs.2 h0))
    · exact hs.elim
  | .region id ⟨ops⟩ draw, K, e, h, hb, hs => by
    intro X hX hn hXm a w hr
    subst hX
    subst hn
    subst hXm
    exact region_sound hTQ hmix (K := K .normal) hs.1 (rO_sound ops [] _ _ _ rfl hb hs.2) hr fun e' h' a' w' hk hr' => ⟨e', h', hk, hr'⟩
  | .loop c, K, e, h, hb, hs => hs hb
  | .rangeFunc _ _ _ _, K, e, h, _, hs => hs
  | .scope _, K, e, h, _, hs => hs
  | .goto _, K, e, h, _, hs => hs
  | .refuse _, K, e, h, _, hs => hs
section
variable {P : Program} {n m : Nat} {T : Nat → Option TI} {Q : Nat → Option Nat}
/-- A loop: what holds at each round's head. -/
theorem loopG (hTQ : TabOK P T Q) (hmix : P.follows .mixedOrders = true) {c : Code} {K : Exit → Env → List Chunk → Prop} {e : Env} {h : List Chunk} (I : Nat → Env → List Chunk → Prop) (mm : Nat) (e1 : Env) (h1 : List Chunk) (h0 : I mm e1 h1) (hw : Weak P n m e h e1 h1)
    (hr : ∀ k e h, I k e h → ∀ C : Env → List Chunk → Prop, (∀ k' e1 h1 e h, k' < k → I k' e1 h1 → Weak P n m e h e1 h1 → C e h) → sC P n m T Q c (lopK C K) ⟨⟩ e h) : loopK P n m c K ⟨⟩ e h :=
  fun hb => pwp_loop I mm e1 h1 h0 hw fun k e h hI C hC => (show lopK C K = seqK C K from funext fun x => by cases x <;> rfl) ▸ sC_sound hTQ hmix c _ _ _ hb (hr k e h hI C hC)
end
section
variable {P : Program} {n m : Nat} {T : Nat → Option TI} {Q : Nat → Option Nat} {A B : Prop} {s : Tg A} {t : Tg B}
theorem gK_t : gK (some true) A B s t = A := by simp [gK]
theorem gK_f : gK (some false) A B s t = B := by simp [gK]
theorem gK_i {b : Bool} (h1 : b = true → A) (h2 : b = false → B) : gK (some b) A B s t := ⟨h1, h2⟩
theorem condS_t : condS (.d (.v (.bool true))) A B s t = A := by simp [condS]
theorem condS_f : condS (.d (.v (.bool false))) A B s t = B := by simp [condS]
theorem condS_i {b : Bool} (h1 : b = true → A) (h2 : b = false → B) : condS (.d (.v (.bool b))) A B s t := ⟨h1, h2⟩
theorem ob_bt (b : Bool) : (some b == some true) = b := by cases b <;> rfl
theorem ob_bf (b : Bool) : (some b == some false) = !b := by cases b <;> rfl
theorem gK_n {b : Bool} : gK (some (!b)) A B s t = gK (some b) B A t s := by
  cases b <;> simp [gK]
theorem condS_n {b : Bool} : condS (.d (.v (.bool (!b)))) A B s t = condS (.d (.v (.bool b))) B A t s := by
  cases b <;> simp [condS]
theorem pick_t (a b : PV) : pickS (.d (.v (.bool true))) a b = .res a [] [] True := by
  simp only [pickS]; split <;> rfl
theorem pick_f (a b : PV) : pickS (.d (.v (.bool false))) a b = .res b [] [] True := by
  simp only [pickS]; split <;> rfl
theorem pick_b (t p q : Bool) : pickS (.d (.v (.bool t))) (.d (.v (.bool p))) (.d (.v (.bool q))) = .res (.d (.v (.bool (bif t then p else q)))) [] [] True := rfl
theorem endK_f (l : List Oper) (u : Tg l) (sm : List (List Nat × List Nat)) : endK false l u sm A s = A := rfl
theorem endK_t (l : List Oper) (u : Tg l) (sm : List (List Nat × List Nat)) : endK true l u sm A s = (drwOK l u sm ∧ A) := rfl
theorem drw_i {l : List Oper} {u : Tg l} {sm : List (List Nat × List Nat)} (h : (indepB ⟨l⟩ sm.reverse && edgesB ⟨l⟩) = true) : drwOK l u sm := h
theorem opK_res {p : PV} {eff : List (Nat × Chunk)} {touch : List Nat} {side : Prop} {dst : Option Nat} {e : Env} {h : List Chunk} {sm : List (List Nat × List Nat)} {R : Env → List Chunk → List (List Nat × List Nat) → Prop} {u : Tg R} :
    opK P (.res p eff touch side) dst e h sm R u = (side ∧ (eff.all fun kc => decide (kc.1 ≤ h.length)) = true ∧ R (putE e dst p) (effC eff h) ((eff.map (·.1), touch) :: sm)) := rfl
/-- A call, by data. -/
theorem opK_P {dst : Option Nat} {e : Env} {h : List Chunk} {sm : List (List Nat × List Nat)} {R : Env → List Chunk → List (List Nat × List Nat) → Prop} {u : Tg R} {g : Nat} {ps : List PV} {ds : List D} {r : D} {tl : List Nat} (hv : vwL (hatL h) ps = some ds) (hp : PSpec P g ds r) (ht : tcL (hatL h) ps = tl) (hf : tl = [] ∨ r.flat = true) (hR : R (putE e dst (.d r)) h (([], tl) :: sm)) : opK P (.call g ps) dst e h sm R u := by
  subst ht; exact runO_P hv hp hf hR
/-- A call, its arguments seen. -/
def callK (P : Program) (g : Nat) (ds : List D) (tl : List Nat) (dst : Option Nat) (e : Env) (h : List Chunk) (sm : List (List Nat × List Nat)) (R : Env → List Chunk → List (List Nat × List Nat) → Prop) (_ : Tg R) : Prop :=
  ∃ r, PSpec P g ds r ∧ (tl = [] ∨ r.flat = true) ∧ R (putE e dst (.d r)) h (([], tl) :: sm)
def callO (P : Program) (g : Nat) (ds : Option (List D)) (tl : List Nat) (dst : Option Nat) (e : Env) (h : List Chunk) (sm : List (List Nat × List Nat)) (R : Env → List Chunk → List (List Nat × List Nat) → Prop) (u : Tg R) : Prop :=
  match ds with
  | some ds => callK P g ds tl dst e h sm R u
  | none => False
theorem opK_c {dst : Option Nat} {e : Env} {h : List Chunk} {sm : List (List Nat × List Nat)} {R : Env → List Chunk → List (List Nat × List Nat) → Prop} {u : Tg R} {g : Nat} {ps : List PV} (hv : callO P g (vwL (hatL h) ps) (tcL (hatL h) ps) dst e h sm R u) : opK P (.call g ps) dst e h sm R u := by
  unfold callO at hv
  split at hv
  · rename_i ds hd
    obtain ⟨r, hp, hf, hR⟩ := hv
    exact opK_P hd hp rfl hf hR
  · exact hv.elim
theorem callK_i {g : Nat} {ds ds' : List D} {tl : List Nat} {dst : Option Nat} {e : Env} {h : List Chunk} {sm : List (List Nat × List Nat)} {R : Env → List Chunk → List (List Nat × List Nat) → Prop} {u : Tg R} {r : D} (hp : PSpec P g ds' r) (hd : dles ds ds') (hf : tl = [] ∨ r.flat = true) (hR : R (putE e dst (.d r)) h (([], tl) :: sm)) : callK P g ds tl dst e h sm R u := ⟨r, hp.args hd, hf, hR⟩
theorem callK_r {g : Nat} {ds : List D} {tl : List Nat} {dst : Option Nat} {e : Env} {h : List Chunk} {sm : List (List Nat × List Nat)} {R : Env → List Chunk → List (List Nat × List Nat) → Prop} {u : Tg R} {r : D} (hp : PSpec P g ds r) (hf : tl = [] ∨ r.flat = true) (hR : R (putE e dst (.d r)) h (([], tl) :: sm)) : callK P g ds tl dst e h sm R u := ⟨r, hp, hf, hR⟩
variable {K K1 : KT} {C : Env → List Chunk → Prop} {e : Env} {h : List Chunk} {b : Code} {i id : Nat}
theorem apK_seq_n {u : Tg (seqK (sC P n m T Q b K ⟨⟩) K1)} : apK (seqK (sC P n m T Q b K ⟨⟩) K1) u .normal e h = sC P n m T Q b K ⟨⟩ e h := rfl
theorem apK_seq_x {u : Tg (seqK C K1)} : apK (seqK C K1) u (.exit i) e h = apK K1 ⟨⟩ (.exit i) e h := rfl
theorem apK_seq_r {u : Tg (seqK C K1)} : apK (seqK C K1) u .ret e h = apK K1 ⟨⟩ .ret e h := rfl
theorem apK_lop_n {u : Tg (lopK C K1)} : apK (lopK C K1) u .normal e h = C e h := rfl
theorem apK_lop_x {u : Tg (lopK C K1)} : apK (lopK C K1) u (.exit i) e h = apK K1 ⟨⟩ (.exit i) e h := rfl
theorem apK_lop_r {u : Tg (lopK C K1)} : apK (lopK C K1) u .ret e h = apK K1 ⟨⟩ .ret e h := rfl
theorem apK_blk_n {u : Tg (blkK id (nK K) K1)} : apK (blkK id (nK K) K1) u .normal e h = apK K ⟨⟩ .normal e h := rfl
theorem apK_blk_r {u : Tg (blkK id (nK K) K1)} : apK (blkK id (nK K) K1) u .ret e h = apK K1 ⟨⟩ .ret e h := rfl
theorem apK_blk_x {u : Tg (blkK id (nK K) K1)} : apK (blkK id (nK K) K1) u (.exit i) e h = if i = id then apK K ⟨⟩ .normal e h else apK K1 ⟨⟩ (.exit i) e h := rfl
/-- What is given back. -/
def retE (T : Nat → Option TI) (rs : List ResultVar) (r : D) (e : Env) (h : List Chunk) : Prop :=
  match retPL T e h rs with
  | some ps => match vw (hatL h) (retP ps) with
    | some d => DLe d r
    | none => False
  | none => False
theorem retE_ok {rs : List ResultVar} {r : D} {x : Exit} (hx : x = .normal ∨ x = .ret) : RetOK T rs r x e h = retE T rs r e h := by
  apply propext
  unfold RetOK retE
  constructor
  · rintro ⟨-, ps, d, h1, h2, h3⟩
    rw [h1]; simp only [h2]; exact h3
  · intro h1
    refine ⟨hx, ?_⟩
    split at h1
    · rename_i ps hp
      split at h1
      · rename_i d hd
        exact ⟨ps, d, hp, hd, h1⟩
      · exact h1.elim
    · exact h1.elim
def retM (P : Program) (m : Nat) (T : Nat → Option TI) (rs : List ResultVar) (r : PV) (h1 : List Chunk) (e : Env) (h : List Chunk) : Prop :=
  match retPL T e h rs with
  | some ps => Weak P 1 m [(0, retP ps)] h [(0, r)] h1
  | none => False
theorem retM_ok {rs : List ResultVar} {r : PV} {h1 : List Chunk} {x : Exit} (hx : x = .normal ∨ x = .ret) : RetM P m T rs r h1 x e h = retM P m T rs r h1 e h := by
  apply propext
  unfold RetM retM
  constructor
  · rintro ⟨-, ps, h2, h3⟩
    rw [h2]; exact h3
  · intro h2
    refine ⟨hx, ?_⟩
    split at h2
    · rename_i ps hp
      exact ⟨ps, hp, h2⟩
    · exact h2.elim
theorem apK_retOK_n {rs : List ResultVar} {r : D} {u : Tg (RetOK T rs r)} : apK (RetOK T rs r) u .normal e h = retE T rs r e h := retE_ok (.inl rfl)
theorem apK_retOK_r {rs : List ResultVar} {r : D} {u : Tg (RetOK T rs r)} : apK (RetOK T rs r) u .ret e h = retE T rs r e h := retE_ok (.inr rfl)
theorem apK_retM_n {rs : List ResultVar} {r : PV} {h1 : List Chunk} {u : Tg (RetM P m T rs r h1)} : apK (RetM P m T rs r h1) u .normal e h = retM P m T rs r h1 e h := retM_ok (.inl rfl)
theorem apK_retM_r {rs : List ResultVar} {r : PV} {h1 : List Chunk} {u : Tg (RetM P m T rs r h1)} : apK (RetM P m T rs r h1) u .ret e h = retM P m T rs r h1 e h := retM_ok (.inr rfl)
end
/-- What is asked of a function's text. -/
def chkB (fn : Func) (nt : Nat) (c : Code) (k : Nat) : Bool := !(fn.name == "runtime.NumGoroutine") && codeB nt c && decide (k ≤ nt)
theorem ps_i {P : Program} {f : Nat} {fn : Func} {c : Code} {T : Nat → Option TI} {Q : Nat → Option Nat} {nt : Nat} {rs : Array ResultVar} (hTQ : TabOK P T Q) (hmix : P.follows .mixedOrders = true) (hf : P.funcs[f]? = some fn) (hb : fn.body = some c) (hn : fn.ntmps = nt) (hr : fn.results = rs) {ds : List D} {r : D} (hc : chkB fn nt c ds.length = true)
    (hp : sC P nt 0 T Q c (RetOK T rs.toList r) ⟨⟩ (argP (ds.map .d) 0) []) : PSpec P f ds r := by
  subst hn; subst hr
  simp only [chkB, Bool.and_eq_true, Bool.not_eq_true', decide_eq_true_eq] at hc
  exact pspec_intro hTQ hf hb (fnok_of hf hc.1.1 hb) hc.2 (sC_sound hTQ hmix _ _ _ _ hc.1.2 hp)
theorem setAt_zz {α : Type} (l : List α) : setAt l 0 [] = l := by simp [setAt]
theorem setAt_zc {α : Type} (a x : α) (l xs : List α) : setAt (a :: l) 0 (x :: xs) = x :: setAt l 0 xs := by simp [setAt]
theorem setAt_s {α : Type} (a : α) (n : Nat) (l xs : List α) : setAt (a :: l) (n + 1) xs = a :: setAt l n xs := by simp only [setAt, List.take_succ_cons, List.cons_append, Nat.add_right_comm n 1, List.drop_succ_cons]
attribute [go_sem] argP
attribute [go_sem] gK_t gK_f condS_t condS_f endK_f endK_t opK_res apK_seq_n apK_seq_x apK_seq_r apK_lop_n apK_lop_x apK_lop_r apK_blk_n apK_blk_r apK_blk_x apK_retOK_n apK_retOK_r apK_retM_n apK_retM_r retE retM retPL retPV retP vw viewF viewL viewR viewL_d viewR_d viewF_d pick_t pick_f pick_b callO vwL tcL tc tchL tchF tchR tchL_d tchR_d tchF_d ob_bt ob_bf gK_n condS_n guardP sC rO
attribute [go_sem] ob_tt ob_ff ob_tf ob_ft ob_nt ob_nf opS evL look putE effC setC hatL unS nilS nifS binS intS fieldS loadS indexS indexV bytesD extrS partsS buildS allLen bslS mkSlS convS lenS appS sliceS clearS loB hiB storeS makeMapS lookupS mapUpS keyP callS tabT tabQ okP cellsP PV.one D.one Value.oneCell' dsOf intsD fillD setAt_zz setAt_zc setAt_s yieldD aggP tupP dsR rowsS srcS effM heapM rid ren renL renR renC mids dRows_get dRows_len dRows_app renL_d renR_d renR_set IntKind.bits
attribute [go_sem] cond_true cond_false List.map_cons List.map_nil List.length_cons List.length_nil List.all_cons List.all_nil List.take_succ_cons List.take_zero List.drop_succ_cons List.drop_zero List.take_nil List.drop_nil List.cons_append List.nil_append List.append_nil List.append_assoc List.reverse_cons List.reverse_nil List.getElem?_cons_zero List.getElem?_cons_succ List.getElem?_nil List.getElem?_toArray List.getElem?_map Option.map_some Option.map_none Option.getD_some Option.getD_none Option.bind_some Option.bind_none Nat.zero_add Nat.add_zero decide_true decide_false Bool.and_true Bool.true_and Bool.and_false Bool.false_and Bool.and_self Bool.not_true Bool.not_false Bool.true_eq_false Bool.false_eq_true beq_self_eq_true ne_eq not_true_eq_false not_false_eq_true and_true true_and and_self or_self or_false false_or or_true true_or eq_self forall_const false_implies implies_true Int.toNat_natCast Int.natCast_nonneg Nat.lt_irrefl Nat.le_refl List.length_map List.length_append Option.some.injEq Prod.mk.injEq Nat.not_lt_zero Nat.zero_le Nat.zero_lt_succ Nat.lt_add_one List.getD_cons_zero List.getD_cons_succ List.getD_nil List.range_succ List.range_zero List.length_set List.set_cons_zero List.set_cons_succ
end Go.Proofs.YtmkdihmmihpibaaDoor
namespace Go.Proofs.YtmkdihmmihpibaaDoor
open Go Go.RowKit Go.Proofs Go.Shelf
set_option maxRecDepth 100000
theorem grow_ext (w : World) (k : Nat) (os : Array Obj) : Ext w (Sort.grow (w.drewN k) os) := by
  refine ⟨rfl, rfl, rfl, ?_, fun b hb => ?_⟩
  · rw [Sort.size_grow]; simp
  · rw [Sort.heap_grow_old _ _ (by simpa using hb)]; rfl
theorem ginv_pow {M : Nat → Prop} {w : World} (h : GInv M w) : Lib.TabIs Tryd.prog w "internal/strconv.uint64pow10" .u64 Lib.pow10Tab := by
  obtain ⟨-, vs, E, sp, h2, h3⟩ := h (gPow, _) (by unfold gTab; exact List.mem_cons_self ..)
  unfold Lib.TabIs World.var?
  rw [show Tryd.prog.globalNamed "internal/strconv.uint64pow10" = some gPow by kernel_rfl]
  simp only [Option.bind_some, h2]
  rw [h3]
  rfl
theorem ginv_syn {M : Nat → Prop} {w : World} (h : GInv M w) : ∃ t p, w.var? Tryd.prog "strconv.ErrSyntax" = some #[.iface t p] := by
  obtain ⟨-, vs, E, sp, h2, t, p, h3⟩ := h (gSyn, _) (by unfold gTab; exact List.mem_cons_of_mem _ (List.mem_cons_self ..))
  refine ⟨t, p, ?_⟩
  unfold World.var?
  rw [show Tryd.prog.globalNamed "strconv.ErrSyntax" = some gSyn by kernel_rfl]
  simp only [Option.bind_some, h2]
  rw [h3]
theorem ginv_rng {M : Nat → Prop} {w : World} (h : GInv M w) : ∃ t p, w.var? Tryd.prog "strconv.ErrRange" = some #[.iface t p] := by
  obtain ⟨-, vs, E, sp, h2, t, p, h3⟩ := h (gRng, _) (by unfold gTab; exact List.mem_cons_of_mem _ (List.mem_cons_of_mem _ (List.mem_cons_self ..)))
  refine ⟨t, p, ?_⟩
  unfold World.var?
  rw [show Tryd.prog.globalNamed "strconv.ErrRange" = some gRng by kernel_rfl]
  simp only [Option.bind_some, h2]
  rw [h3]
/-- From a call in a world in which the package's variables are laid. -/
theorem pspec_g {P : Program} {f : Nat} {ds : List D} {r : D} (hn : FnOK P f) (hf : ∀ d ∈ ds, d.flat = true) (h : ∀ M w, GInv M w → Calls P f (ds.map dval).toArray w fun e w' => ∃ v, e = .returned v ∧ RepD M w' r v ∧ Ext w w') : PSpec P f ds r := by
  refine ⟨hn, fun M w vs _ hG hds => ?_⟩
  rw [ext_list (f := dval) hds.1 fun j d x hj hx => flat_val (hds.2 j d x hj hx) (hf d (List.mem_of_getElem? hj))]
  exact h M w hG
theorem itoa_p (n : Nat) (hn : n ≤ 9223372036854775807) : PSpec Tryd.prog 30 [.v (.int .i64 n)] (.v (.string (bs (dS n)))) := by
  refine pspec_g (fnok_of Tryd.func30 (by kernel_rfl) rfl) (by simp [D.flat]) fun M w hG => ?_
  refine (Tryd.strconv_Itoa n (by omega) (by omega) w (ginv_pow hG)).mono fun e w' ⟨he, k, os, hw⟩ => ⟨_, he, ?_, by rw [hw]; exact grow_ext _ _ _⟩
  rw [Lib.itoa_nonneg]
  exact .v _
def atoN (l : List UInt8) : Int := match Lib.atoiAll l with | .ok v => v | .range => Lib.atoiSat l | _ => 0
def atoE (l : List UInt8) : D := match Lib.atoiAll l with | .ok _ => .v .nilIface | _ => .nei
theorem rep_pair {M : Nat → Prop} {w : World} {d : D} {x v : Value} (h : RepD M w d v) : RepD M w (.tup [.v x, d]) (.tuple #[x, v]) :=
  .tup [.v x, d] [x, v] rfl fun j e y hj hy => by
    match j with
    | 0 => cases hj; cases hy; exact .v _
    | 1 => cases hj; cases hy; exact h
    | j + 2 => simp at hj
theorem atoi_p (l : List UInt8) (hl : l.length ≤ 281474976710656) : PSpec Tryd.prog 33 [.v (.string (bs l))] (.tup [.v (.int .i64 (atoN l)), atoE l]) := by
  refine pspec_g (fnok_of Tryd.func33 (by kernel_rfl) rfl) (by simp [D.flat]) fun M w hG => ?_
  have hs : (bs l).size ≤ 281474976710656 := by rw [bs_size]; exact hl
  unfold atoN atoE
  cases h : Lib.atoiAll l with
  | ok v =>
    refine (Tryd.strconv_Atoi_ok (bs l) (by omega) v h w).mono fun e w' ⟨he, hw⟩ => ⟨_, he, rep_pair (.v _), ?_⟩
    rcases hw with rfl | ⟨t, rfl⟩
    · exact Below.refl _ _
    · exact Lib.bytesWorld_below _ _ _
  | range =>
    obtain ⟨t, p, hv⟩ := ginv_rng hG
    exact (Tryd.strconv_Atoi_range_var (bs l) hs h t p w hv).mono fun e w' ⟨N, he, _, _, hb⟩ => ⟨_, he, rep_pair (.nei _ _), hb⟩
  | _ =>
    obtain ⟨t, p, hv⟩ := ginv_syn hG
    exact (Tryd.strconv_Atoi_syn_var (bs l) hs (fun v e => by rw [bs_list, h] at e; cases e) (by rw [bs_list, h]; intro e; cases e) t p w hv).mono fun e w' ⟨N, he, _, _, hb⟩ => ⟨_, he, rep_pair (.nei _ _), hb⟩
theorem index1_p (l : List UInt8) (c : UInt8) : PSpec Tryd.prog 40 [.v (.string (bs l)), .v (.string (bs [c]))] (.v (.int .i64 (Lib.indexByte l c))) := by
  refine pspec_g (fnok_of Tryd.func40 (by kernel_rfl) rfl) (by simp [D.flat]) fun M w hG => ?_
  exact (Tryd.stringslite_Index_one (bs l) c w).mono fun e w' ⟨he, hw⟩ => ⟨_, he, .v _, by rw [hw]; exact Below.refl _ _⟩
end Go.Proofs.YtmkdihmmihpibaaDoor
namespace Go.Proofs.YtmkdihmmihpibaaDoor
open Go Go.RowKit Go.Proofs
set_option maxRecDepth 100000
def within (n lo hi : Int) : Bool := decide (lo ≤ n) && decide (n ≤ hi)
theorem within_any (n lo hi : Int) (w : World) :
    Calls Tryd.prog 24 #[.int .i64 n, .int .i64 lo, .int .i64 hi] w fun e w' => e = .returned (.bool (within n lo hi)) ∧ w = w' := by
  by_cases h1 : lo ≤ n
  · by_cases h2 : n ≤ hi
    · have hr : within n lo hi = true := by simp [within, h1, h2]
      replace hr := Lib.hid hr
      go_enter Tryd.func24, Tryd.ntmps24
      go_wp2_with fail
      go_ret
      first | exact ⟨ret_bool hr.out.symm, rfl⟩ | exact ⟨rfl, rfl⟩
    · have hr : within n lo hi = false := by simp [within, h2]
      replace hr := Lib.hid hr
      go_enter Tryd.func24, Tryd.ntmps24
      go_wp2_with fail
      go_ret
      first | exact ⟨ret_bool hr.out.symm, rfl⟩ | exact ⟨rfl, rfl⟩
  · have hr : within n lo hi = false := by simp [within, h1]
    replace hr := Lib.hid hr
    go_enter Tryd.func24, Tryd.ntmps24
    go_wp2_with fail
    go_ret
    first | exact ⟨ret_bool hr.out.symm, rfl⟩ | exact ⟨rfl, rfl⟩
end Go.Proofs.YtmkdihmmihpibaaDoor
namespace Go.Proofs.YtmkdihmmihpibaaDoor
open Go Go.RowKit Go.Proofs
set_option maxRecDepth 100000
def szI (n : Int) : Int := 2 ^ (16 - n).toNat
theorem szI_bd {n : Int} (h0 : 0 ≤ n) : 1 ≤ szI n ∧ szI n ≤ 65536 := by have := pow_bd n h0; unfold szI; omega
theorem sizeOf_any (n : Int) (w : World) (h0 : 0 ≤ n) (h1 : n ≤ 16) :
    Calls Tryd.prog 25 #[.int .i64 n] w fun e w' => e = .returned (.int .i64 (szI n)) ∧ w = w' := by
  have hp := pow_bd n h0
  go_enter Tryd.func25, Tryd.ntmps25
  go_wp2
  go_ret
  exact ⟨rfl, rfl⟩
set_option maxHeartbeats 400000 in
theorem checkPrefix_any (a l : Int) (w : World) :
    Calls Tryd.prog 7 #[.agg #[.int .i64 a, .int .i64 l]] w fun e w' => e = .returned (.int .i64 (chk a l)) ∧ Ext w w' := by
  by_cases hl : 0 ≤ l ∧ l ≤ 16
  · have e1 : within l 0 16 = true := by simp [within, hl]
    by_cases ha : 0 ≤ a ∧ a ≤ 65535
    · have e2 : within a 0 65535 = true := by simp [within, ha]
      have hm := pow_bd l hl.1
      obtain ⟨⟨g1, g2⟩, g3, g4⟩ := And.intro hl ha
      clear hl ha
      obtain ⟨z1, z2⟩ := szI_bd g1
      have z3 : ¬ szI l = 0 := by omega
      have hc := Lib.hid (chk_in g1 g2 g3 g4)
      go_enter Tryd.func7, Tryd.ntmps7
      go_wp2_with (first | (go_at_call 24; refine (within_any _ _ _ _).mono ?_; rintro e w' ⟨rfl, rfl⟩))
      refine region_ext (by kernel_rfl) (by kernel_rfl) ?_
      repeat (first | ((first | refine skip_t rfl rfl rfl (by with_reducible rfl) ?_ | refine skip_f rfl rfl rfl (by with_reducible rfl) ?_ | refine skip_u rfl rfl rfl (by with_reducible rfl) ?_); simp only [Act.put, List.setIfInBounds_toArray, List.set_cons_zero, List.set_cons_succ]) | (apply quiet_take; (first | exact want_0 rfl | exact want_b rfl rfl rfl (by with_reducible rfl)); intro wq hwq R hR; (have hcc := (bcell hwq).1; (try simp only [World.size_alloc, World.size_setCell, World.size_drew, World.heap_drewN] at hcc); go_simp; first | exact hR | ((go_at_call 25; exact callq_same hwq (sizeOf_any _ _ g1 g2) hR))); simp only [Act.put, List.setIfInBounds_toArray, List.set_cons_zero, List.set_cons_succ]))
      refine wpQuiet_nil ?_
      intro w1 hw1
      obtain ⟨hcw1, hfw1⟩ := bcell hw1
      have hzw1 := bsize hw1
      (try simp only [World.size_alloc, World.size_setCell, World.size_drew, World.heap_drewN] at hcw1 hfw1 hzw1)
      go_wp2_with fail
      · go_ret
        rename_i h
        refine ⟨ret_int ?_, ?_⟩
        · rw [hc.out, if_neg (by rw [Int.tmod_eq_emod_of_nonneg g3] at h; simpa [szI] using h)]
        · refine Bel.bel (B := _) ?_
          (repeat (first | with_reducible assumption | with_reducible exact Bel.refl _ | with_reducible refine Bel.alloc ?_ _ | with_reducible refine Bel.drewN ?_ _ | with_reducible refine Bel.drew ?_ | (with_reducible refine Bel.setCell0 ?_ ?_ _; rotate_left; (first | omega | (simp; done) | (simp; omega))) | (with_reducible refine Bel.setCell ?_ (p := _) ?_ _; rotate_left; (first | (simp; done) | omega | (simp; omega))) | refine Bel.call ?_ (by assumption) | (refine EX.bel ?_ (by assumption) ?_; rotate_left; (first | omega | (simp; omega)))))
      · go_ret
        rename_i h
        refine ⟨ret_int ?_, ?_⟩
        · rw [hc.out, if_pos (by rw [Int.tmod_eq_emod_of_nonneg g3] at h; simpa [szI] using h)]
        · refine Bel.bel (B := _) ?_
          (repeat (first | with_reducible assumption | with_reducible exact Bel.refl _ | with_reducible refine Bel.alloc ?_ _ | with_reducible refine Bel.drewN ?_ _ | with_reducible refine Bel.drew ?_ | (with_reducible refine Bel.setCell0 ?_ ?_ _; rotate_left; (first | omega | (simp; done) | (simp; omega))) | (with_reducible refine Bel.setCell ?_ (p := _) ?_ _; rotate_left; (first | (simp; done) | omega | (simp; omega))) | refine Bel.call ?_ (by assumption) | (refine EX.bel ?_ (by assumption) ?_; rotate_left; (first | omega | (simp; omega)))))
    · have e2 : within a 0 65535 = false := by simp [within]; omega
      have hc := Lib.hid (chk_3 (a := a) (l := l) (by omega))
      clear hl ha
      go_enter Tryd.func7, Tryd.ntmps7
      go_wp2_with (first | (go_at_call 24; refine (within_any _ _ _ _).mono ?_; rintro e w' ⟨rfl, rfl⟩))
      go_ret
      refine ⟨ret_int hc.out.symm, ?_⟩
      refine Bel.bel (B := _) ?_
      (repeat (first | with_reducible assumption | with_reducible exact Bel.refl _ | with_reducible refine Bel.alloc ?_ _ | with_reducible refine Bel.drewN ?_ _ | with_reducible refine Bel.drew ?_ | (with_reducible refine Bel.setCell0 ?_ ?_ _; rotate_left; (first | omega | (simp; done) | (simp; omega))) | (with_reducible refine Bel.setCell ?_ (p := _) ?_ _; rotate_left; (first | (simp; done) | omega | (simp; omega))) | refine Bel.call ?_ (by assumption) | (refine EX.bel ?_ (by assumption) ?_; rotate_left; (first | omega | (simp; omega)))))
  · have e1 : within l 0 16 = false := by simp [within]; omega
    have hc := Lib.hid (chk_3 (a := a) (l := l) (by omega))
    clear hl
    go_enter Tryd.func7, Tryd.ntmps7
    go_wp2_with (first | (go_at_call 24; refine (within_any _ _ _ _).mono ?_; rintro e w' ⟨rfl, rfl⟩))
    go_ret
    refine ⟨ret_int hc.out.symm, ?_⟩
    refine Bel.bel (B := _) ?_
    (repeat (first | with_reducible assumption | with_reducible exact Bel.refl _ | with_reducible refine Bel.alloc ?_ _ | with_reducible refine Bel.drewN ?_ _ | with_reducible refine Bel.drew ?_ | (with_reducible refine Bel.setCell0 ?_ ?_ _; rotate_left; (first | omega | (simp; done) | (simp; omega))) | (with_reducible refine Bel.setCell ?_ (p := _) ?_ _; rotate_left; (first | (simp; done) | omega | (simp; omega))) | refine Bel.call ?_ (by assumption) | (refine EX.bel ?_ (by assumption) ?_; rotate_left; (first | omega | (simp; omega)))))
def lastI (a l : Int) : Int := a + szI l - 1
def rightB (a l : Int) : Bool := chk a l == 0
def holdB (a l x : Int) : Bool := rightB a l && within x a (lastI a l)
theorem right_bd {a l : Int} (h : rightB a l = true) : 0 ≤ l ∧ l ≤ 16 ∧ 0 ≤ a ∧ a ≤ 65535 ∧ a % szI l = 0 := by
  have h0 : chk a l = 0 := by simpa [rightB] using h
  unfold chk at h0
  split at h0
  · omega
  · rename_i h1
    split at h0
    · rename_i h2; exact ⟨by omega, by omega, by omega, by omega, h2⟩
    · omega
theorem rightR_any (a l : Int) (w : World) :
    Calls Tryd.prog 28 #[.agg #[.int .i64 a, .int .i64 l]] w fun e w' => e = .returned (.bool (rightB a l)) ∧ Ext w w' := by
  go_enter Tryd.func28, Tryd.ntmps28
  go_wp2_with fail
  refine (checkPrefix_any a l _).mono ?_
  rintro e w1 ⟨rfl, hw1⟩
  obtain ⟨hcw1, hfw1⟩ := bcell hw1
  have hzw1 := bsize hw1
  (try simp only [World.size_alloc, World.size_setCell, World.size_drew, World.heap_drewN] at hcw1 hfw1 hzw1)
  go_wp2_with fail
  go_ret
  refine ⟨ret_bool rfl, Bel.bel (B := _) ?_⟩
  (repeat (first | with_reducible assumption | with_reducible exact Bel.refl _ | with_reducible refine Bel.alloc ?_ _ | with_reducible refine Bel.drewN ?_ _ | with_reducible refine Bel.drew ?_ | (with_reducible refine Bel.setCell0 ?_ ?_ _; rotate_left; (first | omega | (simp; done) | (simp; omega))) | (with_reducible refine Bel.setCell ?_ (p := _) ?_ _; rotate_left; (first | (simp; done) | omega | (simp; omega))) | refine Bel.call ?_ (by assumption) | (refine EX.bel ?_ (by assumption) ?_; rotate_left; (first | omega | (simp; omega)))))
end Go.Proofs.YtmkdihmmihpibaaDoor
namespace Go.Proofs.YtmkdihmmihpibaaDoor
open Go Go.RowKit Go.Proofs
set_option maxRecDepth 100000
theorem cellsAt_cons {w : World} {b off : Nat} {c : Value} {cs : List Value} (h : w.cell? ⟨b, off, none⟩ = some c) (hs : cellsAt w b (off + 1) cs) : cellsAt w b off (c :: cs) := by
  intro i hi
  match i with
  | 0 => simpa using h
  | i + 1 => have := hs i (by simpa using hi); simpa [Nat.add_assoc, Nat.add_comm 1 i] using this
theorem cellsAt_nil {w : World} {b off : Nat} : cellsAt w b off [] := fun i hi => absurd hi (by simp)
theorem right1 {w : World} {b : Nat} (a l : Int) (v : Bool) (hv : rightB a l = v) (h0 : w.cell? ⟨b, 0, none⟩ = some (.int .i64 a)) (h1 : w.cell? ⟨b, 1, none⟩ = some (.int .i64 l)) :
    Calls Tryd.prog 27 #[.slice (some ⟨b, 0, none⟩) 1 1] w fun e w' => e = .returned (.bool v) ∧ Ext w w' := by
  have h : Sl (fun _ => True) w 2 Pfx.R (some ⟨b, 0, none⟩) 1 [(⟨a, l⟩ : Pfx)] := by
    refine ⟨by simp, by omega, fun i hi => ?_⟩
    match i with
    | 0 => exact ⟨b, 0, _, rfl, trivial, rfl, rfl, cellsAt_cons h0 (cellsAt_cons h1 cellsAt_nil)⟩
  refine (right_any h).mono fun e w' hh => ⟨hh.1.trans (ret_bool ?_), hh.2⟩
  rw [← hv]; simp [rightB, Pfx.chk]
theorem right2 {w : World} {b : Nat} (a l c m : Int) (v : Bool) (hv : (rightB a l && rightB c m) = v) (h0 : w.cell? ⟨b, 0, none⟩ = some (.int .i64 a)) (h1 : w.cell? ⟨b, 1, none⟩ = some (.int .i64 l))
    (h2 : w.cell? ⟨b, 2, none⟩ = some (.int .i64 c)) (h3 : w.cell? ⟨b, 3, none⟩ = some (.int .i64 m)) :
    Calls Tryd.prog 27 #[.slice (some ⟨b, 0, none⟩) 2 2] w fun e w' => e = .returned (.bool v) ∧ Ext w w' := by
  have h : Sl (fun _ => True) w 2 Pfx.R (some ⟨b, 0, none⟩) 2 [(⟨a, l⟩ : Pfx), ⟨c, m⟩] := by
    refine ⟨by simp, by omega, fun i hi => ?_⟩
    match i with
    | 0 => exact ⟨b, 0, _, rfl, trivial, rfl, rfl, cellsAt_cons h0 (cellsAt_cons h1 cellsAt_nil)⟩
    | 1 => exact ⟨b, 0, _, rfl, trivial, rfl, rfl, cellsAt_cons h2 (cellsAt_cons h3 cellsAt_nil)⟩
  refine (right_any h).mono fun e w' hh => ⟨hh.1.trans (ret_bool ?_), hh.2⟩
  rw [← hv]; simp [rightB, Pfx.chk]
theorem bv_andnot (x y : BitVec 64) : (x &&& ~~~y).toNat = x.toNat - (x &&& y).toNat := by
  have h1 : (x &&& ~~~y) &&& (x &&& y) = 0#64 := by
    ext i hi
    simp only [BitVec.getElem_and, BitVec.getElem_not, BitVec.getElem_zero]
    cases x[i] <;> cases y[i] <;> rfl
  have h2 : (x &&& ~~~y) + (x &&& y) = x := by
    rw [BitVec.add_eq_or_of_and_eq_zero _ _ h1]
    ext i hi
    simp only [BitVec.getElem_and, BitVec.getElem_not, BitVec.getElem_or]
    cases x[i] <;> cases y[i] <;> rfl
  have h4 := BitVec.toNat_add_of_and_eq_zero h1
  rw [h2] at h4
  omega
theorem andnot_msk (a l : Int) (h0 : 0 ≤ a) (h1 : a ≤ 65535) (h2 : 0 ≤ l) : bits .andNot .i64 a (msk l) = a - a % szI l := by
  obtain ⟨n, rfl⟩ := Int.eq_ofNat_of_zero_le h0
  have hm := msk_bd l h2
  rw [msk_nat] at hm ⊢
  show IntKind.i64.wrap ((BitVec.ofInt 64 (n : Int) &&& ~~~ BitVec.ofInt 64 _).toNat : Int) = _
  rw [bv_andnot, BitVec.toNat_and, ofInt_i64 n (by omega), ofInt_i64 _ (by omega), Nat.and_two_pow_sub_one_eq_mod, IntKind.wrap_i64]
  have := Nat.mod_le n (2 ^ (16 - l).toNat)
  unfold szI
  have h9 : ((n : Int) % 2 ^ (16 - l).toNat) = ((n % 2 ^ (16 - l).toNat : Nat) : Int) := by simp
  omega
def sizeI (a l : Int) : Int := if rightB a l = true then szI l else 0
set_option maxHeartbeats 400000 in
theorem size_any (a l : Int) (w : World) :
    Calls Tryd.prog 10 #[.agg #[.int .i64 a, .int .i64 l]] w fun e w' => e = .returned (.int .i64 (sizeI a l)) ∧ Ext w w' := by
  cases hA : rightB a l
  case false =>
    have hs : sizeI a l = 0 := by simp [sizeI, hA]
    rw [hs]
    have hv := Lib.hid hA
    go_enter Tryd.func10, Tryd.ntmps10
    go_wp2_with (first | (go_at_call 27; refine (right1 a l _ hv.out ?_ ?_).mono ?_; go_simp; go_simp; rintro e w1 ⟨rfl, hw1⟩))
    go_ret
    refine ⟨rfl, Bel.bel (B := _) ?_⟩
    (repeat (first | with_reducible assumption | with_reducible exact Bel.refl _ | with_reducible refine Bel.alloc ?_ _ | with_reducible refine Bel.drewN ?_ _ | with_reducible refine Bel.drew ?_ | (with_reducible refine Bel.setCell0 ?_ ?_ _; rotate_left; (first | omega | (simp; done) | (simp; omega))) | (with_reducible refine Bel.setCell ?_ (p := _) ?_ _; rotate_left; (first | (simp; done) | omega | (simp; omega))) | refine Bel.call ?_ (by assumption) | (refine EX.bel ?_ (by assumption) ?_; rotate_left; (first | omega | (simp; omega)))))
  case true =>
    have hs : sizeI a l = msk l + 1 := by simp [sizeI, hA, msk, szI]
    rw [hs]
    have hv := Lib.hid hA
    obtain ⟨g1, g2, g3, g4, -⟩ := right_bd hA
    obtain ⟨z1, z2⟩ := msk_bd l g1
    go_enter Tryd.func10, Tryd.ntmps10
    go_wp2_with (first | (go_at_call 27; refine (right1 a l _ hv.out ?_ ?_).mono ?_; go_simp; go_simp; rintro e w1 ⟨rfl, hw1⟩; obtain ⟨hcw1, hfw1⟩ := bcell hw1; simp only [World.size_alloc] at hcw1 hfw1) | (go_at_call 26; refine (mask_any _ _ g1 g2).mono ?_; rintro e w2 ⟨rfl, rfl⟩))
    go_ret
    refine ⟨rfl, Bel.bel (B := _) ?_⟩
    (repeat (first | with_reducible assumption | with_reducible exact Bel.refl _ | with_reducible refine Bel.alloc ?_ _ | with_reducible refine Bel.drewN ?_ _ | with_reducible refine Bel.drew ?_ | (with_reducible refine Bel.setCell0 ?_ ?_ _; rotate_left; (first | omega | (simp; done) | (simp; omega))) | (with_reducible refine Bel.setCell ?_ (p := _) ?_ _; rotate_left; (first | (simp; done) | omega | (simp; omega))) | refine Bel.call ?_ (by assumption) | (refine EX.bel ?_ (by assumption) ?_; rotate_left; (first | omega | (simp; omega)))))
end Go.Proofs.YtmkdihmmihpibaaDoor
namespace Go.Proofs.YtmkdihmmihpibaaDoor
open Go Go.RowKit
section
variable {P : Program} {ops : Array Oper} {Q : Exit → Act → World → Prop}
/-- Whatever order is picked, from every world that extends W. -/
def GO (P : Program) (ops : Array Oper) (Q : Exit → Act → World → Prop) : Nat → Array Bool → Act → World → Prop
  | 0, listed, a, W => Region.ready .any ops listed = [] ∧ ∀ w, Ext W w → Q .normal a w
  | fuel + 1, listed, a, W => ∀ w, Ext W w → (Region.ready .any ops listed = [] → Q .normal a w) ∧
      ∀ i ∈ Region.ready .any ops listed, wpOp P ops Q i (fun a' w' => Ext w w' ∧ GO P ops Q fuel (listed.setIfInBounds i true) a' w') a w
theorem GO.world : ∀ {fuel : Nat} {listed : Array Bool} {a : Act} {W W' : World}, Ext W W' → GO P ops Q fuel listed a W → GO P ops Q fuel listed a W'
  | 0, _, _, _, _, hx, h => ⟨h.1, fun w hw => h.2 w (ext_trans hx hw)⟩
  | _ + 1, _, _, _, _, hx, h => fun w hw => h w (ext_trans hx hw)
theorem GO.any : ∀ {fuel : Nat} {listed : Array Bool} {a : Act} {W : World}, GO P ops Q fuel listed a W → wpAny P .any ops Q fuel listed a W
  | 0, _, _, _, h => ⟨h.1, h.2 _ (Below.refl _ _)⟩
  | _ + 1, _, _, W, h => ⟨(h W (Below.refl _ _)).1, fun i hi => wpOp_mono (fun _ _ h' => GO.any h'.2) ((h W (Below.refl _ _)).2 i hi)⟩
/-- In every world that extends W operation o yields v, and at most extends it. -/
def QY (P : Program) (ops : Array Oper) (W : World) (o : Oper) (v : Value) (a : Act) : Prop :=
  (Region.wanted o (yielded ops a.tmps) = true ∧ ∀ w, Ext W w → o.quietAt P a (Ext w) w v) ∨
  (Region.wanted o (yielded ops a.tmps) = false ∧ v = undef)
theorem QY.world {W W' : World} {o : Oper} {v : Value} {a : Act} (hx : Ext W W') (h : QY P ops W o v a) : QY P ops W' o v a :=
  h.imp (fun ⟨h1, h2⟩ => ⟨h1, fun w hw => h2 w (ext_trans hx hw)⟩) id
theorem QY.of_same {W : World} {o : Oper} {v : Value} {a a' : Act} (hy : QY P ops W o v a) (he : execOp a'.eval o = execOp a.eval o)
    (hw : Region.wanted o (yielded ops a'.tmps) = Region.wanted o (yielded ops a.tmps)) : QY P ops W o v a' := by
  unfold QY Oper.quietAt at *
  rw [he, hw]
  exact hy
theorem QY.wpOp {W : World} {i : Nat} {o : Oper} {v : Value} {a : Act} (hi : ops[i]? = some o) (hy : QY P ops W o v a) {K : Act → World → Prop} {w : World} (hw : Ext W w) (h : ∀ w', Ext w w' → K (a.put o.dst v) w') : wpOp P ops Q i K a w := by
  unfold Go.wpOp
  simp only [hi]
  rcases hy with ⟨hwa, hv⟩ | ⟨hwa, rfl⟩
  · simp only [hwa, if_true]
    left
    exact Oper.wp_of_quiet (C := Ext w) (K := fun a' => a' = a.put o.dst v) (Below.refl _ _) (fun a' w' hw' ha => ha ▸ h w' hw') ⟨v, fun w'' hw'' => by
      have := hv w'' (ext_trans hw hw'')
      unfold Oper.quietAt at *
      generalize (execOp a.eval o).run P w'' = r at *
      cases r with
      | ok n u => cases n <;> simp only [Oper.quietUpon] at this ⊢ <;> first | exact this | exact ⟨this.1, this.2.mono fun _ _ ⟨e1, e2⟩ => ⟨e1, ext_trans hw'' e2⟩⟩
      | halt x u => simp only [Oper.quietUpon] at this, rfl⟩
  · simp only [hwa, Bool.false_eq_true, if_false]
    exact h w (Below.refl _ _)
theorem wpOp_putQ {W : World} {j : Nat} {oi oj : Oper} {v : Value} (hj : ops[j]? = some oj) (hap : oi.apart ops oj = true)
    (hsi : ∀ cs b, oi.op ≠ .select cs b) (hsj : ∀ cs b, oj.op ≠ .select cs b)
    (hQ : ∀ c a w, Q (.panic c) (a.put oi.dst v) w → Q (.panic c) a w) {K : Act → World → Prop} {a : Act} {w : World}
    (hy : QY P ops W oi v a) (h : wpOp P ops Q j K (a.put oi.dst v) w) :
    wpOp P ops Q j (fun a' w' => QY P ops W oi v a' ∧ K (a'.put oi.dst v) w') a w := by
  obtain ⟨h1, h2, h3⟩ := Oper.apart_spec hap
  have keep : ∀ (a : Act), QY P ops W oi v a → ∀ u, QY P ops W oi v (a.put oj.dst u) := fun a hy u =>
    hy.of_same (execOp_put oi hsi a oj.dst u h3) (wanted_put oi a oj.dst u h3)
  have keepD : ∀ d, QY P ops W oi v { a with defers := d :: a.defers } := fun d => hy.of_same rfl rfl
  unfold wpOp at *
  simp only [hj] at *
  rw [wanted_put oj a oi.dst v h1] at h
  split
  · rename_i hw
    simp only [hw, if_true] at h
    rcases h with h | ⟨hasks, hlets⟩
    case inr => exact .inr ⟨by unfold Oper.asks at *; rw [execOp_put oj hsj a oi.dst v h1] at hasks; exact hasks, hlets⟩
    refine .inl ?_
    unfold Oper.wp at *
    rw [execOp_put oj hsj a oi.dst v h1] at h
    generalize (execOp a.eval oj).run P w = r at *
    cases r with
    | ok n w' =>
      cases n <;> simp only [Oper.upon] at h ⊢
      case value u => exact ⟨keep a hy u, by rw [← Act.put_comm a v u h2]; exact h⟩
      case skip => exact ⟨keep a hy _, by rw [← Act.put_comm a v undef h2]; exact h⟩
      case defer d =>
        refine ⟨keep _ (keepD d) _, ?_⟩
        rw [← Act.put_comm _ v undef h2, ← Act.put_defers]
        exact h
      case enter f args =>
        refine Calls.mono h fun e w'' he => ?_
        cases e with
        | returned u => exact ⟨keep a hy u, by rw [← Act.put_comm a v u h2]; exact he⟩
        | panicked c => exact hQ _ _ _ he
        | outgrown => exact he
      case row row args => exact Rows.mono h fun u w'' he => ⟨keep a hy u, by rw [← Act.put_comm a v u h2]; exact he⟩
    | halt x w' =>
      cases x <;> simp only [Oper.upon] at h ⊢
      case panic u => exact hQ _ _ _ h
  · rename_i hw
    simp only [hw] at h
    exact ⟨keep a hy _, by rw [← Act.put_comm a v undef h2]; exact h⟩
theorem GO_first {i : Nat} {oi : Oper} {v : Value} (hi : ops[i]? = some oi) (hsel : ∀ (j : Nat) (o : Oper) cs b, ops[j]? = some o → o.op ≠ .select cs b)
    (hQ : ∀ c a w, Q (.panic c) (a.put oi.dst v) w → Q (.panic c) a w) :
    ∀ (fuel : Nat) (listed : Array Bool) (a : Act) (W : World),
      (∀ j oj, ops[j]? = some oj → j ≠ i → listed.getD j true = false → (∀ e ∈ oj.after, Region.binds .any e = true → e.on ≠ i) → oi.apart ops oj = true) →
      i ∈ Region.ready .any ops listed → QY P ops W oi v a →
      GO P ops Q fuel (listed.setIfInBounds i true) (a.put oi.dst v) W → GO P ops Q (fuel + 1) listed a W := by
  intro fuel
  induction fuel with
  | zero =>
    intro listed a W _ hr hy H w hw
    refine ⟨fun h => (by rw [h] at hr; cases hr), fun j hj => ?_⟩
    by_cases hji : j = i
    · subst hji; exact hy.wpOp hi hw fun w' hw' => ⟨hw', H.world (ext_trans hw hw')⟩
    · have := ready_mono hj hji
      rw [H.1] at this
      cases this
  | succ fuel ih =>
    intro listed a W hfree hr hy H w hw
    refine ⟨fun h => (by rw [h] at hr; cases hr), fun j hj => ?_⟩
    by_cases hji : j = i
    · subst hji; exact hy.wpOp hi hw fun w' hw' => ⟨hw', H.world (ext_trans hw hw')⟩
    · have h1 := (H w hw).2 j (ready_mono hj hji)
      obtain ⟨hjun, oj, hoj, hall⟩ := mem_ready.1 hj
      have hnot : ∀ e ∈ oj.after, Region.binds .any e = true → e.on ≠ i := fun e he hb heq => by
        have h1 := hall e he hb
        have h0 := (mem_ready.1 hr).1
        rw [heq] at h1
        rcases Nat.lt_or_ge i listed.size with h' | h'
        · simp [h'] at h0 h1; rw [h0] at h1; cases h1
        · simp [Array.getElem?_eq_none h'] at h1
      have h2 := wpOp_putQ hoj (hfree j oj hoj hji hjun hnot) (fun cs b => hsel i oi cs b hi) (fun cs b => hsel j oj cs b hoj) hQ (hy.world hw) h1
      have hfree' : ∀ k ok, ops[k]? = some ok → k ≠ i → (listed.setIfInBounds j true).getD k true = false →
          (∀ e ∈ ok.after, Region.binds .any e = true → e.on ≠ i) → oi.apart ops ok = true := fun k ok hk hki hun hno => by
        refine hfree k ok hk hki ?_ hno
        by_cases hjk : j = k
        · subst hjk; exact hjun
        · rw [getD_set_ne true hjk] at hun; exact hun
      refine wpOp_mono (fun a' w' h3 => ⟨h3.2.1, ih (listed.setIfInBounds j true) a' w' hfree' (ready_mono hr (Ne.symm hji)) (h3.1.world h3.2.1) ?_⟩) h2
      rw [Array.setIfInBounds_comm _ _ hji]
      exact h3.2.2
/-- The walk in the order of the text. -/
def wpMix (P : Program) (ops : Array Oper) (Q : Exit → Act → World → Prop) : List Oper → Nat → Array Bool → Act → World → Prop
  | [], _, _, a, W => ∀ w, Ext W w → Q .normal a w
  | o :: rest, k, listed, a, W =>
    (∃ v, QY P ops W o v a ∧ wpMix P ops Q rest (k + 1) (listed.setIfInBounds k true) (a.put o.dst v) W) ∨
    (Region.ready .any ops listed = [k] ∧ Region.wanted o (yielded ops a.tmps) = true ∧ ∀ w, Ext W w → o.wp P a w (fun a' w' => Ext w w' ∧ wpMix P ops Q rest (k + 1) (listed.setIfInBounds k true) a' w') Q)
theorem mix_sound (hs : Region.noSelect ops = true) (hQ : ∀ c a d v w, Q (.panic c) (a.put d v) w → Q (.panic c) a w) : ∀ (l : List Oper) (k : Nat) (listed : Array Bool) (a : Act) (W : World), (∀ j, l[j]? = ops[k + j]?) →
    Region.lexFrom .any ops l.length k listed = true → wpMix P ops Q l k listed a W → GO P ops Q l.length listed a W
  | [], _, _, _, _, _, hB, h => ⟨by simpa [Region.lexFrom] using hB, h⟩
  | o :: l, k, listed, a, W, hl, hB, h => by
    have h0 : ops[k]? = some o := by simpa using (hl 0).symm
    simp only [List.length_cons, Region.lexFrom, Bool.and_eq_true] at hB
    obtain ⟨⟨hr, hf⟩, hB'⟩ := hB
    have hl' : ∀ j, l[j]? = ops[k + 1 + j]? := fun j => by have := hl (j + 1); simpa [Nat.add_assoc, Nat.add_comm 1 j] using this
    rcases h with ⟨v, hy, hK⟩ | ⟨hone, hwa, hK⟩
    · exact GO_first h0 (Region.noSelect_spec hs) (fun c a w => hQ c a _ _ w) l.length listed a W (Region.free_spec h0 hf) (by simpa using hr) hy (mix_sound hs hQ l (k + 1) _ _ _ hl' hB' hK)
    · intro w hw
      refine ⟨fun h => by rw [hone] at h; simp at h, fun i hi => ?_⟩
      rw [hone] at hi
      obtain rfl : i = k := by simpa using hi
      unfold wpOp
      simp only [h0, hwa, if_true]
      left
      exact Oper.wp_mono (fun a' w' h' => ⟨h'.1, mix_sound hs hQ l (i + 1) _ _ _ hl' hB' h'.2⟩) (hK w hw)
theorem region_mix {id : Nat} {a : Act} {w : World} {l : List Oper} (hm : P.follows .mixedOrders = true) (hB : Region.lexB .any l.toArray = true) (hQ : ∀ c a d v w, Q (.panic c) (a.put d v) w → Q (.panic c) a w)
    (h : wpMix P l.toArray Q l 0 (Array.replicate l.length false) a w) : (Code.region id l.toArray true).wp P Q a w := by
  simp only [Region.lexB, Bool.and_eq_true] at hB
  refine wp_region_any hm ?_
  have h2 := mix_sound hB.1 hQ l 0 (Array.replicate l.length false) a w (by simp) (by simpa using hB.2) h
  have h3 := (h2.world ((Below.refl _ _).drew : Ext w w.drew)).any
  simpa using h3
section
variable {o : Oper} {rest : List Oper} {k : Nat} {listed : Array Bool} {a : Act} {W : World}
theorem mix_nil (h : ∀ w, Ext W w → Q .normal a w) : wpMix P ops Q [] k listed a W := h
theorem mix_skip (hw : Region.wanted o (yielded ops a.tmps) = false) (hn : wpMix P ops Q rest (k + 1) (listed.setIfInBounds k true) (a.put o.dst undef) W) : wpMix P ops Q (o :: rest) k listed a W :=
  .inl ⟨undef, .inr ⟨hw, rfl⟩, hn⟩
theorem mix_skip_t {j d : Nat} {v : Value} (hg : o.guard = some (j, true)) (hd : (ops[j]?).bind (·.dst) = some d) (hv : a.tmps.toList[d]? = some v) (hb : v = .bool false) (hn : wpMix P ops Q rest (k + 1) (listed.setIfInBounds k true) (a.put o.dst undef) W) : wpMix P ops Q (o :: rest) k listed a W :=
  mix_skip (by simp [Region.wanted, hg, yields_bool hd hv hb]) hn
theorem mix_skip_f {j d : Nat} {v : Value} (hg : o.guard = some (j, false)) (hd : (ops[j]?).bind (·.dst) = some d) (hv : a.tmps.toList[d]? = some v) (hb : v = .bool true) (hn : wpMix P ops Q rest (k + 1) (listed.setIfInBounds k true) (a.put o.dst undef) W) : wpMix P ops Q (o :: rest) k listed a W :=
  mix_skip (by simp [Region.wanted, hg, yields_bool hd hv hb]) hn
theorem mix_skip_u {j d : Nat} {v : Value} {b : Bool} (hg : o.guard = some (j, b)) (hd : (ops[j]?).bind (·.dst) = some d) (hv : a.tmps.toList[d]? = some v) (hb : v = undef) (hn : wpMix P ops Q rest (k + 1) (listed.setIfInBounds k true) (a.put o.dst undef) W) : wpMix P ops Q (o :: rest) k listed a W :=
  mix_skip (by simp [Region.wanted, hg, yields_undef hd hv hb]) hn
theorem mix_take {v : Value} (hw : Region.wanted o (yielded ops a.tmps) = true) (h : ∀ w, Ext W w → ∀ R : Value → Prop, R v → qUp P w w R ((execOp a.eval o).run P w))
    (hn : wpMix P ops Q rest (k + 1) (listed.setIfInBounds k true) (a.put o.dst v) W) : wpMix P ops Q (o :: rest) k listed a W :=
  .inl ⟨v, .inl ⟨hw, fun w hw => qUp_quiet (h w hw)⟩, hn⟩
theorem mix_alone (hr : Region.ready .any ops listed = [k]) (hw : Region.wanted o (yielded ops a.tmps) = true)
    (h : ∀ w, Ext W w → ∀ K : Act → World → Prop, (∀ a' w', Ext w w' → wpMix P ops Q rest (k + 1) (listed.setIfInBounds k true) a' w' → K a' w') → o.wp P a w K Q) : wpMix P ops Q (o :: rest) k listed a W :=
  .inr ⟨hr, hw, fun w hw => h w hw _ fun _ _ h1 h2 => ⟨h1, h2⟩⟩
end
theorem mcall {f : FuncId} {args : Array Value} {w : World} {R : Value → Prop} {v : Value} (h : Calls P f args w fun e w' => e = .returned v ∧ Ext w w') (hR : R v) : Calls P f args w (qPost w R) :=
  h.mono fun _ _ ⟨he, hx⟩ => ⟨⟨v, he, hR⟩, hx⟩
theorem mcall_same {f : FuncId} {args : Array Value} {w : World} {R : Value → Prop} {v : Value} (h : Calls P f args w fun e w' => e = .returned v ∧ w = w') (hR : R v) : Calls P f args w (qPost w R) :=
  h.mono fun _ _ ⟨he, hx⟩ => ⟨⟨v, he, hR⟩, hx ▸ Below.refl _ _⟩
end
end Go.Proofs.YtmkdihmmihpibaaDoor
