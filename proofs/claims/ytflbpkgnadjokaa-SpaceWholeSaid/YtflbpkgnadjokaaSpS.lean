/- slices.SortFunc at prefixes, by At. -/
import Derived.Test.YtflbpkgnadjokaaShelf
import Derived.Test.YtflbpkgnadjokaaHoles4
import Derived.Test.YtflbpkgnadjokaaSpace7
import Derived.Test.YtflbpkgnadjokaaMiy
namespace Go.Proofs.Ytflbpkgnadjokaa
open Go Go.RowKit Go.Proofs Go.Shelf
/-- A row of prefixes at the head of a block, free to be written. -/
structure Fl (w : World) (b cap : Nat) (l : List Pfx) : Prop where
  cap_le : l.length ≤ cap
  cap_max : cap ≤ 9223372036854775807
  at_ : ∀ i (h : i < l.length), w.cell? ⟨b, i * 2, none⟩ = some (.int .i64 l[i].at_)
  len : ∀ i (h : i < l.length), w.cell? ⟨b, i * 2 + 1, none⟩ = some (.int .i64 l[i].len)
  free : ∀ o, w.frozen? ⟨b, o, none⟩ = false
theorem Fl.sl {A : Area} {w : World} {b cap : Nat} {l : List Pfx} (h : Fl w b cap l) (hA : A b) : Sl A w 2 Pfx.R (some ⟨b, 0, none⟩) cap l := by
  refine ⟨h.cap_le, h.cap_max, fun i hi => ⟨b, 0, pcells l[i], rfl, hA, rfl, rfl, fun j hj => ?_⟩⟩
  match j, hj with
  | 0, _ => have := h.at_ i hi; simpa [pcells] using this
  | 1, _ => have := h.len i hi; simpa [pcells] using this
theorem fl_own {w : World} {base g cap n : Nat} {l : List Pfx} (h : w.ownsRow base 23 2 (.slice (some ⟨g, 0, none⟩) n cap) n (l.flatMap pcells)) (hn : n = l.length) : Fl w g cap l := by
  subst hn
  obtain ⟨ao, cap', e, hs⟩ := sl_own (A := fun _ => True) h rfl (fun _ _ => rfl) (fun _ _ => trivial)
  simp only [Value.slice.injEq, true_and] at e
  obtain ⟨rfl, rfl⟩ := e
  rcases h.2 with ⟨hv, _⟩ | ⟨g', cap', cur, hv, hg, hb, hc, hm, hsz, ht⟩
  · cases hv
  · simp only [Value.slice.injEq, Option.some.injEq, Addr.mk.injEq, and_true, true_and] at hv
    obtain ⟨rfl, rfl⟩ := hv
    refine ⟨hc, hm, fun i hi => ?_, fun i hi => ?_, fun o => free_of_block hb⟩
    · obtain ⟨b, off, cs, e1, -, -, e2, e3⟩ := hs.elem i hi
      simp only [Option.some.injEq, Addr.mk.injEq, and_true] at e1
      obtain ⟨rfl, rfl⟩ := e1
      subst e2
      have := e3 0 (by simp [pcells])
      simpa [pcells] using this
    · obtain ⟨b, off, cs, e1, -, -, e2, e3⟩ := hs.elem i hi
      simp only [Option.some.injEq, Addr.mk.injEq, and_true] at e1
      obtain ⟨rfl, rfl⟩ := e1
      subst e2
      have := e3 1 (by simp [pcells])
      simpa [pcells] using this
abbrev RP := {p : Pfx // p.right = true}
def encRP (x : RP) : List Value := pcells x.1
def cfRP (x y : RP) : Int := x.1.at_ - y.1.at_
theorem ltRP (x y : RP) : ltOf cfRP x y = decide (x.1.at_ < y.1.at_) := by
  unfold ltOf cfRP
  by_cases h : x.1.at_ < y.1.at_
  · simp [h]; omega
  · simp [h]; omega
theorem swoRP : Sort.SWO (ltOf cfRP) where
  irrefl x := by rw [ltRP]; simp
  trans x y z h1 h2 := by rw [ltRP] at *; simp at *; omega
  ntrans x y z h1 h2 := by rw [ltRP] at *; simp at *; omega
theorem closure_any (x y : RP) (W : World) : Calls Try.prog 38 #[.agg (encRP x).toArray, .agg (encRP y).toArray] W fun e w' => e = .returned (.int .i64 (cfRP x y)) ∧ ∃ q os', w' = Sort.grow (W.drewN q) os' := by
  obtain ⟨⟨a, l⟩, hx⟩ := x
  obtain ⟨⟨b, m⟩, hy⟩ := y
  obtain ⟨x1, x2, x3, x4, x5⟩ := Pfx.bd hx
  obtain ⟨y1, y2, y3, y4, y5⟩ := Pfx.bd hy
  simp only at x3 x4 y3 y4
  have hw : IntKind.i64.wrap (a - b) = a - b := IntWalk.i64_in _ (by omega)
  show Calls Try.prog 38 #[.agg #[.int .i64 a, .int .i64 l], .agg #[.int .i64 b, .int .i64 m]] W fun e w' => e = .returned (.int .i64 (a - b)) ∧ ∃ q os', w' = Sort.grow (W.drewN q) os'
  clear hx hy x1 x2 x5 y1 y2 y5
  go_enter Try.func38, Try.ntmps38
  go_wp2_with fail
  go_ret
  exact ⟨by first | rfl | (rw [hw]), 0, _, by rw [Sort.alloc_eq_grow, Sort.alloc_eq_grow, Sort.grow_grow]; rfl⟩
def SortOut (w : World) (g cap : Nat) (l : List Pfx) (e : Ending) (w' : World) : Prop :=
  e = .returned (.tuple #[]) ∧ ∃ l', l'.Perm l ∧ l'.Pairwise (fun x y => x.at_ ≤ y.at_) ∧ Fl w' g cap l' ∧ w.grownBy w' (some g)
theorem grownBy_sortK {w : World} {g n : Nat} {os : Array Obj} {α : Type} [Inhabited α] (enc : α → List Value) (k : Nat) (d : Array α) : w.grownBy (sortWorldK enc k w g 0 n d os) (some g) := by
  unfold sortWorldK Sort.putRowK
  refine ⟨rfl, rfl, rfl, by simp, fun k hk hne => ?_⟩
  rw [Sort.heap_grow_old _ _ (by simpa using hk)]
  have : g ≠ k := fun e => hne (by rw [e])
  simp [Sort.putRow, Sort.mapBlock, Sort.ahead, Array.getElem?_modify, this]
theorem sort_any (l : List Pfx) (g cap : Nat) (w : World) (hr : ∀ p ∈ l, p.right = true) (h : Fl w g cap l) (hg : g < w.heap.size) (hl : l.length ≤ 65536) :
    Calls Try.prog 37 #[.slice (some ⟨g, 0, none⟩) l.length cap, .func (.func 38) #[] #[]] w (SortOut w g cap l) := by
  have inh : Inhabited RP := ⟨⟨⟨0, 16⟩, by decide⟩⟩
  obtain ⟨d, hd⟩ : ∃ d : Array RP, d.toList.map Subtype.val = l := ⟨(l.pmap Subtype.mk hr).toArray, by simp [List.map_pmap]⟩
  have hdl : d.size = l.length := by rw [← hd]; simp
  have hdi : ∀ i (hi : i < d.size), d[i]!.1 = l[i]'(by omega) := by
    intro i hi
    subst hd
    rw [getElem!_pos d i hi]; simp
  have hH : Sort.HoldsK encRP 2 w g 0 d := by
    intro t ht
    rw [Sort.size_flatK] at ht
    refine ⟨?_, h.free _⟩
    rw [Sort.get_flatK _ _ _ _ ht]
    have ht2 : t / 2 < d.size := by omega
    unfold encRP
    rw [hdi _ ht2]
    rcases Nat.mod_two_eq_zero_or_one t with e | e
    · rw [e, show (0 + t : Nat) = t / 2 * 2 from by omega, h.at_ (t / 2) (by omega)]; rfl
    · rw [e, show (0 + t : Nat) = t / 2 * 2 + 1 from by omega, h.len (t / 2) (by omega)]; rfl
  have eg : ∀ args w, (callFunc 38 args).run Try.prog w = .ok (.enter 38 args) w := enters_of Try.func38 (by kernel_rfl) rfl
  have hcon := AnyQ.slices_SortFunc Try.sortP 2 Try.isAgg23 Try.sizeOf23 encRP (fun _ => rfl) (fun x v hv => by simp [encRP, pcells] at hv; rcases hv with rfl | rfl <;> rfl) cfRP swoRP 38 #[] g 0 cap d w eg (fun _ _ _ _ x y => closure_any x y _) hH hg (by omega)
  rw [hdl] at hcon
  refine Calls.mono hcon ?_
  rintro e w' ⟨rfl, d', n, os, ⟨hp1, -, hp⟩, hs, rfl⟩
  have hs' := holdsK_sortWorldK encRP 2 w g 0 n d d' os hg hH hp1
  have hdi' : ∀ i (hi : i < d'.size), d'[i]!.1 = (d'.toList.map Subtype.val)[i]'(by simpa using hi) := by
    intro i hi
    rw [getElem!_pos d' i hi]; simp
  refine ⟨rfl, d'.toList.map Subtype.val, ?_, ?_, ⟨by simp; have := h.cap_le; omega, h.cap_max, fun i hi => ?_, fun i hi => ?_, fun o => ?_⟩, grownBy_sortK _ _ _⟩
  · rw [← hd]
    refine List.Perm.map _ ?_
    rw [show l.length = d.size from hdl.symm] at hp
    rw [Array.extract_size] at hp
    rw [← hp1, Array.extract_size] at hp
    exact hp
  · rw [List.pairwise_iff_getElem]
    intro i j hi hj hij
    have hj' : j < d'.size := by simpa using hj
    have := hs i j (Nat.zero_le _) hij (by omega)
    rw [ltRP] at this
    rw [← hdi' i (by omega), ← hdi' j hj']
    simpa using this
  · have hi' : i < d'.size := by simpa using hi
    have := (hs'.cell (c := 0) hi' (by omega)).1
    rw [← hdi' i hi']
    simpa [encRP, pcells] using this
  · have hi' : i < d'.size := by simpa using hi
    have := (hs'.cell (c := 1) hi' (by omega)).1
    rw [← hdi' i hi']
    simpa [encRP, pcells] using this
  · have := h.free o
    show (Sort.grow (Sort.putRowK encRP 2 (Sort.ahead w n) g 0 d') os).frozen? _ = false
    rw [Sort.frozen?_grow _ _ _ (by show g < (Sort.putRowK encRP 2 (Sort.ahead w n) g 0 d').heap.size; simpa [Sort.putRowK] using hg), Sort.putRowK, Sort.frozen?_putRow]
    exact this
end Go.Proofs.Ytflbpkgnadjokaa
