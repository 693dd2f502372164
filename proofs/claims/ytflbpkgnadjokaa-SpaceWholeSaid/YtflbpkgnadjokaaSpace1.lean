/- space: meets; the trie. -/
import Derived.Test.YtflbpkgnadjokaaSlP2
import Derived.Test.YtflbpkgnadjokaaCidr3
import Derived.Test.YtflbpkgnadjokaaCidr4
namespace Go.Proofs.Ytflbpkgnadjokaa
open Go Go.RowKit Go.Proofs
def Pfx.meets (p q : Pfx) : Bool := meetP p.at_ p.len q.at_ q.len
theorem meets1_any (b : Nat) (p q : Pfx) (w : World) (h0 : w.cell? ⟨b, 0, none⟩ = some (.int .i64 p.at_)) (h1 : w.cell? ⟨b, 1, none⟩ = some (.int .i64 p.len)) :
    Calls Try.prog 49 #[.agg #[.int .i64 q.at_, .int .i64 q.len], .pointer (some ⟨b, 0, none⟩)] w fun e w' => e = .returned (.bool (p.meets q)) ∧ Ext w w' := by
  have hlt := lt_of_cell h0
  have hm := meets_any p.at_ p.len q.at_ q.len
  obtain ⟨r, hr⟩ : ∃ r, r = p.meets q := ⟨_, rfl⟩
  unfold Pfx.meets at hr
  rw [← hr] at hm
  unfold Pfx.meets
  rw [← hr]
  clear hr
  replace hm := Lib.hid hm
  go_enter Try.func49, Try.ntmps49
  go_wp2_with fail
  refine (hm.out _).mono ?_
  rintro e w1 ⟨rfl, hw1⟩
  obtain ⟨hcw1, hfw1⟩ := bcell hw1
  have hzw1 := bsize hw1
  (try simp only [World.size_alloc, World.size_setCell, World.size_drew, World.heap_drewN] at hcw1 hfw1 hzw1)
  go_wp2_with fail
  go_ret
  refine ⟨rfl, Bel.bel (B := _) ?_⟩
  (repeat (first | with_reducible assumption | with_reducible exact Bel.refl _ | with_reducible refine Bel.alloc ?_ _ | with_reducible refine Bel.drewN ?_ _ | with_reducible refine Bel.drew ?_ | (with_reducible refine Bel.setCell0 ?_ ?_ _; rotate_left; (first | omega | (simp; done) | (simp; omega))) | (with_reducible refine Bel.setCell ?_ (p := _) ?_ _; rotate_left; (first | (simp; done) | omega | (simp; omega))) | refine Bel.call ?_ (by assumption) | (refine EX.bel ?_ (by assumption) ?_; rotate_left; (first | omega | (simp; omega)))))
theorem pred_meets (b : Nat) (p : Pfx) (us : List Pfx) (w : World) (h0 : w.cell? ⟨b, 0, none⟩ = some (.int .i64 p.at_)) (h1 : w.cell? ⟨b, 1, none⟩ = some (.int .i64 p.len)) :
    PredP Try.prog 49 #[.pointer (some ⟨b, 0, none⟩)] Pfx.R (fun q => p.meets q) us w := by
  intro W hW x _ cs hR
  unfold Pfx.R at hR
  subst hR
  exact meets1_any b p x W (keepCell hW h0) (keepCell hW h1)
theorem spaceMeets_any {A : Area} (us : List Pfx) (uo : Option Addr) (ucap : Nat) (p : Pfx) (w : World) (h : Sl A w 2 Pfx.R uo ucap us) :
    Calls Try.prog 35 #[.slice uo us.length ucap, .agg #[.int .i64 p.at_, .int .i64 p.len]] w fun e w' => e = .returned (.bool (us.any fun q => p.meets q)) ∧ Ext w w' := by
  have hc := fun W (hs : Sl A W 2 Pfx.R uo ucap us) h0 h1 => containsFunc_P 49 #[.pointer (some ⟨w.heap.size, 0, none⟩)] (enters_of Try.func49 (by kernel_rfl) rfl) (fun q => p.meets q) us uo ucap W hs (pred_meets w.heap.size p us W h0 h1)
  obtain ⟨r, hr⟩ : ∃ r, r = us.any fun q => p.meets q := ⟨_, rfl⟩
  rw [← hr] at hc ⊢
  clear hr
  replace hc := Lib.hid hc
  go_enter Try.func35, Try.ntmps35
  go_wp2_with fail
  refine (hc.out _ (h.ext (ext_alloc _ _)) (by simp) (by simp)).mono ?_
  rintro e w1 ⟨rfl, hx1⟩
  go_wp2_with fail
  go_ret
  exact ⟨rfl, ext_trans (ext_alloc _ _) hx1⟩
end Go.Proofs.Ytflbpkgnadjokaa
