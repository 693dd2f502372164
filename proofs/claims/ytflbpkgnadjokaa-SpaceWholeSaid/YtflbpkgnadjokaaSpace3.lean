/- space: walk: an iterator value. -/
import Derived.Test.YtflbpkgnadjokaaSpace2
namespace Go.Proofs.Ytflbpkgnadjokaa
open Go Go.RowKit Go.Proofs Go.Shelf
attribute [local go_sem] Oper.semAt_some
theorem walk_any (p : Pfx) (uo : Option Addr) (k ucap : Nat) (w : World) :
    Calls Try.prog 24 #[p.v, .slice uo k ucap] w fun e w' => e = .returned (.func (.func 43) #[] #[.pointer (some ⟨w.heap.size, 0, none⟩), .pointer (some ⟨w.heap.size + 1, 0, none⟩)]) ∧
      w' = (w.alloc (.cells #[.int .i64 p.at_, .int .i64 p.len] 23)).alloc (.cells #[.slice uo k ucap] 24) := by
  unfold Pfx.v
  go_enter Try.func24, Try.ntmps24
  go_wp2_with fail
  go_ret
  exact ⟨rfl, rfl⟩
theorem abides_ext {β : Type} {B : Nat} {J : β → World → Prop} (h : AbidesFrom B J) : ∀ s X Y, J s X → Ext X Y → J s Y := fun s X Y hj hx =>
  h s X Y none hj ⟨hx.os, hx.tape, hx.output, hx.size, fun b hb _ => hx.block b hb⟩ (fun r e => by cases e)
/-- What a round keeps: own blocks apart, all cells; and G, what says which blocks are own. -/
def KG (own : World → Nat → Prop) (G : World → Prop) (W W' : World) : Prop := G W → KP own W W' ∧ G W'
set_option maxHeartbeats 1000000 in
set_option maxRecDepth 100000 in
theorem walk1_in (own : World → Nat → Prop) (G : World → Prop) (l n₀ b1 b2 : Nat) (us : List Pfx) (uo : Option Addr) (ucap : Nat) (p : Pfx) (n : Nat) (hn : 16 - p.len = (n : Int)) (hr : p.right = true) (J Jx : List Pfx → World → Prop)
    (m : Nat) (hL : LoopOK own n₀ (holesF us n p).length l J Jx) (W : World) (c0 : W.cell? ⟨b1, 0, none⟩ = some (.int .i64 p.at_)) (c1 : W.cell? ⟨b1, 1, none⟩ = some (.int .i64 p.len)) (c2 : W.cell? ⟨b2, 0, none⟩ = some (.slice uo us.length ucap))
    (hs : Sl (fun b => b < n₀) W 2 Pfx.R uo ucap us) (h0 : J [] W) :
    CallsIn Fence.wide m Try.prog 43 #[.func (.yield l) #[] #[], .pointer (some ⟨b1, 0, none⟩), .pointer (some ⟨b2, 0, none⟩)] W fun e W' => (∃ v, e = .returned v) ∧
      ((∃ ys, ys = holesF us n p ∧ J ys W') ∨ (∃ pre, pre <+: holesF us n p ∧ Jx pre W')) := by
  have hd := down_in own l n₀ (holesF us n p).length us uo ucap J Jx hL n p (m - 1) [] W hn hr hs h0 (by simp)
  simp only [Pfx.v] at hd
  replace hd := Lib.hid hd
  clear hL hn hr
  refine callsIn_of_wp Try.func43 rfl trivial ?_ rfl
  simp only [Try.ntmps43, List.size_toArray, List.length_cons, List.length_nil, Nat.reduceAdd, Nat.reduceSub, Array.replicate_succ, Array.replicate_zero, List.push_toArray, List.append_toArray, List.nil_append, List.cons_append]
  gi_wp2_with fail
  refine ⟨trivial, fun h => (by cases h), ?_⟩
  refine hd.out.mono ?_
  rintro e w1 (⟨rfl, hj, hk⟩ | ⟨rfl, q, hq, hx⟩)
  · gi_wp2_with fail
    go_end0
    exact ⟨⟨_, rfl⟩, .inl ⟨_, rfl, by simpa using hj⟩⟩
  · gi_wp2_with fail
    go_end0
    exact ⟨⟨_, rfl⟩, .inr ⟨q, hq, by simpa using hx⟩⟩
theorem walk_stops (own : World → Nat → Prop) (G : World → Prop) (m n₀ b1 b2 : Nat) (us : List Pfx) (uo : Option Addr) (ucap : Nat) (p : Pfx) (n : Nat) (hn : 16 - p.len = (n : Int)) (hr : p.right = true) (w : World)
    (hG0 : G w) (hG1 : ∀ A b, G A → own A b → n₀ ≤ b ∧ b < A.heap.size) (hG2 : ∀ A B b, G A → Ext A B → own B b → own A b) (hG3 : ∀ A B, G A → Ext A B → G B)
    (c0 : w.cell? ⟨b1, 0, none⟩ = some (.int .i64 p.at_)) (c1 : w.cell? ⟨b1, 1, none⟩ = some (.int .i64 p.len)) (c2 : w.cell? ⟨b2, 0, none⟩ = some (.slice uo us.length ucap))
    (hs : Sl (fun b => b < n₀) w 2 Pfx.R uo ucap us) :
    SeqStopsK Fence.wide m Try.prog 43 #[.pointer (some ⟨b1, 0, none⟩), .pointer (some ⟨b2, 0, none⟩)] (fun x : Pfx => #[x.v]) (KG own G) (fun ys => ys = holesF us n p) (fun pre => pre <+: holesF us n p) (holesF us n p).length w := by
  intro l J Jx W hW hJ hJx hY h0
  have hL : LoopOK own n₀ (holesF us n p).length l (fun s A => J s A ∧ G A) Jx := by
    refine ⟨fun s A B h hx => ⟨abides_ext hJ s A B h.1 hx, hG3 A B h.2 hx⟩, fun s A B h hx => abides_ext hJx s A B h hx, fun s A b h ho => hG1 A b h.2 ho, fun s A B b h hx ho => hG2 A B b h.2 hx ho, fun m' pre x W1 h hl => ?_⟩
    refine YieldAt.mono (YieldAt.anyDepth rfl m' (hY pre x W1 h.1 hl)) fun e W2 h2 => ?_
    rcases h2 with ⟨he, hj, hk⟩ | h2
    · exact .inl ⟨he, ⟨hj, (hk h.2).2⟩, (hk h.2).1⟩
    · exact .inr h2
  refine (walk1_in own G l n₀ b1 b2 us uo ucap p n hn hr (fun s A => J s A ∧ G A) Jx m hL W (keepCell hW c0) (keepCell hW c1) (keepCell hW c2) (hs.ext hW) ⟨h0, hG3 _ _ hG0 hW⟩).mono ?_
  rintro e W' ⟨hv, ⟨ys, hy, hj⟩ | h⟩
  · exact ⟨hv, .inl ⟨ys, hy, hj.1⟩⟩
  · exact ⟨hv, .inr h⟩
end Go.Proofs.Ytflbpkgnadjokaa
