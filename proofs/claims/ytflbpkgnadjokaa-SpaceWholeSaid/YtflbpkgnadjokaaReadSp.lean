/- Reading spaces. -/
import Derived.Test.YtflbpkgnadjokaaRead
import Derived.Test.YtflbpkgnadjokaaCidr1
namespace Go.Proofs.Ytflbpkgnadjokaa
open Go Go.RowKit Go.Proofs Go.ChangeShapes Go.WideShapes Go.Deep
section
variable {H : Type} {enc : TypeId × Value → H} {w : World} {base : Nat} {spare : Nat → Bool} {held : Bool}
theorem Try.sizePfx : Try.prog.cellsOf 23 = 2 := by kernel_rfl
theorem Try.sizeSpace : Try.prog.cellsOf 26 = 3 := by kernel_rfl
theorem Try.sizeInt1 : Try.prog.cellsOf 3 = 1 := by kernel_rfl
theorem Try.sizePfxs : Try.prog.cellsOf 24 = 1 := by kernel_rfl
theorem rd_pfx : Rd enc Try.prog w base spare held 23 Pfx.R := by
  intro fuel cs x hx
  have hl := rd_len Try.underlying23 hx
  rw [Try.sizePfx] at hl
  obtain ⟨a, ha⟩ := rd_field Try.underlying23 hx 0 rfl (rd_int Try.underlying3)
  obtain ⟨b, hb⟩ := rd_field Try.underlying23 hx 1 rfl (rd_int Try.underlying3)
  match cs, hl with
  | [c0, c1], _ =>
    simp [Try.sizeInt1, IntR] at ha hb
    exact ⟨⟨a, b⟩, by simp [Pfx.R, ha.1, hb.1]⟩
theorem rd_pfxs : Rd enc Try.prog w base spare held 24 fun cs (l : List Pfx) => ∃ v, cs = [v] ∧ IsSl (inW w) w 2 Pfx.R v l :=
  rd_slice Try.underlying24 Try.sizePfx rd_pfx
def SpaceR (w : World) (cs : List Value) (s : Pfx × List Pfx) : Prop := ∃ ao cap, cs = [.int .i64 s.1.at_, .int .i64 s.1.len, .slice ao s.2.length cap] ∧ Sl (inW w) w 2 Pfx.R ao cap s.2
theorem rd_space : Rd enc Try.prog w base spare held 26 (SpaceR w) := by
  intro fuel cs x hx
  have hl := rd_len Try.underlying26 hx
  rw [Try.sizeSpace] at hl
  obtain ⟨p, hp⟩ := rd_field Try.underlying26 hx 0 rfl rd_pfx
  obtain ⟨l, hu⟩ := rd_field Try.underlying26 hx 1 rfl rd_pfxs
  match cs, hl with
  | [c0, c1, c2], _ =>
    simp [Try.sizePfx, Try.sizePfxs, Pfx.R] at hp hu
    obtain ⟨ao, cap, rfl, hs⟩ := hu
    exact ⟨(p, l), ao, cap, by simp [hp.1, hp.2], hs⟩
end
end Go.Proofs.Ytflbpkgnadjokaa
