/- Reading commands. -/
import Derived.Test.YtbebjifnhjlkiaaRead
import Derived.Test.YtbebjifnhjlkiaaWire7
namespace Go.Proofs.Ytbebjifnhjlkiaa
open Go Go.RowKit Go.Proofs Go.ChangeShapes Go.WideShapes Go.Deep
section
variable {H : Type} {enc : TypeId × Value → H} {w : World} {base : Nat} {spare : Nat → Bool} {held : Bool}
theorem Try.sizePrefix : Try.prog.cellsOf 23 = 2 := by kernel_rfl
theorem Try.sizeRule : Try.prog.cellsOf 25 = 4 := by kernel_rfl
theorem Try.sizeCmd : Try.prog.cellsOf 27 = 10 := by kernel_rfl
theorem Try.sizeInt : Try.prog.cellsOf 3 = 1 := by kernel_rfl
def PrefixR (cs : List Value) (p : Int × Int) : Prop := cs = [.int .i64 p.1, .int .i64 p.2] ∧ in64 p.1 ∧ in64 p.2
theorem rd_prefix : Rd enc Try.prog w base spare held 23 PrefixR := by
  intro fuel cs x hx
  have hl := rd_len Try.underlying23 hx
  rw [Try.sizePrefix] at hl
  obtain ⟨a, ha⟩ := rd_field Try.underlying23 hx 0 rfl (rd_int Try.underlying3)
  obtain ⟨b, hb⟩ := rd_field Try.underlying23 hx 1 rfl (rd_int Try.underlying3)
  match cs, hl with
  | [c0, c1], _ =>
    simp [Try.sizeInt, IntR] at ha hb
    exact ⟨(a, b), by simp [ha.1, hb.1], ha.2, hb.2⟩
theorem rd_rule : Rd enc Try.prog w base spare held 25 fun cs (r : Int × Int × Int × Int) => cs = [.int .i64 r.1, .int .i64 r.2.1, .int .i64 r.2.2.1, .int .i64 r.2.2.2] ∧ in64 r.1 ∧ in64 r.2.1 ∧ in64 r.2.2.1 ∧ in64 r.2.2.2 := by
  intro fuel cs x hx
  have hl := rd_len Try.underlying25 hx
  rw [Try.sizeRule] at hl
  obtain ⟨a, ha⟩ := rd_field Try.underlying25 hx 0 rfl (rd_int Try.underlying3)
  obtain ⟨b, hb⟩ := rd_field Try.underlying25 hx 1 rfl (rd_int Try.underlying3)
  obtain ⟨c, hc⟩ := rd_field Try.underlying25 hx 2 rfl (rd_int Try.underlying3)
  obtain ⟨d, hd⟩ := rd_field Try.underlying25 hx 3 rfl (rd_int Try.underlying3)
  match cs, hl with
  | [c0, c1, c2, c3], _ =>
    simp [Try.sizeInt, IntR] at ha hb hc hd
    exact ⟨(a, b, c, d), by simp [ha.1, hb.1, hc.1, hd.1], ha.2, hb.2, hc.2, hd.2⟩
theorem rd_cmd : Rd enc Try.prog w base spare held 27 Cmd.R := by
  intro fuel cs x hx
  have hl := rd_len Try.underlying27 hx
  rw [Try.sizeCmd] at hl
  obtain ⟨a, ha⟩ := rd_field Try.underlying27 hx 0 rfl (rd_int Try.underlying3)
  obtain ⟨b, hb⟩ := rd_field Try.underlying27 hx 1 rfl (rd_int Try.underlying3)
  obtain ⟨c, hc⟩ := rd_field Try.underlying27 hx 2 rfl (rd_int Try.underlying3)
  obtain ⟨d, hd⟩ := rd_field Try.underlying27 hx 3 rfl (rd_int Try.underlying3)
  obtain ⟨p, hp⟩ := rd_field Try.underlying27 hx 4 rfl rd_prefix
  obtain ⟨r, hr⟩ := rd_field Try.underlying27 hx 5 rfl rd_rule
  match cs, hl with
  | [c0, c1, c2, c3, c4, c5, c6, c7, c8, c9], _ =>
    simp [Try.sizeInt, Try.sizePrefix, Try.sizeRule, IntR, PrefixR] at ha hb hc hd hp hr
    exact ⟨⟨a, b, c, d, p.1, p.2, r.1, r.2.1, r.2.2.1, r.2.2.2⟩, by simp [Cmd.R, Cmd.cs, ha.1, hb.1, hc.1, hd.1, hp.1, hr.1]⟩
theorem rd_cmds : Rd enc Try.prog w base spare held 41 fun cs (l : List Cmd) => ∃ v, cs = [v] ∧ IsSl (inW w) w 10 Cmd.R v l :=
  rd_slice Try.underlying41 Try.sizeCmd rd_cmd
end
end Go.Proofs.Ytbebjifnhjlkiaa
