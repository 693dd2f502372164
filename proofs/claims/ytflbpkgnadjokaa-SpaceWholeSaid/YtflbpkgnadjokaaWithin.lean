/- The reference's within. -/
import Derived.Test.YtflbpkgnadjokaaBase
namespace Go.Proofs.Ytflbpkgnadjokaa
open Go Go.RowKit Go.Proofs
def within (n lo hi : Int) : Bool := decide (lo ≤ n) && decide (n ≤ hi)
theorem within_any (n lo hi : Int) (w : World) :
    Calls Try.prog 47 #[.int .i64 n, .int .i64 lo, .int .i64 hi] w fun e w' => e = .returned (.bool (within n lo hi)) ∧ w = w' := by
  by_cases h1 : lo ≤ n
  · by_cases h2 : n ≤ hi
    · have hr : within n lo hi = true := by simp [within, h1, h2]
      replace hr := Lib.hid hr
      go_enter Try.func47, Try.ntmps47
      go_wp2_with fail
      go_ret
      first | exact ⟨ret_bool hr.out.symm, rfl⟩ | exact ⟨rfl, rfl⟩
    · have hr : within n lo hi = false := by simp [within, h2]
      replace hr := Lib.hid hr
      go_enter Try.func47, Try.ntmps47
      go_wp2_with fail
      go_ret
      first | exact ⟨ret_bool hr.out.symm, rfl⟩ | exact ⟨rfl, rfl⟩
  · have hr : within n lo hi = false := by simp [within, h1]
    replace hr := Lib.hid hr
    go_enter Try.func47, Try.ntmps47
    go_wp2_with fail
    go_ret
    first | exact ⟨ret_bool hr.out.symm, rfl⟩ | exact ⟨rfl, rfl⟩
end Go.Proofs.Ytflbpkgnadjokaa
