/- choose. -/
import Derived.Test.YtflbpkgnadjokaaBase
import Derived.Test.YtflbpkgnadjokaaWithin
namespace Go.Proofs.Ytflbpkgnadjokaa
open Go Go.RowKit Go.Proofs
def absI (c : Int) : Int := if c < 0 then -(c + 1) else c
set_option maxHeartbeats 1000000 in
theorem choose_any (c n : Int) (w : World) (h1 : -9223372036854775808 ≤ c) (h2 : c ≤ 9223372036854775807) (hn : 0 < n) :
    Calls Try.prog 21 #[.int .i64 c, .int .i64 n] w fun e w' => e = .returned (.int .i64 (absI c % n)) ∧ w = w' := by
  by_cases hc : c < 0
  · have ha : absI c = -(c + 1) := by simp [absI, hc]
    rw [ha]
    go_enter Try.func21, Try.ntmps21
    go_wp2_with fail
    go_ret
    refine ⟨ret_int ?_, rfl⟩
    rw [← Int.neg_tmod, Int.tmod_eq_emod_of_nonneg (by omega)]
  · have ha : absI c = c := by simp [absI, hc]
    rw [ha]
    go_enter Try.func21, Try.ntmps21
    go_wp2_with fail
    go_ret
    exact ⟨ret_int rfl, rfl⟩
end Go.Proofs.Ytflbpkgnadjokaa
