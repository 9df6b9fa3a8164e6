/- The contract of label's sign. No condition. -/
import Derived.Test.YtmoeddpbmclckaaRows
import Derived.Test.YtmoeddpbmclckaaBase
import Derived.Test.YtmoeddpbmclckaaList
namespace Go.Proofs.Ytmoeddpbmclckaa
open Go.ChangeShapes Go.WideShapes Go.ChangeAt Go.RowKit Go.Deep

def signOf (c : Int) : Bool := (decide (97 ≤ c) && decide (c ≤ 122)) || (decide (48 ≤ c) && decide (c ≤ 57)) || decide (c = 45)

theorem sign_any (c : Int) (w : World) : Calls Try.prog 55 #[.int .u8 c] w fun e w' => e = .returned (.bool (signOf c)) ∧ w' = w := by
  go_enter Try.func55, Try.ntmps55
  go_wp2
  all_goals
    go_ret
    exact ⟨ret_bool (by unfold signOf; rw [Bool.eq_iff_iff]; simp; omega), rfl⟩
end Go.Proofs.Ytmoeddpbmclckaa
