/- cmp.Compare of ints. No condition. -/
import Derived.Test.YtkppmdbapcfmnaaDn
import Derived.Test.YtkppmdbapcfmnaaChecked
import Derived.Sort.Walk0
import Derived.Deep.QuietTactic
namespace Go.Proofs.Ytkppmdbapcfmnaa
open Go.ChangeShapes Go.WideShapes Go.ChangeAt Go.RowKit Go.Deep

theorem isNaNI (x : Int) (w : World) : Calls Try.prog 33 #[.int .i64 x] w fun e w' => e = .returned (.bool false) ∧ w' = w := by
  go_enter Try.func33, Try.ntmps33
  go_wp2
  go_ret
  exact ⟨ret_bool (by simp), rfl⟩

def cfI (x y : Int) : Int := if x < y then -1 else if y < x then 1 else 0

theorem compareI (x y : Int) (w : World) : Calls Try.prog 22 #[.int .i64 x, .int .i64 y] w fun e w' => e = .returned (.int .i64 (cfI x y)) ∧ w' = w := by
  have HN : Hid (∀ (z : Int) (w1 : World), _) := fun z w1 => isNaNI z w1
  have hU : Hid (cfI x y = if x < y then -1 else if y < x then 1 else 0) := rfl
  by_cases h : x < y
  · rw [if_pos h] at hU
    go_enter Try.func22, Try.ntmps22
    go_wp2_with (go_at_call 33; refine (HN.out _ _).mono ?_; rintro e w' ⟨rfl, rfl⟩)
    go_ret
    exact ⟨by rw [hU.out] <;> rfl, rfl⟩
  · by_cases h2 : y < x
    · rw [if_neg h, if_pos h2] at hU
      go_enter Try.func22, Try.ntmps22
      go_wp2_with (go_at_call 33; refine (HN.out _ _).mono ?_; rintro e w' ⟨rfl, rfl⟩)
      go_ret
      exact ⟨by rw [hU.out] <;> rfl, rfl⟩
    · rw [if_neg h, if_neg h2] at hU
      go_enter Try.func22, Try.ntmps22
      go_wp2_with (go_at_call 33; refine (HN.out _ _).mono ?_; rintro e w' ⟨rfl, rfl⟩)
      go_ret
      exact ⟨by rw [hU.out] <;> rfl, rfl⟩

end Go.Proofs.Ytkppmdbapcfmnaa
