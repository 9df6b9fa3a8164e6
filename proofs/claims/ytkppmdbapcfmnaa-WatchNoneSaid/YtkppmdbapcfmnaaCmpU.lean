/- cmp.Compare of uint64. No condition. -/
import Derived.Test.YtkppmdbapcfmnaaCmpI
import Derived.Sort.Walk0
import Derived.Deep.QuietTactic
namespace Go.Proofs.Ytkppmdbapcfmnaa
open Go.ChangeShapes Go.WideShapes Go.ChangeAt Go.RowKit Go.Deep

theorem isNaNU (x : Int) (w : World) : Calls Try.prog 32 #[.int .u64 x] w fun e w' => e = .returned (.bool false) ∧ w' = w := by
  go_enter Try.func32, Try.ntmps32
  go_wp2
  go_ret
  exact ⟨ret_bool (by simp), rfl⟩

theorem compareU (x y : Int) (w : World) : Calls Try.prog 21 #[.int .u64 x, .int .u64 y] w fun e w' => e = .returned (.int .i64 (cfI x y)) ∧ w' = w := by
  have HN : Hid (∀ (z : Int) (w1 : World), _) := fun z w1 => isNaNU z w1
  have hU : Hid (cfI x y = if x < y then -1 else if y < x then 1 else 0) := rfl
  by_cases h : x < y
  · rw [if_pos h] at hU
    go_enter Try.func21, Try.ntmps21
    go_wp2_with (go_at_call 32; refine (HN.out _ _).mono ?_; rintro e w' ⟨rfl, rfl⟩)
    go_ret
    exact ⟨by rw [hU.out] <;> rfl, rfl⟩
  · by_cases h2 : y < x
    · rw [if_neg h, if_pos h2] at hU
      go_enter Try.func21, Try.ntmps21
      go_wp2_with (go_at_call 32; refine (HN.out _ _).mono ?_; rintro e w' ⟨rfl, rfl⟩)
      go_ret
      exact ⟨by rw [hU.out] <;> rfl, rfl⟩
    · rw [if_neg h, if_neg h2] at hU
      go_enter Try.func21, Try.ntmps21
      go_wp2_with (go_at_call 32; refine (HN.out _ _).mono ?_; rintro e w' ⟨rfl, rfl⟩)
      go_ret
      exact ⟨by rw [hU.out] <;> rfl, rfl⟩

end Go.Proofs.Ytkppmdbapcfmnaa
