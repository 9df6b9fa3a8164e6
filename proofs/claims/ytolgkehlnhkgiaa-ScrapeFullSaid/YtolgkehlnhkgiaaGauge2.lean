/- Contracts of math's IsNaN, IsInf and Abs at any word, and of gauge.Read. Condition: the word is of 64 bits. -/
import Derived.Test.YtolgkehlnhkgiaaGauge
import Derived.Test.YtolgkehlnhkgiaaGaugeDef
import Derived.Laws.FloatArith
namespace Go.Proofs.Ytolgkehlnhkgiaa
open Go.ChangeShapes Go.WideShapes Go.ChangeAt Go.RowKit Go.Deep

theorem isNaN_any (x : Nat) (w : World) : Calls Try.prog 34 #[.float .f64 x] w fun e w' => e = .returned (.bool (Ieee.double.order x x != some .eq)) ∧ w = w' := by
  go_enter Try.func34, Try.ntmps34
  go_wp2
  go_ret
  exact ⟨rfl, rfl⟩

theorem run_bits (b : Nat) (w : World) : (callFunc 54 #[.float .f64 b]).run Try.prog w = .ok (.value (.int .u64 b)) w := by kernel_rfl
theorem run_frombits (n : Nat) (w : World) : (callFunc 33 #[.int .u64 n]).run Try.prog w = .ok (.value (.float .f64 n)) w := by kernel_rfl

theorem low63 (x : Nat) (hx : x < 18446744073709551616) : bits .andNot .u64 (x : Int) 9223372036854775808 = ((x % 9223372036854775808 : Nat) : Int) := by
  have h := u64_andNot_nat x 9223372036854775808 hx (by decide)
  have e : x &&& (18446744073709551615 - 9223372036854775808) = x % 9223372036854775808 := Nat.and_two_pow_sub_one_eq_mod x 63
  rw [e] at h
  exact h

set_option maxRecDepth 100000 in
theorem abs_any (x : Nat) (w : World) (hx : x < 18446744073709551616) : Calls Try.prog 49 #[.float .f64 x] w fun e w' => e = .returned (.float .f64 (x % 9223372036854775808)) ∧ w = w' := by
  have h1 := run_bits x
  have h2 := low63 x hx
  obtain ⟨y, hy⟩ : ∃ y, x % 9223372036854775808 = y := ⟨_, rfl⟩
  rw [hy] at h2 ⊢
  have h3 := run_frombits y
  clear hy
  go_enter Try.func49, Try.ntmps49
  go_wp2
  go_ret
  exact ⟨rfl, rfl⟩

theorem isInf_any (x : Nat) (w : World) (hx : x < 18446744073709551616) : Calls Try.prog 35 #[.float .f64 x, .int .i64 0] w fun e w' => e = .returned (.bool (Ieee.double.order (x % 9223372036854775808) 9218868437227405311 == some .gt)) ∧ w = w' := by
  have HA := Lib.hid (abs_any x w hx)
  go_enter Try.func35, Try.ntmps35
  go_wp2_with fail
  refine HA.out.mono ?_
  rintro e w' ⟨rfl, rfl⟩
  go_wp2_with fail
  go_ret
  exact ⟨rfl, rfl⟩
end Go.Proofs.Ytolgkehlnhkgiaa
