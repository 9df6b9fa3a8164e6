/- The contract of gauge.Write. No condition. -/
import Derived.Test.YtjbmhmiaecakoaaWrite2
import Derived.Test.YtjbmhmiaecakoaaGaugeLives
namespace Go.Proofs.Ytjbmhmiaecakoaa
open Go.ChangeShapes Go.WideShapes Go.ChangeAt Go.RowKit Go.Deep

theorem float_nat (m : Nat) : floatOfInt .f64 (m : Int) = Ieee.double.nearest false m 0 := by
  unfold floatOfInt FloatKind.nearest FloatKind.encode
  have e : decide ((m : Int) < 0) = false := decide_eq_false (by omega)
  rw [e, Int.natAbs_natCast]
  rfl

theorem right_yes (m : Int) (w : World) (h1 : 0 ≤ m) (h2 : m ≤ 9007199254740992) : Calls Try.prog 60 #[.int .i64 m] w fun e w' => e = .returned (.bool true) ∧ w = w' := by
  have d1 : decide (0 ≤ m) = true := decide_eq_true h1
  have d2 : decide (m ≤ 9007199254740992) = true := decide_eq_true h2
  go_enter Try.func60, Try.ntmps60
  go_wp2
  go_ret
  exact ⟨rfl, rfl⟩

theorem right_no (m : Int) (w : World) (h : m < 0 ∨ 9007199254740992 < m) : Calls Try.prog 60 #[.int .i64 m] w fun e w' => e = .returned (.bool false) ∧ w = w' := by
  by_cases h1 : m < 0
  · have d1 : decide (0 ≤ m) = false := decide_eq_false (by omega)
    clear h
    go_enter Try.func60, Try.ntmps60
    go_wp2
    go_ret
    exact ⟨rfl, rfl⟩
  · have d1 : decide (0 ≤ m) = true := decide_eq_true (by omega)
    have d2 : decide (m ≤ 9007199254740992) = false := decide_eq_false (by omega)
    have h2 : 0 ≤ m := by omega
    clear h h1
    go_enter Try.func60, Try.ntmps60
    go_wp2
    go_ret
    exact ⟨rfl, rfl⟩

theorem write_bad (m : Int) (w : World) (h : m < 0 ∨ 9007199254740992 < m) : Calls Try.prog 18 #[.int .i64 m] w fun e w' => e = .returned (.tuple #[.int .u64 0, .int .i64 1]) ∧ w = w' := by
  have HR := Lib.hid (right_no m w h)
  go_enter Try.func18, Try.ntmps18
  go_wp2_with fail
  refine HR.out.mono ?_
  rintro e w1 ⟨rfl, rfl⟩
  go_wp2_with fail
  go_ret2
  exact ⟨rfl, rfl⟩

theorem write_good (m x : Nat) (w : World) (h : m ≤ 9007199254740992) (hx : Ieee.double.div (Ieee.double.nearest false m 0) 4652007308841189376 = some x) :
    Calls Try.prog 18 #[.int .i64 m] w fun e w' => e = .returned (.tuple #[.int .u64 x, .int .i64 0]) ∧ w = w' := by
  have HR := Lib.hid (right_yes m w (by omega) (by omega))
  have hf := float_nat m
  obtain ⟨y, hy⟩ : ∃ y, Ieee.double.nearest false m 0 = y := ⟨_, rfl⟩
  rw [hy] at hf hx
  have hq : ∀ w, _ := fun w => run_float_arith (P := Try.prog) w .quo 124 .f64 y 4652007308841189376 x hx
  have hb := run_bits x
  clear hy hx
  go_enter Try.func18, Try.ntmps18
  go_wp2_with fail
  refine HR.out.mono ?_
  rintro e w1 ⟨rfl, rfl⟩
  go_wp2_with fail
  go_ret2
  exact ⟨rfl, rfl⟩

theorem div_zero : Ieee.double.div (Ieee.double.nearest false 0 0) 4652007308841189376 = some 0 := by decide +kernel
theorem div_top : Ieee.double.div (Ieee.double.nearest false 9007199254740992 0) 4652007308841189376 = some 4800945289168005628 := by decide +kernel
end Go.Proofs.Ytjbmhmiaecakoaa
