/- What a sample's quantity is. No condition. || Contracts of math's IsNaN, IsInf and Abs at any word, and of gauge.Read. Condition: the word is of 64 bits. || The contracts of wide.Of at small factors, and of gauge.Read. Condition: the word is of 64 bits. -/
import Derived.Test.YtojealgjfbjnoaaFloat
import Derived.Test.YtojealgjfbjnoaaGaugeM
import Derived.Laws.FloatArith
namespace Go.Proofs.Ytojealgjfbjnoaa

/-- A quotient, to the nearest, of two to the even one. -/
def quoR (up down : Nat) : Nat := if down < up % down + up % down ∨ (up % down + up % down = down ∧ up / down % 2 = 1) then up / down + 1 else up / down

def quoOf (q : Nat) : Nat × Int := if 9007199254740992 < q then (0, 3) else (q, 0)

def refOf (x : Nat) : Nat × Int :=
  if expo x = 2047 ∧ frac x ≠ 0 then (0, 2) else if x = 9223372036854775808 then (0, 0) else if expo x = 2047 ∨ 9223372036854775808 ≤ x then (0, 3)
  else if expo x < 1075 then quoOf (quoR ((if expo x = 0 then frac x else frac x + 4503599627370496) * 1000) (2 ^ (1075 - (if expo x = 0 then 1 else expo x))))
  else quoOf (quoR ((frac x + 4503599627370496) * 1000 * 2 ^ (expo x - 1075)) 1)
end Go.Proofs.Ytojealgjfbjnoaa
namespace Go.Proofs.Ytojealgjfbjnoaa
open Go.ChangeShapes Go.WideShapes Go.ChangeAt Go.RowKit Go.Deep

theorem isNaN_any (x : Nat) (w : World) : Calls Try.prog 51 #[.float .f64 x] w fun e w' => e = .returned (.bool (Ieee.double.order x x != some .eq)) ∧ w = w' := by
  go_enter Try.func51, Try.ntmps51
  go_wp2
  go_ret
  exact ⟨rfl, rfl⟩

theorem run_bits (b : Nat) (w : World) : (callFunc 67 #[.float .f64 b]).run Try.prog w = .ok (.value (.int .u64 b)) w := by kernel_rfl
theorem run_frombits (n : Nat) (w : World) : (callFunc 50 #[.int .u64 n]).run Try.prog w = .ok (.value (.float .f64 n)) w := by kernel_rfl

theorem low63 (x : Nat) (hx : x < 18446744073709551616) : bits .andNot .u64 (x : Int) 9223372036854775808 = ((x % 9223372036854775808 : Nat) : Int) := by
  have h := u64_andNot_nat x 9223372036854775808 hx (by decide)
  have e : x &&& (18446744073709551615 - 9223372036854775808) = x % 9223372036854775808 := Nat.and_two_pow_sub_one_eq_mod x 63
  rw [e] at h
  exact h

set_option maxRecDepth 100000 in
theorem abs_any (x : Nat) (w : World) (hx : x < 18446744073709551616) : Calls Try.prog 62 #[.float .f64 x] w fun e w' => e = .returned (.float .f64 (x % 9223372036854775808)) ∧ w = w' := by
  have h1 := run_bits x
  have h2 := low63 x hx
  obtain ⟨y, hy⟩ : ∃ y, x % 9223372036854775808 = y := ⟨_, rfl⟩
  rw [hy] at h2 ⊢
  have h3 := run_frombits y
  clear hy
  go_enter Try.func62, Try.ntmps62
  go_wp2
  go_ret
  exact ⟨rfl, rfl⟩

theorem isInf_any (x : Nat) (w : World) (hx : x < 18446744073709551616) : Calls Try.prog 52 #[.float .f64 x, .int .i64 0] w fun e w' => e = .returned (.bool (Ieee.double.order (x % 9223372036854775808) 9218868437227405311 == some .gt)) ∧ w = w' := by
  have HA := Lib.hid (abs_any x w hx)
  go_enter Try.func52, Try.ntmps52
  go_wp2_with fail
  refine HA.out.mono ?_
  rintro e w' ⟨rfl, rfl⟩
  go_wp2_with fail
  go_ret
  exact ⟨rfl, rfl⟩
end Go.Proofs.Ytojealgjfbjnoaa
namespace Go.Proofs.Ytojealgjfbjnoaa
open Go.ChangeShapes Go.WideShapes Go.ChangeAt Go.RowKit Go.Deep

theorem and32 (x : Nat) (hx : x < 18446744073709551616) : bits .and .u64 (x : Int) 4294967295 = ((x % 4294967296 : Nat) : Int) := and_low x 32 hx (by decide)

set_option maxHeartbeats 1000000 in
theorem mul64_one (x : Nat) (w : World) (hx : x < 9223372036854775808) :
    Calls Try.prog 61 #[.int .u64 x, .int .u64 1] w fun e w' => e = .returned (.tuple #[.int .u64 0, .int .u64 x]) ∧ w = w' := by
  have h1 := and32 x (by omega)
  have hq : (x : Int) / 4294967296 = ((x / 4294967296 : Nat) : Int) := by omega
  have hdm : x = 4294967296 * (x / 4294967296) + x % 4294967296 := by omega
  have hb : x / 4294967296 < 2147483648 := by omega
  have hbl : x % 4294967296 < 4294967296 := by omega
  obtain ⟨a, ha⟩ : ∃ a, x % 4294967296 = a := ⟨_, rfl⟩
  obtain ⟨b, hb'⟩ : ∃ b, x / 4294967296 = b := ⟨_, rfl⟩
  rw [ha] at h1 hdm hbl
  rw [hb'] at hq hdm hb
  have Hdm := Lib.hid hdm
  clear ha hb' hdm
  have h2 : bits .and .u64 1 4294967295 = 1 := and32 1 (by decide)
  have h3 := and32 b (by omega)
  rw [show b % 4294967296 = b from by omega] at h3
  have h4 : (a : Int) / 4294967296 = 0 := by omega
  have h5 : (b : Int) / 4294967296 = 0 := by omega
  go_enter Try.func61, Try.ntmps61
  go_wp2
  go_ret2
  exact ⟨rfl, rfl⟩

set_option maxHeartbeats 1000000 in
theorem mul64_two (x : Nat) (w : World) (hx : x < 9223372036854775808) :
    Calls Try.prog 61 #[.int .u64 x, .int .u64 2] w fun e w' => e = .returned (.tuple #[.int .u64 0, .int .u64 ((x : Int) * 2)]) ∧ w = w' := by
  have h1 := and32 x (by omega)
  have hq : (x : Int) / 4294967296 = ((x / 4294967296 : Nat) : Int) := by omega
  have hdm : x = 4294967296 * (x / 4294967296) + x % 4294967296 := by omega
  have hb : x / 4294967296 < 2147483648 := by omega
  have hbl : x % 4294967296 < 4294967296 := by omega
  obtain ⟨a, ha⟩ : ∃ a, x % 4294967296 = a := ⟨_, rfl⟩
  obtain ⟨b, hb'⟩ : ∃ b, x / 4294967296 = b := ⟨_, rfl⟩
  rw [ha] at h1 hdm hbl
  rw [hb'] at hq hdm hb
  have Hdm := Lib.hid hdm
  clear ha hb' hdm
  have h2 : bits .and .u64 2 4294967295 = 2 := and32 2 (by decide)
  obtain ⟨c, hc⟩ : ∃ c, a * 2 / 4294967296 = c := ⟨_, rfl⟩
  have h4 : (a : Int) * 2 / 4294967296 = (c : Int) := by omega
  have hc2 : c < 2 := by omega
  obtain ⟨d, hd⟩ : ∃ d, b * 2 + c = d := ⟨_, rfl⟩
  have h6 : (b : Int) * 2 + (c : Int) = (d : Int) := by omega
  have hd2 : d < 4294967296 := by omega
  have h3 := and32 d (by omega)
  rw [show d % 4294967296 = d from by omega] at h3
  have h5 : (d : Int) / 4294967296 = 0 := by omega
  clear hc hd
  go_enter Try.func61, Try.ntmps61
  go_wp2
  go_ret2
  exact ⟨rfl, rfl⟩

set_option maxRecDepth 100000 in
theorem wideOf_one (x : Nat) (w : World) (hx : x < 9223372036854775808) :
    Calls Try.prog 48 #[.int .u64 x, .int .u64 1] w fun e w' => e = .returned (.agg #[.int .u64 0, .int .u64 x]) ∧ Below w.heap.size w w' := by
  go_enter Try.func48, Try.ntmps48
  go_wp2_with fail
  refine (mul64_one x _ hx).mono ?_
  rintro e w1 ⟨rfl, rfl⟩
  go_wp2_with fail
  exact bodyPost_ret (v := .agg #[.int .u64 0, .int .u64 x]) (by simp [results, Try.results48, go_sem]) rfl ⟨rfl, (Below.refl _ _).alloc (Nat.le_refl _) _⟩

set_option maxRecDepth 100000 in
theorem wideOf_two (x : Nat) (w : World) (hx : x < 9223372036854775808) :
    Calls Try.prog 48 #[.int .u64 x, .int .u64 2] w fun e w' => e = .returned (.agg #[.int .u64 0, .int .u64 ((x : Int) * 2)]) ∧ Below w.heap.size w w' := by
  go_enter Try.func48, Try.ntmps48
  go_wp2_with fail
  refine (mul64_two x _ hx).mono ?_
  rintro e w1 ⟨rfl, rfl⟩
  go_wp2_with fail
  exact bodyPost_ret (v := .agg #[.int .u64 0, .int .u64 ((x : Int) * 2)]) (by simp [results, Try.results48, go_sem]) rfl ⟨rfl, (Below.refl _ _).alloc (Nat.le_refl _) _⟩

/-! ### gauge.Read -/

/-- The five tests of a word. -/
structure Tests (x : Nat) (nan inf neg top zero : Bool) : Prop where
  nan : (Ieee.double.order x x != some .eq) = nan
  inf : (Ieee.double.order (x % 9223372036854775808) 9218868437227405311 == some .gt) = inf
  neg : (Go.FloatKind.f64.format.order x 0 == some .lt) = neg
  top : (Go.FloatKind.f64.format.order x 4845873199050653696 == some .gt) = top
  zero : (Go.FloatKind.f64.format.order x 0 == some .eq) = zero

set_option maxRecDepth 100000 in
set_option maxHeartbeats 1000000 in
theorem read_early (x : Nat) (w : World) (hx : x < 18446744073709551616) (a b c d f : Bool) (r : Int) (hT : Tests x a b c d f)
    (h : (a = true ∧ r = 2) ∨ (a = false ∧ (b = true ∨ (b = false ∧ (c = true ∨ (c = false ∧ d = true)))) ∧ r = 3) ∨ (a = false ∧ b = false ∧ c = false ∧ d = false ∧ f = true ∧ r = 0)) :
    Calls Try.prog 34 #[.int .u64 x] w fun e w' => e = .returned (.tuple #[.int .i64 0, .int .i64 r]) ∧ w = w' := by
  have hF := run_frombits x
  have hN := isNaN_any x w
  rw [hT.nan] at hN
  have hI := isInf_any x w hx
  rw [hT.inf] at hI
  have HN := Lib.hid hN
  have HI := Lib.hid hI
  have h3 := hT.neg
  have h4 := hT.top
  have h5 := hT.zero
  clear hN hI hT
  rcases h with ⟨rfl, rfl⟩ | ⟨rfl, hh, rfl⟩ | ⟨rfl, rfl, rfl, rfl, rfl, rfl⟩
  · go_enter Try.func34, Try.ntmps34
    go_wp2_with fail
    refine HN.out.mono ?_
    rintro e w1 ⟨rfl, rfl⟩
    go_wp2_with fail
    go_ret2
    exact ⟨rfl, rfl⟩
  · rcases hh with rfl | ⟨rfl, rfl | ⟨rfl, rfl⟩⟩
    all_goals
      go_enter Try.func34, Try.ntmps34
      go_wp2_with fail
      refine HN.out.mono ?_
      rintro e w1 ⟨rfl, rfl⟩
      go_wp2_with fail
      refine HI.out.mono ?_
      rintro e w1 ⟨rfl, rfl⟩
      go_wp2_with fail
      go_ret2
      exact ⟨rfl, rfl⟩
  · go_enter Try.func34, Try.ntmps34
    go_wp2_with fail
    refine HN.out.mono ?_
    rintro e w1 ⟨rfl, rfl⟩
    go_wp2_with fail
    refine HI.out.mono ?_
    rintro e w1 ⟨rfl, rfl⟩
    go_wp2_with fail
    go_ret2
    exact ⟨rfl, rfl⟩
end Go.Proofs.Ytojealgjfbjnoaa
