/- The contracts of wide.Of at small factors, and of gauge.Read. Condition: the word is of 64 bits. -/
import Derived.Test.YtolgkehlnhkgiaaGauge2
namespace Go.Proofs.Ytolgkehlnhkgiaa
open Go.ChangeShapes Go.WideShapes Go.ChangeAt Go.RowKit Go.Deep

theorem and32 (x : Nat) (hx : x < 18446744073709551616) : bits .and .u64 (x : Int) 4294967295 = ((x % 4294967296 : Nat) : Int) := and_low x 32 hx (by decide)

set_option maxHeartbeats 1000000 in
theorem mul64_one (x : Nat) (w : World) (hx : x < 9223372036854775808) :
    Calls Try.prog 50 #[.int .u64 x, .int .u64 1] w fun e w' => e = .returned (.tuple #[.int .u64 0, .int .u64 x]) ∧ w = w' := by
  have h1 := and32 x (by omega)
  have hq : (x : Int) / 4294967296 = ((x / 4294967296 : Nat) : Int) := by omega
  have hdm : x = 4294967296 * (x / 4294967296) + x % 4294967296 := by omega
  have hb : x / 4294967296 < 2147483648 := by omega
  have hbl : x % 4294967296 < 4294967296 := by omega
  obtain ⟨a, ha⟩ : ∃ a, x % 4294967296 = a := ⟨_, rfl⟩
  obtain ⟨b, hb'⟩ : ∃ b, x / 4294967296 = b := ⟨_, rfl⟩
  rw [ha] at h1 hdm hbl
  rw [hb'] at hq hdm hb
  have Hdm := Lib.hid hdm
  clear ha hb' hdm
  have h2 : bits .and .u64 1 4294967295 = 1 := and32 1 (by decide)
  have h3 := and32 b (by omega)
  rw [show b % 4294967296 = b from by omega] at h3
  have h4 : (a : Int) / 4294967296 = 0 := by omega
  have h5 : (b : Int) / 4294967296 = 0 := by omega
  go_enter Try.func50, Try.ntmps50
  go_wp2
  go_ret2
  exact ⟨rfl, rfl⟩

set_option maxHeartbeats 1000000 in
theorem mul64_two (x : Nat) (w : World) (hx : x < 9223372036854775808) :
    Calls Try.prog 50 #[.int .u64 x, .int .u64 2] w fun e w' => e = .returned (.tuple #[.int .u64 0, .int .u64 ((x : Int) * 2)]) ∧ w = w' := by
  have h1 := and32 x (by omega)
  have hq : (x : Int) / 4294967296 = ((x / 4294967296 : Nat) : Int) := by omega
  have hdm : x = 4294967296 * (x / 4294967296) + x % 4294967296 := by omega
  have hb : x / 4294967296 < 2147483648 := by omega
  have hbl : x % 4294967296 < 4294967296 := by omega
  obtain ⟨a, ha⟩ : ∃ a, x % 4294967296 = a := ⟨_, rfl⟩
  obtain ⟨b, hb'⟩ : ∃ b, x / 4294967296 = b := ⟨_, rfl⟩
  rw [ha] at h1 hdm hbl
  rw [hb'] at hq hdm hb
  have Hdm := Lib.hid hdm
  clear ha hb' hdm
  have h2 : bits .and .u64 2 4294967295 = 2 := and32 2 (by decide)
  obtain ⟨c, hc⟩ : ∃ c, a * 2 / 4294967296 = c := ⟨_, rfl⟩
  have h4 : (a : Int) * 2 / 4294967296 = (c : Int) := by omega
  have hc2 : c < 2 := by omega
  obtain ⟨d, hd⟩ : ∃ d, b * 2 + c = d := ⟨_, rfl⟩
  have h6 : (b : Int) * 2 + (c : Int) = (d : Int) := by omega
  have hd2 : d < 4294967296 := by omega
  have h3 := and32 d (by omega)
  rw [show d % 4294967296 = d from by omega] at h3
  have h5 : (d : Int) / 4294967296 = 0 := by omega
  clear hc hd
  go_enter Try.func50, Try.ntmps50
  go_wp2
  go_ret2
  exact ⟨rfl, rfl⟩

set_option maxRecDepth 100000 in
theorem wideOf_one (x : Nat) (w : World) (hx : x < 9223372036854775808) :
    Calls Try.prog 37 #[.int .u64 x, .int .u64 1] w fun e w' => e = .returned (.agg #[.int .u64 0, .int .u64 x]) ∧ Below w.heap.size w w' := by
  go_enter Try.func37, Try.ntmps37
  go_wp2_with fail
  refine (mul64_one x _ hx).mono ?_
  rintro e w1 ⟨rfl, rfl⟩
  go_wp2_with fail
  exact bodyPost_ret (v := .agg #[.int .u64 0, .int .u64 x]) (by simp [results, Try.results37, go_sem]) rfl ⟨rfl, (Below.refl _ _).alloc (Nat.le_refl _) _⟩

set_option maxRecDepth 100000 in
theorem wideOf_two (x : Nat) (w : World) (hx : x < 9223372036854775808) :
    Calls Try.prog 37 #[.int .u64 x, .int .u64 2] w fun e w' => e = .returned (.agg #[.int .u64 0, .int .u64 ((x : Int) * 2)]) ∧ Below w.heap.size w w' := by
  go_enter Try.func37, Try.ntmps37
  go_wp2_with fail
  refine (mul64_two x _ hx).mono ?_
  rintro e w1 ⟨rfl, rfl⟩
  go_wp2_with fail
  exact bodyPost_ret (v := .agg #[.int .u64 0, .int .u64 ((x : Int) * 2)]) (by simp [results, Try.results37, go_sem]) rfl ⟨rfl, (Below.refl _ _).alloc (Nat.le_refl _) _⟩

/-! ### gauge.Read -/

/-- The five tests of a word. -/
structure Tests (x : Nat) (nan inf neg top zero : Bool) : Prop where
  nan : (Ieee.double.order x x != some .eq) = nan
  inf : (Ieee.double.order (x % 9223372036854775808) 9218868437227405311 == some .gt) = inf
  neg : (Go.FloatKind.f64.format.order x 0 == some .lt) = neg
  top : (Go.FloatKind.f64.format.order x 4845873199050653696 == some .gt) = top
  zero : (Go.FloatKind.f64.format.order x 0 == some .eq) = zero

set_option maxRecDepth 100000 in
set_option maxHeartbeats 1000000 in
theorem read_early (x : Nat) (w : World) (hx : x < 18446744073709551616) (a b c d f : Bool) (r : Int) (hT : Tests x a b c d f)
    (h : (a = true ∧ r = 2) ∨ (a = false ∧ (b = true ∨ (b = false ∧ (c = true ∨ (c = false ∧ d = true)))) ∧ r = 3) ∨ (a = false ∧ b = false ∧ c = false ∧ d = false ∧ f = true ∧ r = 0)) :
    Calls Try.prog 19 #[.int .u64 x] w fun e w' => e = .returned (.tuple #[.int .i64 0, .int .i64 r]) ∧ w = w' := by
  have hF := run_frombits x
  have hN := isNaN_any x w
  rw [hT.nan] at hN
  have hI := isInf_any x w hx
  rw [hT.inf] at hI
  have HN := Lib.hid hN
  have HI := Lib.hid hI
  have h3 := hT.neg
  have h4 := hT.top
  have h5 := hT.zero
  clear hN hI hT
  rcases h with ⟨rfl, rfl⟩ | ⟨rfl, hh, rfl⟩ | ⟨rfl, rfl, rfl, rfl, rfl, rfl⟩
  · go_enter Try.func19, Try.ntmps19
    go_wp2_with fail
    refine HN.out.mono ?_
    rintro e w1 ⟨rfl, rfl⟩
    go_wp2_with fail
    go_ret2
    exact ⟨rfl, rfl⟩
  · rcases hh with rfl | ⟨rfl, rfl | ⟨rfl, rfl⟩⟩
    all_goals
      go_enter Try.func19, Try.ntmps19
      go_wp2_with fail
      refine HN.out.mono ?_
      rintro e w1 ⟨rfl, rfl⟩
      go_wp2_with fail
      refine HI.out.mono ?_
      rintro e w1 ⟨rfl, rfl⟩
      go_wp2_with fail
      go_ret2
      exact ⟨rfl, rfl⟩
  · go_enter Try.func19, Try.ntmps19
    go_wp2_with fail
    refine HN.out.mono ?_
    rintro e w1 ⟨rfl, rfl⟩
    go_wp2_with fail
    refine HI.out.mono ?_
    rintro e w1 ⟨rfl, rfl⟩
    go_wp2_with fail
    go_ret2
    exact ⟨rfl, rfl⟩
end Go.Proofs.Ytolgkehlnhkgiaa
