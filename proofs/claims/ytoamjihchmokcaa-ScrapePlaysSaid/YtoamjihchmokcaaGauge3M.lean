/- What the words of float64 stand for, and how they stand to four constants: plain lemmas. No program. || What a sample's quantity is. No condition. || Contracts of math's IsNaN, IsInf and Abs at any word, and of gauge.Read. Condition: the word is of 64 bits. || The contracts of wide.Of at small factors, and of gauge.Read. Condition: the word is of 64 bits. -/
import GoSem.Core.Float
import Derived.Test.YtoamjihchmokcaaBase
import Derived.Test.YtoamjihchmokcaaGaugeM
import Derived.Laws.FloatArith
namespace Go.Proofs.Ytoamjihchmokcaa
open Ieee

def expo (x : Nat) : Nat := x / 4503599627370496 % 2048
def frac (x : Nat) : Nat := x % 4503599627370496

theorem dbl_sw : double.signWeight = 9223372036854775808 := by rfl
theorem dbl_bin : double.binade = 4503599627370496 := by rfl
theorem dbl_inf : double.infRung = 9218868437227405312 := by rfl
theorem dbl_least : double.leastPlace = -1074 := by rfl

theorem expo_eq (x : Nat) : expo x = x % 9223372036854775808 / 4503599627370496 ∧ frac x = x % 9223372036854775808 % 4503599627370496 := by
  unfold expo frac
  omega

theorem read_fin (x : Nat) (hx : x < 18446744073709551616) (he : expo x < 2047) :
    double.read x = if expo x = 0 then .number (decide (9223372036854775808 ≤ x)) (frac x) (-1074) else .number (decide (9223372036854775808 ≤ x)) (4503599627370496 + frac x) (-1074 + ((expo x - 1 : Nat) : Int)) := by
  obtain ⟨h1, h2⟩ := expo_eq x
  have hs : (x / 9223372036854775808 % 2 == 1) = decide (9223372036854775808 ≤ x) := by
    rw [Bool.eq_iff_iff]; simp; omega
  unfold Format.read
  rw [dbl_sw, dbl_bin, dbl_inf, dbl_least, hs]
  dsimp only
  by_cases h0 : expo x = 0
  · rw [if_pos (by omega), if_pos h0]
    congr 1
    omega
  · rw [if_neg (by omega), if_pos (by omega), if_neg h0, h1, h2]

theorem read_inf (x : Nat) (hx : x < 18446744073709551616) (he : expo x = 2047) (hf : frac x = 0) : double.read x = .infinity (decide (9223372036854775808 ≤ x)) := by
  obtain ⟨h1, h2⟩ := expo_eq x
  have hs : (x / 9223372036854775808 % 2 == 1) = decide (9223372036854775808 ≤ x) := by
    rw [Bool.eq_iff_iff]; simp; omega
  unfold Format.read
  rw [dbl_sw, dbl_bin, dbl_inf, hs]
  dsimp only
  rw [if_neg (by omega), if_neg (by omega), if_pos (by omega)]

theorem read_nan (x : Nat) (_hx : x < 18446744073709551616) (he : expo x = 2047) (hf : frac x ≠ 0) : ∃ s t, double.read x = .nan s t := by
  obtain ⟨h1, h2⟩ := expo_eq x
  unfold Format.read
  rw [dbl_sw, dbl_bin, dbl_inf]
  dsimp only
  rw [if_neg (by omega), if_neg (by omega), if_neg (by omega)]
  exact ⟨_, _, rfl⟩

theorem order_nan {x y : Nat} {s : Bool} {t : Nat} (h : double.read x = .nan s t) : double.order x y = none := by
  unfold Format.order
  rw [h]
  rfl

theorem order_self {x : Nat} (hx : x < 18446744073709551616) (h : expo x < 2047 ∨ frac x = 0) : double.order x x = some .eq := by
  unfold Format.order
  by_cases he : expo x < 2047
  · rw [read_fin x hx he]
    split <;> simp [Datum.order]
  · have hb : expo x < 2048 := Nat.mod_lt _ (by decide)
    rw [read_inf x hx (by omega) (by omega)]
    simp [Datum.order]

theorem order_zero {x : Nat} (hx : x < 18446744073709551616) (he : expo x < 2047) :
    double.order x 0 = some (if x % 9223372036854775808 = 0 then .eq else if x < 9223372036854775808 then .gt else .lt) := by
  have hz : double.read 0 = .number false 0 (-1074) := by rfl
  unfold Format.order
  rw [hz, read_fin x hx he]
  obtain ⟨h1, h2⟩ := expo_eq x
  have key : ∀ (s : Bool) (m : Nat) (k : Nat), (Datum.number s m (-1074 + (k : Int))).order (.number false 0 (-1074)) = some (if m = 0 then .eq else if s = false then .gt else .lt) := by
    intro s m k
    unfold Datum.order
    have e1 : min (-1074 + (k : Int)) (-1074) = -1074 := by omega
    dsimp only
    rw [e1]
    have e2 : (-1074 + (k : Int) - -1074).toNat = k := by omega
    have e3 : ((-1074 : Int) - -1074).toNat = 0 := by omega
    rw [e2, e3]
    congr 1
    have e4 : signed false 0 0 = 0 := rfl
    rw [e4]
    by_cases hm : m = 0
    · subst hm
      rw [if_pos rfl]
      cases s <;> simp [signed]
    · rw [if_neg hm]
      have hp : 0 < m <<< k := by
        rw [Nat.shiftLeft_eq]
        exact Nat.mul_pos (by omega) (Nat.two_pow_pos k)
      cases s
      · rw [if_pos rfl]
        show compare ((m <<< k : Nat) : Int) 0 = .gt
        rw [Int.compare_eq_gt]
        omega
      · rw [if_neg (by decide)]
        show compare (-((m <<< k : Nat) : Int)) 0 = .lt
        rw [Int.compare_eq_lt]
        omega
  by_cases h0 : expo x = 0
  · rw [if_pos h0]
    have := key (decide (9223372036854775808 ≤ x)) (frac x) 0
    simp only [Int.natCast_zero, Int.add_zero] at this
    rw [this]
    congr 1
    by_cases hx0 : x % 9223372036854775808 = 0
    · rw [if_pos (by omega), if_pos hx0]
    · rw [if_neg (by omega), if_neg hx0]
      by_cases hs : x < 9223372036854775808
      · rw [if_pos (by simp; omega), if_pos hs]
      · rw [if_neg (by simp; omega), if_neg hs]
  · rw [if_neg h0, key]
    congr 1
    rw [if_neg (show ¬ (4503599627370496 + frac x = 0) by omega), if_neg (show ¬ (x % 9223372036854775808 = 0) by omega)]
    by_cases hs : x < 9223372036854775808
    · rw [if_pos (by simp; omega), if_pos hs]
    · rw [if_neg (by simp; omega), if_neg hs]

theorem read_pos {x : Nat} (he : expo x < 2047) (hx : x < 9223372036854775808) : ∃ m k : Nat, double.read x = .number false m (-1074 + (k : Int)) ∧ m < 9007199254740992 ∧ k ≤ 2045 ∧
    (k = 0 → m = frac x + if expo x = 0 then 0 else 4503599627370496) ∧ (0 < k → m = 4503599627370496 + frac x) ∧ k = expo x - 1 := by
  have hf : frac x < 4503599627370496 := Nat.mod_lt _ (by decide)
  have h := read_fin x (by omega) he
  have hs : decide (9223372036854775808 ≤ x) = false := decide_eq_false (by omega)
  rw [hs] at h
  by_cases h0 : expo x = 0
  · rw [if_pos h0] at h
    exact ⟨frac x, 0, by rw [h]; rfl, by omega, by omega, (fun _ => by rw [if_pos h0]; rfl), (fun h => by omega), by omega⟩
  · rw [if_neg h0] at h
    exact ⟨_, expo x - 1, h, by omega, by omega, (fun _ => by rw [if_neg h0]; omega), (fun _ => rfl), rfl⟩

theorem order_max {x : Nat} (he : expo x < 2047) (hx : x < 9223372036854775808) : (double.order x 9218868437227405311 == some .gt) = false := by
  have hz : double.read 9218868437227405311 = .number false 9007199254740991 (-1074 + (2045 : Nat)) := by rfl
  obtain ⟨m, k, hr, hm, hk, _⟩ := read_pos he hx
  unfold Format.order
  rw [hz, hr]
  unfold Datum.order
  have e1 : min (-1074 + (k : Int)) (-1074 + ((2045 : Nat) : Int)) = -1074 + (k : Int) := by omega
  dsimp only
  rw [e1]
  have e2 : (-1074 + (k : Int) - (-1074 + (k : Int))).toNat = 0 := by omega
  have e3 : (-1074 + ((2045 : Nat) : Int) - (-1074 + (k : Int))).toNat = 2045 - k := by omega
  rw [e2, e3]
  show (some (compare ((m <<< 0 : Nat) : Int) ((9007199254740991 <<< (2045 - k) : Nat) : Int)) == some Ordering.gt) = false
  rw [Nat.shiftLeft_eq, Nat.shiftLeft_eq]
  have hp := Nat.two_pow_pos (2045 - k)
  have hle : 9007199254740991 * 1 ≤ 9007199254740991 * 2 ^ (2045 - k) := Nat.mul_le_mul_left _ hp
  have : compare (((m * 2 ^ 0 : Nat)) : Int) ((9007199254740991 * 2 ^ (2045 - k) : Nat) : Int) ≠ .gt := by
    intro h
    rw [Int.compare_eq_gt] at h
    omega
  cases hc : compare (((m * 2 ^ 0 : Nat)) : Int) ((9007199254740991 * 2 ^ (2045 - k) : Nat) : Int) with
  | lt => rfl
  | eq => rfl
  | gt => exact absurd hc this

theorem order_top {x : Nat} (he : expo x < 2047) (hx : x < 9223372036854775808) : (double.order x 4845873199050653696 == some .gt) = decide (4845873199050653696 < x) := by
  have hz : double.read 4845873199050653696 = .number false 4503599627370496 (-1074 + (1075 : Nat)) := by rfl
  obtain ⟨m, k, hr, hm, hk, h1, h2, h3⟩ := read_pos he hx
  obtain ⟨g1, g2⟩ := expo_eq x
  have hf : frac x < 4503599627370496 := Nat.mod_lt _ (by decide)
  unfold Format.order
  rw [hz, hr]
  unfold Datum.order
  dsimp only
  by_cases hkc : k ≤ 1075
  · have e1 : min (-1074 + (k : Int)) (-1074 + ((1075 : Nat) : Int)) = -1074 + (k : Int) := by omega
    rw [e1]
    have e2 : (-1074 + (k : Int) - (-1074 + (k : Int))).toNat = 0 := by omega
    have e3 : (-1074 + ((1075 : Nat) : Int) - (-1074 + (k : Int))).toNat = 1075 - k := by omega
    rw [e2, e3]
    show (some (compare ((m <<< 0 : Nat) : Int) ((4503599627370496 <<< (1075 - k) : Nat) : Int)) == some Ordering.gt) = _
    rw [Nat.shiftLeft_eq, Nat.shiftLeft_eq]
    by_cases hk5 : k = 1075
    · have hm2 := h2 (by omega)
      subst hk5
      by_cases hg : 4845873199050653696 < x
      · rw [decide_eq_true hg]
        have : compare (((m * 2 ^ 0 : Nat)) : Int) ((4503599627370496 * 2 ^ (1075 - 1075) : Nat) : Int) = .gt := by
          rw [Int.compare_eq_gt]; simp; omega
        rw [this]; rfl
      · rw [decide_eq_false hg]
        have : compare (((m * 2 ^ 0 : Nat)) : Int) ((4503599627370496 * 2 ^ (1075 - 1075) : Nat) : Int) ≠ .gt := by
          rw [Ne, Int.compare_eq_gt]; simp; omega
        cases hc : compare (((m * 2 ^ 0 : Nat)) : Int) ((4503599627370496 * 2 ^ (1075 - 1075) : Nat) : Int) with
        | lt => rfl
        | eq => rfl
        | gt => exact absurd hc this
    · have hle : 2 ^ 1 ≤ 2 ^ (1075 - k) := Nat.pow_le_pow_right (by decide) (by omega)
      have hle2 := Nat.mul_le_mul_left 4503599627370496 hle
      rw [decide_eq_false (by omega)]
      have : compare (((m * 2 ^ 0 : Nat)) : Int) ((4503599627370496 * 2 ^ (1075 - k) : Nat) : Int) ≠ .gt := by
        rw [Ne, Int.compare_eq_gt]; omega
      cases hc : compare (((m * 2 ^ 0 : Nat)) : Int) ((4503599627370496 * 2 ^ (1075 - k) : Nat) : Int) with
      | lt => rfl
      | eq => rfl
      | gt => exact absurd hc this
  · have e1 : min (-1074 + (k : Int)) (-1074 + ((1075 : Nat) : Int)) = -1074 + ((1075 : Nat) : Int) := by omega
    rw [e1]
    have e2 : (-1074 + ((1075 : Nat) : Int) - (-1074 + ((1075 : Nat) : Int))).toNat = 0 := by omega
    have e3 : (-1074 + (k : Int) - (-1074 + ((1075 : Nat) : Int))).toNat = k - 1075 := by omega
    rw [e2, e3]
    show (some (compare ((m <<< (k - 1075) : Nat) : Int) ((4503599627370496 <<< 0 : Nat) : Int)) == some Ordering.gt) = _
    rw [Nat.shiftLeft_eq, Nat.shiftLeft_eq]
    have hm2 := h2 (by omega)
    have hle : 2 ^ 1 ≤ 2 ^ (k - 1075) := Nat.pow_le_pow_right (by decide) (by omega)
    have hle2 := Nat.mul_le_mul_left m hle
    rw [decide_eq_true (by omega)]
    have : compare (((m * 2 ^ (k - 1075) : Nat)) : Int) ((4503599627370496 * 2 ^ 0 : Nat) : Int) = .gt := by
      rw [Int.compare_eq_gt]; omega
    rw [this]; rfl
end Go.Proofs.Ytoamjihchmokcaa
namespace Go.Proofs.Ytoamjihchmokcaa

def quoR (up down : Nat) : Nat := if down < up % down + up % down ∨ (up % down + up % down = down ∧ up / down % 2 = 1) then up / down + 1 else up / down

def quoOf (q : Nat) : Nat × Int := if 9007199254740992 < q then (0, 3) else (q, 0)

def refOf (x : Nat) : Nat × Int :=
  if expo x = 2047 ∧ frac x ≠ 0 then (0, 2) else if x = 9223372036854775808 then (0, 0) else if expo x = 2047 ∨ 9223372036854775808 ≤ x then (0, 3)
  else if expo x < 1075 then quoOf (quoR ((if expo x = 0 then frac x else frac x + 4503599627370496) * 1000) (2 ^ (1075 - (if expo x = 0 then 1 else expo x))))
  else quoOf (quoR ((frac x + 4503599627370496) * 1000 * 2 ^ (expo x - 1075)) 1)
end Go.Proofs.Ytoamjihchmokcaa
namespace Go.Proofs.Ytoamjihchmokcaa
open Go.ChangeShapes Go.WideShapes Go.ChangeAt Go.RowKit Go.Deep

theorem isNaN_any (x : Nat) (w : World) : Calls Try.prog 31 #[.float .f64 x] w fun e w' => e = .returned (.bool (Ieee.double.order x x != some .eq)) ∧ w = w' := by
  go_enter Try.func31, Try.ntmps31
  go_wp2
  go_ret
  exact ⟨rfl, rfl⟩

theorem run_bits (b : Nat) (w : World) : (callFunc 51 #[.float .f64 b]).run Try.prog w = .ok (.value (.int .u64 b)) w := by kernel_rfl
theorem run_frombits (n : Nat) (w : World) : (callFunc 30 #[.int .u64 n]).run Try.prog w = .ok (.value (.float .f64 n)) w := by kernel_rfl

theorem low63 (x : Nat) (hx : x < 18446744073709551616) : bits .andNot .u64 (x : Int) 9223372036854775808 = ((x % 9223372036854775808 : Nat) : Int) := by
  have h := u64_andNot_nat x 9223372036854775808 hx (by decide)
  have e : x &&& (18446744073709551615 - 9223372036854775808) = x % 9223372036854775808 := Nat.and_two_pow_sub_one_eq_mod x 63
  rw [e] at h
  exact h

set_option maxRecDepth 100000 in
theorem abs_any (x : Nat) (w : World) (hx : x < 18446744073709551616) : Calls Try.prog 46 #[.float .f64 x] w fun e w' => e = .returned (.float .f64 (x % 9223372036854775808)) ∧ w = w' := by
  have h1 := run_bits x
  have h2 := low63 x hx
  obtain ⟨y, hy⟩ : ∃ y, x % 9223372036854775808 = y := ⟨_, rfl⟩
  rw [hy] at h2 ⊢
  have h3 := run_frombits y
  clear hy
  go_enter Try.func46, Try.ntmps46
  go_wp2
  go_ret
  exact ⟨rfl, rfl⟩

theorem isInf_any (x : Nat) (w : World) (hx : x < 18446744073709551616) : Calls Try.prog 32 #[.float .f64 x, .int .i64 0] w fun e w' => e = .returned (.bool (Ieee.double.order (x % 9223372036854775808) 9218868437227405311 == some .gt)) ∧ w = w' := by
  have HA := Lib.hid (abs_any x w hx)
  go_enter Try.func32, Try.ntmps32
  go_wp2_with fail
  refine HA.out.mono ?_
  rintro e w' ⟨rfl, rfl⟩
  go_wp2_with fail
  go_ret
  exact ⟨rfl, rfl⟩
end Go.Proofs.Ytoamjihchmokcaa
namespace Go.Proofs.Ytoamjihchmokcaa
open Go.ChangeShapes Go.WideShapes Go.ChangeAt Go.RowKit Go.Deep

theorem and32 (x : Nat) (hx : x < 18446744073709551616) : bits .and .u64 (x : Int) 4294967295 = ((x % 4294967296 : Nat) : Int) := and_low x 32 hx (by decide)

set_option maxHeartbeats 1000000 in
theorem mul64_one (x : Nat) (w : World) (hx : x < 9223372036854775808) :
    Calls Try.prog 47 #[.int .u64 x, .int .u64 1] w fun e w' => e = .returned (.tuple #[.int .u64 0, .int .u64 x]) ∧ w = w' := by
  have h1 := and32 x (by omega)
  have hq : (x : Int) / 4294967296 = ((x / 4294967296 : Nat) : Int) := by omega
  have hdm : x = 4294967296 * (x / 4294967296) + x % 4294967296 := by omega
  have hb : x / 4294967296 < 2147483648 := by omega
  have hbl : x % 4294967296 < 4294967296 := by omega
  obtain ⟨a, ha⟩ : ∃ a, x % 4294967296 = a := ⟨_, rfl⟩
  obtain ⟨b, hb'⟩ : ∃ b, x / 4294967296 = b := ⟨_, rfl⟩
  rw [ha] at h1 hdm hbl
  rw [hb'] at hq hdm hb
  have Hdm := Lib.hid hdm
  clear ha hb' hdm
  have h2 : bits .and .u64 1 4294967295 = 1 := and32 1 (by decide)
  have h3 := and32 b (by omega)
  rw [show b % 4294967296 = b from by omega] at h3
  have h4 : (a : Int) / 4294967296 = 0 := by omega
  have h5 : (b : Int) / 4294967296 = 0 := by omega
  go_enter Try.func47, Try.ntmps47
  go_wp2
  go_ret2
  exact ⟨rfl, rfl⟩

set_option maxHeartbeats 1000000 in
theorem mul64_two (x : Nat) (w : World) (hx : x < 9223372036854775808) :
    Calls Try.prog 47 #[.int .u64 x, .int .u64 2] w fun e w' => e = .returned (.tuple #[.int .u64 0, .int .u64 ((x : Int) * 2)]) ∧ w = w' := by
  have h1 := and32 x (by omega)
  have hq : (x : Int) / 4294967296 = ((x / 4294967296 : Nat) : Int) := by omega
  have hdm : x = 4294967296 * (x / 4294967296) + x % 4294967296 := by omega
  have hb : x / 4294967296 < 2147483648 := by omega
  have hbl : x % 4294967296 < 4294967296 := by omega
  obtain ⟨a, ha⟩ : ∃ a, x % 4294967296 = a := ⟨_, rfl⟩
  obtain ⟨b, hb'⟩ : ∃ b, x / 4294967296 = b := ⟨_, rfl⟩
  rw [ha] at h1 hdm hbl
  rw [hb'] at hq hdm hb
  have Hdm := Lib.hid hdm
  clear ha hb' hdm
  have h2 : bits .and .u64 2 4294967295 = 2 := and32 2 (by decide)
  obtain ⟨c, hc⟩ : ∃ c, a * 2 / 4294967296 = c := ⟨_, rfl⟩
  have h4 : (a : Int) * 2 / 4294967296 = (c : Int) := by omega
  have hc2 : c < 2 := by omega
  obtain ⟨d, hd⟩ : ∃ d, b * 2 + c = d := ⟨_, rfl⟩
  have h6 : (b : Int) * 2 + (c : Int) = (d : Int) := by omega
  have hd2 : d < 4294967296 := by omega
  have h3 := and32 d (by omega)
  rw [show d % 4294967296 = d from by omega] at h3
  have h5 : (d : Int) / 4294967296 = 0 := by omega
  clear hc hd
  go_enter Try.func47, Try.ntmps47
  go_wp2
  go_ret2
  exact ⟨rfl, rfl⟩

set_option maxRecDepth 100000 in
theorem wideOf_one (x : Nat) (w : World) (hx : x < 9223372036854775808) :
    Calls Try.prog 34 #[.int .u64 x, .int .u64 1] w fun e w' => e = .returned (.agg #[.int .u64 0, .int .u64 x]) ∧ Below w.heap.size w w' := by
  go_enter Try.func34, Try.ntmps34
  go_wp2_with fail
  refine (mul64_one x _ hx).mono ?_
  rintro e w1 ⟨rfl, rfl⟩
  go_wp2_with fail
  exact bodyPost_ret (v := .agg #[.int .u64 0, .int .u64 x]) (by simp [results, Try.results34, go_sem]) rfl ⟨rfl, (Below.refl _ _).alloc (Nat.le_refl _) _⟩

set_option maxRecDepth 100000 in
theorem wideOf_two (x : Nat) (w : World) (hx : x < 9223372036854775808) :
    Calls Try.prog 34 #[.int .u64 x, .int .u64 2] w fun e w' => e = .returned (.agg #[.int .u64 0, .int .u64 ((x : Int) * 2)]) ∧ Below w.heap.size w w' := by
  go_enter Try.func34, Try.ntmps34
  go_wp2_with fail
  refine (mul64_two x _ hx).mono ?_
  rintro e w1 ⟨rfl, rfl⟩
  go_wp2_with fail
  exact bodyPost_ret (v := .agg #[.int .u64 0, .int .u64 ((x : Int) * 2)]) (by simp [results, Try.results34, go_sem]) rfl ⟨rfl, (Below.refl _ _).alloc (Nat.le_refl _) _⟩


structure Tests (x : Nat) (nan inf neg top zero : Bool) : Prop where
  nan : (Ieee.double.order x x != some .eq) = nan
  inf : (Ieee.double.order (x % 9223372036854775808) 9218868437227405311 == some .gt) = inf
  neg : (Go.FloatKind.f64.format.order x 0 == some .lt) = neg
  top : (Go.FloatKind.f64.format.order x 4845873199050653696 == some .gt) = top
  zero : (Go.FloatKind.f64.format.order x 0 == some .eq) = zero

set_option maxRecDepth 100000 in
set_option maxHeartbeats 1000000 in
theorem read_early (x : Nat) (w : World) (hx : x < 18446744073709551616) (a b c d f : Bool) (r : Int) (hT : Tests x a b c d f)
    (h : (a = true ∧ r = 2) ∨ (a = false ∧ (b = true ∨ (b = false ∧ (c = true ∨ (c = false ∧ d = true)))) ∧ r = 3) ∨ (a = false ∧ b = false ∧ c = false ∧ d = false ∧ f = true ∧ r = 0)) :
    Calls Try.prog 15 #[.int .u64 x] w fun e w' => e = .returned (.tuple #[.int .i64 0, .int .i64 r]) ∧ w = w' := by
  have hF := run_frombits x
  have hN := isNaN_any x w
  rw [hT.nan] at hN
  have hI := isInf_any x w hx
  rw [hT.inf] at hI
  have HN := Lib.hid hN
  have HI := Lib.hid hI
  have h3 := hT.neg
  have h4 := hT.top
  have h5 := hT.zero
  clear hN hI hT
  rcases h with ⟨rfl, rfl⟩ | ⟨rfl, hh, rfl⟩ | ⟨rfl, rfl, rfl, rfl, rfl, rfl⟩
  · go_enter Try.func15, Try.ntmps15
    go_wp2_with fail
    refine HN.out.mono ?_
    rintro e w1 ⟨rfl, rfl⟩
    go_wp2_with fail
    go_ret2
    exact ⟨rfl, rfl⟩
  · rcases hh with rfl | ⟨rfl, rfl | ⟨rfl, rfl⟩⟩
    all_goals
      go_enter Try.func15, Try.ntmps15
      go_wp2_with fail
      refine HN.out.mono ?_
      rintro e w1 ⟨rfl, rfl⟩
      go_wp2_with fail
      refine HI.out.mono ?_
      rintro e w1 ⟨rfl, rfl⟩
      go_wp2_with fail
      go_ret2
      exact ⟨rfl, rfl⟩
  · go_enter Try.func15, Try.ntmps15
    go_wp2_with fail
    refine HN.out.mono ?_
    rintro e w1 ⟨rfl, rfl⟩
    go_wp2_with fail
    refine HI.out.mono ?_
    rintro e w1 ⟨rfl, rfl⟩
    go_wp2_with fail
    go_ret2
    exact ⟨rfl, rfl⟩
end Go.Proofs.Ytoamjihchmokcaa
