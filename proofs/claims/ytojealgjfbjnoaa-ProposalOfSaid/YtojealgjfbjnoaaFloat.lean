/- What the words of float64 stand for, and how they stand to four constants: plain lemmas. No program. -/
import GoSem.Core.Float
import Derived.Test.YtojealgjfbjnoaaBase
namespace Go.Proofs.Ytojealgjfbjnoaa
open Ieee

def expo (x : Nat) : Nat := x / 4503599627370496 % 2048
def frac (x : Nat) : Nat := x % 4503599627370496

theorem dbl_sw : double.signWeight = 9223372036854775808 := by rfl
theorem dbl_bin : double.binade = 4503599627370496 := by rfl
theorem dbl_inf : double.infRung = 9218868437227405312 := by rfl
theorem dbl_least : double.leastPlace = -1074 := by rfl

theorem expo_eq (x : Nat) : expo x = x % 9223372036854775808 / 4503599627370496 ∧ frac x = x % 9223372036854775808 % 4503599627370496 := by
  unfold expo frac
  omega

/-- The number of a word that is finite. -/
theorem read_fin (x : Nat) (hx : x < 18446744073709551616) (he : expo x < 2047) :
    double.read x = if expo x = 0 then .number (decide (9223372036854775808 ≤ x)) (frac x) (-1074) else .number (decide (9223372036854775808 ≤ x)) (4503599627370496 + frac x) (-1074 + ((expo x - 1 : Nat) : Int)) := by
  obtain ⟨h1, h2⟩ := expo_eq x
  have hs : (x / 9223372036854775808 % 2 == 1) = decide (9223372036854775808 ≤ x) := by
    rw [Bool.eq_iff_iff]; simp; omega
  unfold Format.read
  rw [dbl_sw, dbl_bin, dbl_inf, dbl_least, hs]
  dsimp only
  by_cases h0 : expo x = 0
  · rw [if_pos (by omega), if_pos h0]
    congr 1
    omega
  · rw [if_neg (by omega), if_pos (by omega), if_neg h0, h1, h2]

theorem read_inf (x : Nat) (hx : x < 18446744073709551616) (he : expo x = 2047) (hf : frac x = 0) : double.read x = .infinity (decide (9223372036854775808 ≤ x)) := by
  obtain ⟨h1, h2⟩ := expo_eq x
  have hs : (x / 9223372036854775808 % 2 == 1) = decide (9223372036854775808 ≤ x) := by
    rw [Bool.eq_iff_iff]; simp; omega
  unfold Format.read
  rw [dbl_sw, dbl_bin, dbl_inf, hs]
  dsimp only
  rw [if_neg (by omega), if_neg (by omega), if_pos (by omega)]

theorem read_nan (x : Nat) (_hx : x < 18446744073709551616) (he : expo x = 2047) (hf : frac x ≠ 0) : ∃ s t, double.read x = .nan s t := by
  obtain ⟨h1, h2⟩ := expo_eq x
  unfold Format.read
  rw [dbl_sw, dbl_bin, dbl_inf]
  dsimp only
  rw [if_neg (by omega), if_neg (by omega), if_neg (by omega)]
  exact ⟨_, _, rfl⟩

theorem compare_self (a : Int) : compare a a = .eq := by simp

theorem order_nan {x y : Nat} {s : Bool} {t : Nat} (h : double.read x = .nan s t) : double.order x y = none := by
  unfold Format.order
  rw [h]
  rfl

theorem order_self {x : Nat} (hx : x < 18446744073709551616) (h : expo x < 2047 ∨ frac x = 0) : double.order x x = some .eq := by
  unfold Format.order
  by_cases he : expo x < 2047
  · rw [read_fin x hx he]
    split <;> simp [Datum.order]
  · have hb : expo x < 2048 := Nat.mod_lt _ (by decide)
    rw [read_inf x hx (by omega) (by omega)]
    simp [Datum.order]

/-- Against nought. -/
theorem order_zero {x : Nat} (hx : x < 18446744073709551616) (he : expo x < 2047) :
    double.order x 0 = some (if x % 9223372036854775808 = 0 then .eq else if x < 9223372036854775808 then .gt else .lt) := by
  have hz : double.read 0 = .number false 0 (-1074) := by rfl
  unfold Format.order
  rw [hz, read_fin x hx he]
  obtain ⟨h1, h2⟩ := expo_eq x
  have key : ∀ (s : Bool) (m : Nat) (k : Nat), (Datum.number s m (-1074 + (k : Int))).order (.number false 0 (-1074)) = some (if m = 0 then .eq else if s = false then .gt else .lt) := by
    intro s m k
    unfold Datum.order
    have e1 : min (-1074 + (k : Int)) (-1074) = -1074 := by omega
    dsimp only
    rw [e1]
    have e2 : (-1074 + (k : Int) - -1074).toNat = k := by omega
    have e3 : ((-1074 : Int) - -1074).toNat = 0 := by omega
    rw [e2, e3]
    congr 1
    have e4 : signed false 0 0 = 0 := rfl
    rw [e4]
    by_cases hm : m = 0
    · subst hm
      rw [if_pos rfl]
      cases s <;> simp [signed]
    · rw [if_neg hm]
      have hp : 0 < m <<< k := by
        rw [Nat.shiftLeft_eq]
        exact Nat.mul_pos (by omega) (Nat.two_pow_pos k)
      cases s
      · rw [if_pos rfl]
        show compare ((m <<< k : Nat) : Int) 0 = .gt
        rw [Int.compare_eq_gt]
        omega
      · rw [if_neg (by decide)]
        show compare (-((m <<< k : Nat) : Int)) 0 = .lt
        rw [Int.compare_eq_lt]
        omega
  by_cases h0 : expo x = 0
  · rw [if_pos h0]
    have := key (decide (9223372036854775808 ≤ x)) (frac x) 0
    simp only [Int.natCast_zero, Int.add_zero] at this
    rw [this]
    congr 1
    by_cases hx0 : x % 9223372036854775808 = 0
    · rw [if_pos (by omega), if_pos hx0]
    · rw [if_neg (by omega), if_neg hx0]
      by_cases hs : x < 9223372036854775808
      · rw [if_pos (by simp; omega), if_pos hs]
      · rw [if_neg (by simp; omega), if_neg hs]
  · rw [if_neg h0, key]
    congr 1
    rw [if_neg (show ¬ (4503599627370496 + frac x = 0) by omega), if_neg (show ¬ (x % 9223372036854775808 = 0) by omega)]
    by_cases hs : x < 9223372036854775808
    · rw [if_pos (by simp; omega), if_pos hs]
    · rw [if_neg (by simp; omega), if_neg hs]

/-- The number of a word that is finite and has no sign. -/
theorem read_pos {x : Nat} (he : expo x < 2047) (hx : x < 9223372036854775808) : ∃ m k : Nat, double.read x = .number false m (-1074 + (k : Int)) ∧ m < 9007199254740992 ∧ k ≤ 2045 ∧
    (k = 0 → m = frac x + if expo x = 0 then 0 else 4503599627370496) ∧ (0 < k → m = 4503599627370496 + frac x) ∧ k = expo x - 1 := by
  have hf : frac x < 4503599627370496 := Nat.mod_lt _ (by decide)
  have h := read_fin x (by omega) he
  have hs : decide (9223372036854775808 ≤ x) = false := decide_eq_false (by omega)
  rw [hs] at h
  by_cases h0 : expo x = 0
  · rw [if_pos h0] at h
    exact ⟨frac x, 0, by rw [h]; rfl, by omega, by omega, (fun _ => by rw [if_pos h0]; rfl), (fun h => by omega), by omega⟩
  · rw [if_neg h0] at h
    exact ⟨_, expo x - 1, h, by omega, by omega, (fun _ => by rw [if_neg h0]; omega), (fun _ => rfl), rfl⟩

/-- Against the greatest of all. -/
theorem order_max {x : Nat} (he : expo x < 2047) (hx : x < 9223372036854775808) : (double.order x 9218868437227405311 == some .gt) = false := by
  have hz : double.read 9218868437227405311 = .number false 9007199254740991 (-1074 + (2045 : Nat)) := by rfl
  obtain ⟨m, k, hr, hm, hk, _⟩ := read_pos he hx
  unfold Format.order
  rw [hz, hr]
  unfold Datum.order
  have e1 : min (-1074 + (k : Int)) (-1074 + ((2045 : Nat) : Int)) = -1074 + (k : Int) := by omega
  dsimp only
  rw [e1]
  have e2 : (-1074 + (k : Int) - (-1074 + (k : Int))).toNat = 0 := by omega
  have e3 : (-1074 + ((2045 : Nat) : Int) - (-1074 + (k : Int))).toNat = 2045 - k := by omega
  rw [e2, e3]
  show (some (compare ((m <<< 0 : Nat) : Int) ((9007199254740991 <<< (2045 - k) : Nat) : Int)) == some Ordering.gt) = false
  rw [Nat.shiftLeft_eq, Nat.shiftLeft_eq]
  have hp := Nat.two_pow_pos (2045 - k)
  have hle : 9007199254740991 * 1 ≤ 9007199254740991 * 2 ^ (2045 - k) := Nat.mul_le_mul_left _ hp
  have : compare (((m * 2 ^ 0 : Nat)) : Int) ((9007199254740991 * 2 ^ (2045 - k) : Nat) : Int) ≠ .gt := by
    intro h
    rw [Int.compare_eq_gt] at h
    omega
  cases hc : compare (((m * 2 ^ 0 : Nat)) : Int) ((9007199254740991 * 2 ^ (2045 - k) : Nat) : Int) with
  | lt => rfl
  | eq => rfl
  | gt => exact absurd hc this

/-- Against 2 to the power of 53. -/
theorem order_top {x : Nat} (he : expo x < 2047) (hx : x < 9223372036854775808) : (double.order x 4845873199050653696 == some .gt) = decide (4845873199050653696 < x) := by
  have hz : double.read 4845873199050653696 = .number false 4503599627370496 (-1074 + (1075 : Nat)) := by rfl
  obtain ⟨m, k, hr, hm, hk, h1, h2, h3⟩ := read_pos he hx
  obtain ⟨g1, g2⟩ := expo_eq x
  have hf : frac x < 4503599627370496 := Nat.mod_lt _ (by decide)
  unfold Format.order
  rw [hz, hr]
  unfold Datum.order
  dsimp only
  by_cases hkc : k ≤ 1075
  · have e1 : min (-1074 + (k : Int)) (-1074 + ((1075 : Nat) : Int)) = -1074 + (k : Int) := by omega
    rw [e1]
    have e2 : (-1074 + (k : Int) - (-1074 + (k : Int))).toNat = 0 := by omega
    have e3 : (-1074 + ((1075 : Nat) : Int) - (-1074 + (k : Int))).toNat = 1075 - k := by omega
    rw [e2, e3]
    show (some (compare ((m <<< 0 : Nat) : Int) ((4503599627370496 <<< (1075 - k) : Nat) : Int)) == some Ordering.gt) = _
    rw [Nat.shiftLeft_eq, Nat.shiftLeft_eq]
    by_cases hk5 : k = 1075
    · have hm2 := h2 (by omega)
      subst hk5
      by_cases hg : 4845873199050653696 < x
      · rw [decide_eq_true hg]
        have : compare (((m * 2 ^ 0 : Nat)) : Int) ((4503599627370496 * 2 ^ (1075 - 1075) : Nat) : Int) = .gt := by
          rw [Int.compare_eq_gt]; simp; omega
        rw [this]; rfl
      · rw [decide_eq_false hg]
        have : compare (((m * 2 ^ 0 : Nat)) : Int) ((4503599627370496 * 2 ^ (1075 - 1075) : Nat) : Int) ≠ .gt := by
          rw [Ne, Int.compare_eq_gt]; simp; omega
        cases hc : compare (((m * 2 ^ 0 : Nat)) : Int) ((4503599627370496 * 2 ^ (1075 - 1075) : Nat) : Int) with
        | lt => rfl
        | eq => rfl
        | gt => exact absurd hc this
    · have hle : 2 ^ 1 ≤ 2 ^ (1075 - k) := Nat.pow_le_pow_right (by decide) (by omega)
      have hle2 := Nat.mul_le_mul_left 4503599627370496 hle
      rw [decide_eq_false (by omega)]
      have : compare (((m * 2 ^ 0 : Nat)) : Int) ((4503599627370496 * 2 ^ (1075 - k) : Nat) : Int) ≠ .gt := by
        rw [Ne, Int.compare_eq_gt]; omega
      cases hc : compare (((m * 2 ^ 0 : Nat)) : Int) ((4503599627370496 * 2 ^ (1075 - k) : Nat) : Int) with
      | lt => rfl
      | eq => rfl
      | gt => exact absurd hc this
  · have e1 : min (-1074 + (k : Int)) (-1074 + ((1075 : Nat) : Int)) = -1074 + ((1075 : Nat) : Int) := by omega
    rw [e1]
    have e2 : (-1074 + ((1075 : Nat) : Int) - (-1074 + ((1075 : Nat) : Int))).toNat = 0 := by omega
    have e3 : (-1074 + (k : Int) - (-1074 + ((1075 : Nat) : Int))).toNat = k - 1075 := by omega
    rw [e2, e3]
    show (some (compare ((m <<< (k - 1075) : Nat) : Int) ((4503599627370496 <<< 0 : Nat) : Int)) == some Ordering.gt) = _
    rw [Nat.shiftLeft_eq, Nat.shiftLeft_eq]
    have hm2 := h2 (by omega)
    have hle : 2 ^ 1 ≤ 2 ^ (k - 1075) := Nat.pow_le_pow_right (by decide) (by omega)
    have hle2 := Nat.mul_le_mul_left m hle
    rw [decide_eq_true (by omega)]
    have : compare (((m * 2 ^ (k - 1075) : Nat)) : Int) ((4503599627370496 * 2 ^ 0 : Nat) : Int) = .gt := by
      rw [Int.compare_eq_gt]; omega
    rw [this]; rfl
end Go.Proofs.Ytojealgjfbjnoaa
