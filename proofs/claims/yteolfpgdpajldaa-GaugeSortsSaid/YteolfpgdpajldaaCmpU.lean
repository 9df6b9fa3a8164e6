/- The contract of gauge.Sort's comparison, at samples that have a quantity. No condition. -/
import Derived.Test.YteolfpgdpajldaaSortU2
import Derived.Test.YteolfpgdpajldaaFloatOrd
import Derived.Test.YteolfpgdpajldaaLen
import Derived.Laws.FloatArith
namespace Go.Proofs.Yteolfpgdpajldaa
open Go.ChangeShapes Go.WideShapes Go.ChangeAt Go.RowKit Go.Deep

theorem isNaNF (x : Nat) (w : World) (hx : GoodW x) : Calls Try.prog 33 #[.float .f64 x] w fun e w' => e = .returned (.bool false) ∧ w' = w := by
  have ho := order_good hx hx
  rw [compare_self] at ho
  clear hx
  go_enter Try.func33, Try.ntmps33
  go_wp2
  go_ret
  exact ⟨ret_bool (by simp; exact ho), rfl⟩

def cfF (x y : Nat) : Int := if valW x < valW y then -1 else if valW y < valW x then 1 else 0

theorem compareF (x y : Nat) (w : World) (hx : GoodW x) (hy : GoodW y) : Calls Try.prog 14 #[.float .f64 x, .float .f64 y] w fun e w' => e = .returned (.int .i64 (cfF x y)) ∧ w' = w := by
  have HX : Hid (∀ w1, _) := fun w1 => isNaNF x w1 hx
  have HY : Hid (∀ w1, _) := fun w1 => isNaNF y w1 hy
  have ho := order_good hx hy
  have hU : Hid (cfF x y = if valW x < valW y then -1 else if valW y < valW x then 1 else 0) := rfl
  clear hx hy
  rcases Nat.lt_trichotomy (valW x) (valW y) with h | h | h
  · rw [Int.compare_eq_lt.2 (by omega)] at ho
    rw [if_pos h] at hU
    have l1 : (FloatKind.f64.format.order x y == some Ordering.lt) = true := by show (Ieee.double.order x y == some Ordering.lt) = _; rw [ho]; rfl
    have l2 : (FloatKind.f64.format.order x y == some Ordering.gt) = false := by show (Ieee.double.order x y == some Ordering.gt) = _; rw [ho]; rfl
    clear h ho
    go_enter Try.func14, Try.ntmps14
    go_wp2_with fail
    refine (HX.out _).mono ?_
    rintro e w1 ⟨rfl, rfl⟩
    go_wp2_with fail
    refine (HY.out _).mono ?_
    rintro e w1 ⟨rfl, rfl⟩
    go_wp2_with fail
    go_ret
    exact ⟨by rw [hU.out] <;> rfl, rfl⟩
  · rw [h, compare_self] at ho
    rw [if_neg (by omega), if_neg (by omega)] at hU
    have l1 : (FloatKind.f64.format.order x y == some Ordering.lt) = false := by show (Ieee.double.order x y == some Ordering.lt) = _; rw [ho]; rfl
    have l2 : (FloatKind.f64.format.order x y == some Ordering.gt) = false := by show (Ieee.double.order x y == some Ordering.gt) = _; rw [ho]; rfl
    clear h ho
    go_enter Try.func14, Try.ntmps14
    go_wp2_with fail
    refine (HX.out _).mono ?_
    rintro e w1 ⟨rfl, rfl⟩
    go_wp2_with fail
    refine (HY.out _).mono ?_
    rintro e w1 ⟨rfl, rfl⟩
    go_wp2_with fail
    go_ret
    exact ⟨by rw [hU.out] <;> rfl, rfl⟩
  · rw [Int.compare_eq_gt.2 (by omega)] at ho
    rw [if_neg (by omega), if_pos h] at hU
    have l1 : (FloatKind.f64.format.order x y == some Ordering.lt) = false := by show (Ieee.double.order x y == some Ordering.lt) = _; rw [ho]; rfl
    have l2 : (FloatKind.f64.format.order x y == some Ordering.gt) = true := by show (Ieee.double.order x y == some Ordering.gt) = _; rw [ho]; rfl
    clear h ho
    go_enter Try.func14, Try.ntmps14
    go_wp2_with fail
    refine (HX.out _).mono ?_
    rintro e w1 ⟨rfl, rfl⟩
    go_wp2_with fail
    refine (HY.out _).mono ?_
    rintro e w1 ⟨rfl, rfl⟩
    go_wp2_with fail
    go_ret
    exact ⟨by rw [hU.out] <;> rfl, rfl⟩

theorem isNaNI (x : Int) (w : World) : Calls Try.prog 34 #[.int .i64 x] w fun e w' => e = .returned (.bool false) ∧ w' = w := by
  go_enter Try.func34, Try.ntmps34
  go_wp2
  go_ret
  exact ⟨ret_bool (by simp), rfl⟩

def cfI (x y : Int) : Int := if x < y then -1 else if y < x then 1 else 0

theorem compareI (x y : Int) (w : World) : Calls Try.prog 16 #[.int .i64 x, .int .i64 y] w fun e w' => e = .returned (.int .i64 (cfI x y)) ∧ w' = w := by
  have HN : Hid (∀ (z : Int) (w1 : World), _) := fun z w1 => isNaNI z w1
  have hU : Hid (cfI x y = if x < y then -1 else if y < x then 1 else 0) := rfl
  by_cases h : x < y
  · rw [if_pos h] at hU
    go_enter Try.func16, Try.ntmps16
    go_wp2_with (go_at_call 34; refine (HN.out _ _).mono ?_; rintro e w' ⟨rfl, rfl⟩)
    go_ret
    exact ⟨by rw [hU.out] <;> rfl, rfl⟩
  · by_cases h2 : y < x
    · rw [if_neg h, if_pos h2] at hU
      go_enter Try.func16, Try.ntmps16
      go_wp2_with (go_at_call 34; refine (HN.out _ _).mono ?_; rintro e w' ⟨rfl, rfl⟩)
      go_ret
      exact ⟨by rw [hU.out] <;> rfl, rfl⟩
    · rw [if_neg h, if_neg h2] at hU
      go_enter Try.func16, Try.ntmps16
      go_wp2_with (go_at_call 34; refine (HN.out _ _).mono ?_; rintro e w' ⟨rfl, rfl⟩)
      go_ret
      exact ⟨by rw [hU.out] <;> rfl, rfl⟩

/-- The first of two that isn't nought. -/
theorem or_two (a b : Int) (k : Nat) (w : World) (h0 : w.cell? ⟨k, 0, none⟩ = some (.int .i64 a)) (h1 : w.cell? ⟨k, 1, none⟩ = some (.int .i64 b)) :
    Calls Try.prog 13 #[.slice (some ⟨k, 0, none⟩) 2 2] w fun e w' => e = .returned (.int .i64 (if a = 0 then b else a)) ∧ w' = w := by
  obtain ⟨r, hr⟩ : ∃ r, (if a = 0 then b else a) = r := ⟨_, rfl⟩
  rw [hr]
  have Hr := Lib.hid hr
  clear hr
  go_enter Try.func13, Try.ntmps13
  go_wp2_with fail
  go_loopw [5, 8] (fun _ vi wr => ∃ i : Nat, vi = .int .i64 i ∧ i ≤ 2 ∧ w = wr ∧ Hid (0 < i → a = 0) ∧ Hid (1 < i → b = 0)) (fun _ vi _ => 2 - (intOf vi).toNat)
  case atStart => exact ⟨0, rfl, by omega, rfl, fun h => by omega, fun h => by omega⟩
  case round =>
    obtain ⟨i, rfl, hi, rfl, ha, hb⟩ := hrel
    rcases (show i = 0 ∨ i = 1 ∨ i = 2 by omega) with rfl | rfl | rfl
    · by_cases hz : a = 0
      · subst hz
        go_wp2_with fail
        go_roundw
        case rel => exact ⟨1, by first | trivial | go_num, by omega, by first | trivial | rfl, fun _ => by first | trivial | rfl, fun h => by omega⟩
        case measure => simp [intOf]
      · have hne : (a == 0) = false := by rw [beq_eq_false_iff_ne]; exact hz
        have HE : Hid (r = a) := by have h := Hr.out; rw [if_neg hz] at h; exact h.symm
        go_wp2_with fail
        go_ret
        exact ⟨by rw [HE.out] <;> rfl, rfl⟩
    · have h0a : Hid (a = 0) := ha.out (by omega)
      by_cases hz : b = 0
      · subst hz
        go_wp2_with fail
        go_roundw
        case rel => exact ⟨2, by first | trivial | go_num, by omega, by first | trivial | rfl, fun _ => h0a.out, fun _ => by first | trivial | rfl⟩
        case measure => simp [intOf]
      · have hne : (b == 0) = false := by rw [beq_eq_false_iff_ne]; exact hz
        have HE : Hid (r = b) := by have h := Hr.out; rw [if_pos h0a.out] at h; exact h.symm
        go_wp2_with fail
        go_ret
        exact ⟨by rw [HE.out] <;> rfl, rfl⟩
    · have HE : Hid (r = 0) := by have h := Hr.out; rw [if_pos (ha.out (by omega)), hb.out (by omega)] at h; exact h.symm
      go_wp2_with fail
      go_ret
      exact ⟨by rw [HE.out] <;> rfl, rfl⟩
end Go.Proofs.Yteolfpgdpajldaa
