/- Contracts of package gauge's small functions: parts, halved. Condition: the numbers are in range. -/
import Derived.Test.YtolgkehlnhkgiaaRows
import Derived.Test.YtolgkehlnhkgiaaBase
import Derived.Laws.BitsAllLaws
namespace Go.Proofs.Ytolgkehlnhkgiaa
open Go.ChangeShapes Go.WideShapes Go.ChangeAt Go.RowKit Go.Deep

theorem and_low (x k : Nat) (hx : x < 18446744073709551616) (hk : 2 ^ k ≤ 18446744073709551616) : bits .and .u64 (x : Int) (((2 ^ k : Nat) : Int) - 1) = ((x % 2 ^ k : Nat) : Int) := by
  have hp : 0 < 2 ^ k := Nat.two_pow_pos k
  have e : ((2 ^ k : Nat) : Int) - 1 = ((2 ^ k - 1 : Nat) : Int) := by omega
  rw [e, u64_and_nat x (2 ^ k - 1) hx (by omega), Nat.and_two_pow_sub_one_eq_mod]

theorem or_high (m : Nat) (hm : m < 4503599627370496) : bits .or .u64 (m : Int) 4503599627370496 = ((m + 4503599627370496 : Nat) : Int) := by
  have h := u64_or_nat m 4503599627370496 (by omega) (by omega)
  have e : m ||| 4503599627370496 = m + 4503599627370496 := by
    have h2 := Nat.two_pow_add_eq_or_of_lt (i := 52) (b := m) (by simpa using hm) 1
    rw [Nat.or_comm]
    simp at h2
    omega
  rw [e] at h
  exact h

def partsOf (x : Nat) : Nat × Int := if x / 4503599627370496 = 0 then (x % 4503599627370496, -1074) else (x % 4503599627370496 + 4503599627370496, (x / 4503599627370496 : Nat) - 1075)

theorem parts_any (x : Nat) (w : World) (hx : x < 9223372036854775808) :
    Calls Try.prog 36 #[.int .u64 x] w fun e w' => e = .returned (.tuple #[.int .u64 (partsOf x).1, .int .i64 (partsOf x).2]) ∧ w = w' := by
  have ha := and_low x 52 (by omega) (by decide)
  have hml : x % 2 ^ 52 < 4503599627370496 := Nat.mod_lt _ (by decide)
  have hp : partsOf x = if x / 4503599627370496 = 0 then (x % 2 ^ 52, (-1074 : Int)) else (x % 2 ^ 52 + 4503599627370496, ((x / 4503599627370496 : Nat) : Int) - 1075) := rfl
  obtain ⟨m, hm⟩ : ∃ m, x % 2 ^ 52 = m := ⟨_, rfl⟩
  obtain ⟨q, hq⟩ : ∃ q, x / 4503599627370496 = q := ⟨_, rfl⟩
  have hqi : (x : Int) / 4503599627370496 = (q : Int) := by omega
  have hql : q < 2048 := by omega
  rw [hm] at ha hml hp
  rw [hq] at hp
  have ha' : bits .and .u64 (x : Int) 4503599627370495 = (m : Int) := ha
  have ho := or_high m hml
  have Hp := Lib.hid hp
  clear ha hm hq hp
  by_cases h0 : q = 0
  · have hb : (((q : Nat) : Int) == 0) = true := by rw [h0]; rfl
    have Hp2 := Lib.hid (Hp.out.trans (if_pos h0))
    clear h0
    go_enter Try.func36, Try.ntmps36
    go_wp2
    go_ret2
    exact ⟨by rw [Hp2.out]; rfl, rfl⟩
  · have hb : (((q : Nat) : Int) == 0) = false := by rw [beq_eq_false_iff_ne]; omega
    have Hp2 := Lib.hid (Hp.out.trans (if_neg h0))
    clear h0
    go_enter Try.func36, Try.ntmps36
    go_wp2
    go_ret2
    exact ⟨by rw [Hp2.out]; simp, rfl⟩

def halvedOf (x n : Nat) : Nat := if 2 ^ n / 2 < x % 2 ^ n ∨ (x % 2 ^ n = 2 ^ n / 2 ∧ x / 2 ^ n % 2 = 1) then x / 2 ^ n + 1 else x / 2 ^ n

theorem halved_far (x : Nat) (n : Int) (w : World) (hn : 63 < n) :
    Calls Try.prog 38 #[.int .u64 x, .int .i64 n] w fun e w' => e = .returned (.int .u64 0) ∧ Below w.heap.size w w' := by
  have hd : decide (63 < n) = true := decide_eq_true hn
  go_enter Try.func38, Try.ntmps38
  go_wp2_with fail
  go_ret
  exact ⟨rfl, Below.refl _ _⟩

set_option maxHeartbeats 1000000 in
theorem halved_any (x n : Nat) (w : World) (hx : x < 9223372036854775808) (h0 : 1 ≤ n) (hn : n ≤ 63) :
    Calls Try.prog 38 #[.int .u64 x, .int .i64 n] w fun e w' => e = .returned (.int .u64 (halvedOf x n)) ∧ Below w.heap.size w w' := by
  have hp := Nat.two_pow_pos n
  have hle : 2 ^ n ≤ 9223372036854775808 := Nat.pow_le_pow_right (by decide) hn
  have ha := and_low x n (by omega) (by omega)
  have hH : Hid (halvedOf x n = if 2 ^ n / 2 < x % 2 ^ n ∨ (x % 2 ^ n = 2 ^ n / 2 ∧ x / 2 ^ n % 2 = 1) then x / 2 ^ n + 1 else x / 2 ^ n) := rfl
  have hdm := Nat.div_le_self x (2 ^ n)
  have hml := Nat.mod_lt x hp
  have hti : (2 : Int) ^ n = ((2 ^ n : Nat) : Int) := by simp
  have hai := and_low (x / 2 ^ n) 1 (by omega) (by decide)
  obtain ⟨t, ht⟩ : ∃ t, 2 ^ n = t := ⟨_, rfl⟩
  rw [ht] at hp hle ha hH hdm hml hti hai
  obtain ⟨q, hq⟩ : ∃ q, x / t = q := ⟨_, rfl⟩
  obtain ⟨r, hr⟩ : ∃ r, x % t = r := ⟨_, rfl⟩
  have hqi : (x : Int) / (t : Int) = (q : Int) := by rw [← hq]; simp
  rw [hq] at hH hdm hai
  rw [hr] at hH hml ha
  have hw1 : IntKind.u64.wrap ((2 : Int) ^ n) = (t : Int) := by rw [hti]; exact IntWalk.u64_in _ (by omega)
  have hw2 : IntKind.u64.wrap ((t : Int) - 1) = (t : Int) - 1 := IntWalk.u64_in _ (by omega)
  have hai' : bits .and .u64 (q : Int) 1 = ((q % 2 : Nat) : Int) := hai
  have hdn : decide ((63 : Int) < (n : Int)) = false := decide_eq_false (by omega)
  obtain ⟨o, ho⟩ : ∃ o, q % 2 = o := ⟨_, rfl⟩
  rw [ho] at hai' hH
  have hol : o < 2 := by omega
  clear ht hq hr hai ho
  rcases (show t / 2 < r ∨ (r ≤ t / 2 ∧ r = t / 2 ∧ o = 1) ∨ (r ≤ t / 2 ∧ r = t / 2 ∧ o = 0) ∨ (r ≤ t / 2 ∧ r ≠ t / 2) by omega) with h1 | ⟨h1, h2, h3⟩ | ⟨h1, h2, h3⟩ | ⟨h1, h2⟩
  · have H1 := Lib.hid (hH.out.trans (if_pos (.inl h1)))
    have d1 : (t : Int) / 2 < (r : Int) := by omega
    clear hH h1
    go_enter Try.func38, Try.ntmps38
    go_wp2_with fail
    go_quiet (fail)
    go_wp2_with fail
    go_ret
    exact ⟨ret_int (by rw [H1.out]; simp), below_drewN _ _ _⟩
  · have H1 := Lib.hid (hH.out.trans (if_pos (.inr ⟨h2, h3⟩)))
    have d1 : decide ((t : Int) / 2 < (r : Int)) = false := decide_eq_false (by omega)
    have d2 : ((r : Int) == (t : Int) / 2) = true := by rw [beq_iff_eq]; omega
    have d2' : (r : Int) = (t : Int) / 2 := by omega
    have d3 : ((o : Int) == 1) = true := by rw [h3]; rfl
    have D2 := Lib.hid d2'
    clear hH h1 h2 h3 d2'
    go_enter Try.func38, Try.ntmps38
    go_wp2_with fail
    go_quiet (fail)
    go_wp2_with fail
    go_ret
    exact ⟨ret_int (by rw [H1.out]; simp), below_drewN _ _ _⟩
  · have H1 := Lib.hid (hH.out.trans (if_neg (by omega)))
    have d1 : decide ((t : Int) / 2 < (r : Int)) = false := decide_eq_false (by omega)
    have d2 : ((r : Int) == (t : Int) / 2) = true := by rw [beq_iff_eq]; omega
    have d3 : ((o : Int) == 1) = false := by rw [h3]; rfl
    clear hH h1 h2 h3
    go_enter Try.func38, Try.ntmps38
    go_wp2_with fail
    go_quiet (fail)
    go_wp2_with fail
    go_ret
    exact ⟨ret_int (by rw [H1.out]), below_drewN _ _ _⟩
  · have H1 := Lib.hid (hH.out.trans (if_neg (by omega)))
    have d1 : decide ((t : Int) / 2 < (r : Int)) = false := decide_eq_false (by omega)
    have d2 : ((r : Int) == (t : Int) / 2) = false := by rw [beq_eq_false_iff_ne]; omega
    clear hH h1 h2
    go_enter Try.func38, Try.ntmps38
    go_wp2_with fail
    go_quiet (fail)
    go_wp2_with fail
    go_ret
    exact ⟨ret_int (by rw [H1.out]), below_drewN _ _ _⟩
end Go.Proofs.Ytolgkehlnhkgiaa
