/- What gauge.Write's division gives, in whole numbers: plain lemmas. No program. -/
import Derived.Test.YtjbmhmiaecakoaaGauge4
import Derived.Laws.FloatArith
namespace Go.Proofs.Ytjbmhmiaecakoaa
open Ieee

theorem cut_even {n d : Nat} (hd : d ≤ n.log2 + 2) : Toward.even.cut false n d = quoR n (2 ^ d) := by
  unfold Toward.cut quoR
  rw [Nat.min_eq_left hd, Nat.shiftLeft_eq, Nat.one_mul]
  obtain ⟨g, hg⟩ : ∃ g, 2 ^ d = g := ⟨_, rfl⟩
  rw [hg]
  obtain ⟨r, hr⟩ : ∃ r, n % g = r := ⟨_, rfl⟩
  obtain ⟨q, hq⟩ : ∃ q, n / g = q := ⟨_, rfl⟩
  dsimp only
  rw [hr, hq]
  by_cases hc : g < r + r ∨ (r + r = g ∧ q % 2 = 1)
  · rw [if_pos hc]
    have : (decide (g < 2 * r) || (g == 2 * r && q % 2 == 1)) = true := by
      rw [Bool.or_eq_true, Bool.and_eq_true, decide_eq_true_eq, beq_iff_eq, beq_iff_eq]; omega
    rw [this]; rfl
  · rw [if_neg hc]
    have : (decide (g < 2 * r) || (g == 2 * r && q % 2 == 1)) = false := by
      rw [Bool.eq_false_iff, Ne, Bool.or_eq_true, Bool.and_eq_true, decide_eq_true_eq, beq_iff_eq, beq_iff_eq]; omega
    rw [this]; rfl

theorem word_pos (r : Nat) : double.word false r = r := by unfold Format.word; rw [if_neg (by decide)]

/-- A whole number below 2 to the power of 53, as a float64, and what that stands for. -/
theorem read_int {m : Nat} (h1 : 1 ≤ m) (h2 : m < 9007199254740992) : ∃ L : Nat, L ≤ 52 ∧ 2 ^ L ≤ m ∧ m < 2 ^ (L + 1) ∧ double.read (double.nearest false m 0) = .number false (m * 2 ^ (52 - L)) ((L : Int) - 52) := by
  have hlo := Nat.log2_self_le (n := m) (by omega)
  have hhi := Nat.lt_log2_self (n := m)
  obtain ⟨L, hL⟩ : ∃ L, m.log2 = L := ⟨_, rfl⟩
  rw [hL] at hlo hhi
  have hL52 : L ≤ 52 := by
    rcases Nat.lt_or_ge 52 L with h | h
    · have : 2 ^ 53 ≤ 2 ^ L := Nat.pow_le_pow_right (by decide) h
      have e : (2 : Nat) ^ 53 = 9007199254740992 := by decide
      omega
    · exact h
  refine ⟨L, hL52, hlo, hhi, ?_⟩
  have hp := Nat.two_pow_pos (52 - L)
  have e52 : 2 ^ L * 2 ^ (52 - L) = 4503599627370496 := by rw [← Nat.pow_add, show L + (52 - L) = 52 from by omega]
  have k1 : 4503599627370496 ≤ m * 2 ^ (52 - L) := by rw [← e52]; exact Nat.mul_le_mul_right _ hlo
  have k2 : m * 2 ^ (52 - L) < 9007199254740992 := by
    have : m * 2 ^ (52 - L) < 2 ^ (L + 1) * 2 ^ (52 - L) := Nat.mul_lt_mul_of_pos_right hhi hp
    rw [Nat.pow_succ, Nat.mul_right_comm, e52] at this
    omega
  have hn : double.nearest false m 0 = (L + 1022) * 4503599627370496 + m * 2 ^ (52 - L) := by
    unfold Format.nearest
    rw [if_neg (by omega), hL, dbl_least, dbl_bin, dbl_inf]
    have e1 : max ((0 : Int) + ((L : Nat) : Int) - ((double.fractionBits : Nat) : Int)) (-1074) = (L : Int) - 52 := by
      have : double.fractionBits = 52 := rfl
      rw [this]; omega
    dsimp only
    rw [e1]
    have e2 : ((0 : Int) - ((L : Int) - 52)).toNat = 52 - L := by omega
    have e3 : ((L : Int) - 52 - 0).toNat = 0 := by omega
    have e4 : ((L : Int) - 52 - -1074).toNat = L + 1022 := by omega
    rw [e2, e3, e4, cut_even (Nat.zero_le _), Nat.pow_zero, quoR_one, Nat.shiftLeft_eq, word_pos]
    exact Nat.min_eq_left (by omega)
  rw [hn]
  obtain ⟨q, hq⟩ : ∃ q, m * 2 ^ (52 - L) = q := ⟨_, rfl⟩
  rw [hq] at k1 k2 ⊢
  have hx : (L + 1022) * 4503599627370496 + q < 9223372036854775808 := by omega
  have he : expo ((L + 1022) * 4503599627370496 + q) = L + 1023 := by unfold expo; omega
  have hf : frac ((L + 1022) * 4503599627370496 + q) = q - 4503599627370496 := by unfold frac; omega
  have h := read_fin _ (show (L + 1022) * 4503599627370496 + q < 18446744073709551616 by omega) (by rw [he]; omega)
  rw [he, hf, if_neg (show ¬ (L + 1023 = 0) by omega), decide_eq_false (show ¬ (9223372036854775808 ≤ (L + 1022) * 4503599627370496 + q) by omega)] at h
  have a1 : 4503599627370496 + (q - 4503599627370496) = q := by omega
  have a2 : (-1074 + ((L + 1023 - 1 : Nat) : Int)) = (L : Int) - 52 := by omega
  rw [a1, a2] at h
  exact h

/-- The quotient by 1000 to the nearest, of two to the even one. -/
theorem sticky {A h Q : Nat} (hh : h = 2 ∨ h = 4) (hQ : Q = 2 * (A / 1000) + if A % 1000 = 0 then 0 else 1) : quoR Q (2 * h) = quoR A (1000 * h) := by
  have hA : A = 1000 * (A / 1000) + A % 1000 := by omega
  obtain ⟨a, ha⟩ : ∃ a, A / 1000 = a := ⟨_, rfl⟩
  obtain ⟨r, hr⟩ : ∃ r, A % 1000 = r := ⟨_, rfl⟩
  have hr2 : r < 1000 := by omega
  rw [ha, hr] at hA hQ
  unfold quoR
  rcases hh with rfl | rfl
  · have d1 : Q / (2 * 2) = a / 2 := by split at hQ <;> omega
    have d2 : A / (1000 * 2) = a / 2 := by omega
    have m1 : Q % (2 * 2) = 2 * (a % 2) + if r = 0 then 0 else 1 := by split at hQ <;> split <;> omega
    have m2 : A % (1000 * 2) = 1000 * (a % 2) + r := by omega
    rw [d1, d2, m1, m2]
    have c1 : a % 2 < 2 := by omega
    obtain ⟨x, hx⟩ : ∃ x, a % 2 = x := ⟨_, rfl⟩
    rw [hx] at c1 ⊢
    by_cases h0 : r = 0
    · rw [if_pos h0]
      congr 1
      exact propext (by omega)
    · rw [if_neg h0]
      congr 1
      exact propext (by omega)
  · have d1 : Q / (2 * 4) = a / 4 := by split at hQ <;> omega
    have d2 : A / (1000 * 4) = a / 4 := by omega
    have m1 : Q % (2 * 4) = 2 * (a % 4) + if r = 0 then 0 else 1 := by split at hQ <;> split <;> omega
    have m2 : A % (1000 * 4) = 1000 * (a % 4) + r := by omega
    rw [d1, d2, m1, m2]
    have c1 : a % 4 < 4 := by omega
    obtain ⟨x, hx⟩ : ∃ x, a % 4 = x := ⟨_, rfl⟩
    rw [hx] at c1 ⊢
    by_cases h0 : r = 0
    · rw [if_pos h0]
      congr 1
      exact propext (by omega)
    · rw [if_neg h0]
      congr 1
      exact propext (by omega)

theorem log2_of {n k : Nat} (h1 : 2 ^ k ≤ n) (h2 : n < 2 ^ (k + 1)) : n.log2 = k := by
  have hn : n ≠ 0 := by have := Nat.two_pow_pos k; omega
  have a := (Nat.le_log2 hn).2 h1
  have b := (Nat.log2_lt hn).2 h2
  omega

theorem quoR_bounds (A G : Nat) : A / G ≤ quoR A G ∧ quoR A G ≤ A / G + 1 := by unfold quoR; split <;> omega

theorem bne_mul (a : Nat) {c : Nat} (hc : 0 < c) : ((a * c != 0) : Bool).toNat = if a = 0 then 0 else 1 := by
  by_cases h0 : a = 0
  · rw [if_pos h0, h0, Nat.zero_mul]; rfl
  · have h : a * c ≠ 0 := Nat.mul_ne_zero h0 (by omega)
    have : (a * c != 0) = true := bne_iff_ne.2 h
    rw [if_neg h0, this]; rfl

/-- What the bits of a quantity are made of. -/
structure Wrote (m x : Nat) where
  L : Nat
  D : Nat
  h : Nat
  A : Nat
  kept : Nat
  hL : L ≤ 52
  hD : (D = 2 ∧ h = 2) ∨ (D = 3 ∧ h = 4)
  hA : A = m * 2 ^ (63 - L)
  lo : 4503599627370496 * (1000 * h) ≤ A
  hi : A < 9007199254740992 * (1000 * h)
  hk : kept = quoR A (1000 * h)
  k1 : 4503599627370496 ≤ kept
  k2 : kept ≤ 9007199254740992
  hx : x = (L + D + 1010) * 4503599627370496 + kept
  low : 2 ^ L ≤ m

theorem read_thousand : double.read 4652007308841189376 = .number false 8796093022208000 (-43) := by rfl

theorem wrote {m : Nat} (h1 : 1 ≤ m) (h2 : m < 9007199254740992) : ∃ x, double.div (double.nearest false m 0) 4652007308841189376 = some x ∧ Nonempty (Wrote m x) := by
  obtain ⟨L, hL, hlo, hhi, hr⟩ := read_int h1 h2
  obtain ⟨A, hA⟩ : ∃ A, m * 2 ^ (63 - L) = A := ⟨_, rfl⟩
  have hp63 : 2 ^ L * 2 ^ (63 - L) = 9223372036854775808 := by rw [← Nat.pow_add, show L + (63 - L) = 63 from by omega]
  have hA1 : 9223372036854775808 ≤ A := by rw [← hA, ← hp63]; exact Nat.mul_le_mul_right _ hlo
  have hA2 : A < 18446744073709551616 := by
    have : m * 2 ^ (63 - L) < 2 ^ (L + 1) * 2 ^ (63 - L) := Nat.mul_lt_mul_of_pos_right hhi (Nat.two_pow_pos _)
    rw [Nat.pow_succ, Nat.mul_right_comm, hp63, hA] at this
    omega
  have hp52 : 2 ^ L * 2 ^ (52 - L) = 4503599627370496 := by rw [← Nat.pow_add, show L + (52 - L) = 52 from by omega]
  have hM1 : 2 ^ 52 ≤ m * 2 ^ (52 - L) := by
    rw [show (2 : Nat) ^ 52 = 4503599627370496 from rfl, ← hp52]; exact Nat.mul_le_mul_right _ hlo
  have hM2 : m * 2 ^ (52 - L) < 2 ^ (52 + 1) := by
    have : m * 2 ^ (52 - L) < 2 ^ (L + 1) * 2 ^ (52 - L) := Nat.mul_lt_mul_of_pos_right hhi (Nat.two_pow_pos _)
    rw [Nat.pow_succ, Nat.mul_right_comm, hp52] at this
    omega
  have hMA : m * 2 ^ (52 - L) * 2 ^ 54 = A * 8796093022208 := by
    rw [← hA, Nat.mul_assoc, Nat.mul_assoc, ← Nat.pow_add, show (8796093022208 : Nat) = 2 ^ 43 from rfl, ← Nat.pow_add]
    congr 2
    omega
  have hlogM := log2_of hM1 hM2
  obtain ⟨M, hM⟩ : ∃ M, m * 2 ^ (52 - L) = M := ⟨_, rfl⟩
  rw [hM] at hr hMA hlogM
  clear hM hM1 hM2
  obtain ⟨Q, hQ⟩ : ∃ Q, 2 * (A / 1000) + (if A % 1000 = 0 then 0 else 1) = Q := ⟨_, rfl⟩
  have hq : (Datum.number false M ((L : Int) - 52)).quotient 54 (.number false 8796093022208000 (-43)) = some (.number false Q ((L : Int) - 64)) := by
    unfold Datum.quotient
    have e1 : (8796093022208000 : Nat).log2 = 52 := log2_of (by decide +kernel) (by decide +kernel)
    dsimp only
    rw [if_neg (by decide), e1, hlogM, Nat.shiftLeft_eq, show 54 + 52 - 52 = 54 from rfl, hMA]
    have e2 : (8796093022208000 : Nat) = 1000 * 8796093022208 := by decide +kernel
    have e3 : A * 8796093022208 / 8796093022208000 = A / 1000 := by rw [e2]; exact Nat.mul_div_mul_right _ _ (by decide)
    have e4 : A * 8796093022208 % 8796093022208000 = A % 1000 * 8796093022208 := by rw [e2]; exact Nat.mul_mod_mul_right _ _ _
    rw [e3, e4, ← hQ]
    have e5 := bne_mul (A % 1000) (c := 8796093022208) (Nat.zero_lt_succ _)
    rw [e5]
    have e6 : (L : Int) - 52 - -43 - ((54 : Nat) : Int) - 1 = (L : Int) - 64 := by omega
    rw [e6]
    rfl
  have fin : ∀ D h : Nat, ((D = 2 ∧ h = 2) ∨ (D = 3 ∧ h = 4)) → 2 ^ D = 2 * h → Q.log2 = D + 52 → 4503599627370496 * (1000 * h) ≤ A → A < 9007199254740992 * (1000 * h) →
      ∃ x, double.div (double.nearest false m 0) 4652007308841189376 = some x ∧ Nonempty (Wrote m x) := by
    intro D h hDh hpow hlog g1 g2
    have hk := sticky (A := A) (h := h) (Q := Q) (by omega) hQ.symm
    obtain ⟨b1, b2⟩ := quoR_bounds A (1000 * h)
    have hGp : 0 < 1000 * h := by omega
    have d1 : 4503599627370496 ≤ A / (1000 * h) := (Nat.le_div_iff_mul_le hGp).2 g1
    have d2 : A / (1000 * h) < 9007199254740992 := (Nat.div_lt_iff_lt_mul hGp).2 g2
    obtain ⟨kept, hkept⟩ : ∃ kept, quoR A (1000 * h) = kept := ⟨_, rfl⟩
    rw [hkept] at b1 b2 hk
    refine ⟨(L + D + 1010) * 4503599627370496 + kept, ?_, ⟨⟨L, D, h, A, kept, hL, hDh, hA.symm, g1, g2, hkept.symm, by omega, by omega, rfl, hlo⟩⟩⟩
    unfold Format.div
    rw [hr, read_thousand, show double.fractionBits + 2 = 54 from rfl, hq]
    show some (double.nearest false Q ((L : Int) - 64)) = _
    congr 1
    unfold Format.nearest
    have hQ0 : ¬ Q = 0 := by omega
    rw [if_neg hQ0, hlog, dbl_least, dbl_bin, dbl_inf]
    have e1 : max ((L : Int) - 64 + ((D + 52 : Nat) : Int) - ((double.fractionBits : Nat) : Int)) (-1074) = (L : Int) - 64 + D := by
      have : double.fractionBits = 52 := rfl
      rw [this]; omega
    dsimp only
    rw [e1]
    have e2 : ((L : Int) - 64 - ((L : Int) - 64 + D)).toNat = 0 := by omega
    have e3 : ((L : Int) - 64 + (D : Int) - ((L : Int) - 64)).toNat = D := by omega
    have e4 : ((L : Int) - 64 + (D : Int) - -1074).toNat = L + D + 1010 := by omega
    rw [e2, e3, e4, Nat.shiftLeft_eq, Nat.pow_zero, Nat.mul_one, cut_even (by omega), hpow, hk, word_pos]
    exact Nat.min_eq_left (by omega)
  by_cases hs : Q < 36028797018963968
  · exact fin 2 2 (.inl ⟨rfl, rfl⟩) rfl (log2_of (k := 54) (by rw [show (2 : Nat) ^ 54 = 18014398509481984 from rfl]; split at hQ <;> omega) hs) (by omega) (by split at hQ <;> omega)
  · exact fin 3 4 (.inr ⟨rfl, rfl⟩) rfl (log2_of (k := 55) (by rw [show (2 : Nat) ^ 55 = 36028797018963968 from rfl]; omega) (by rw [show (2 : Nat) ^ (55 + 1) = 72057594037927936 from rfl]; split at hQ <;> omega)) (by split at hQ <;> omega) (by omega)
end Go.Proofs.Ytjbmhmiaecakoaa
