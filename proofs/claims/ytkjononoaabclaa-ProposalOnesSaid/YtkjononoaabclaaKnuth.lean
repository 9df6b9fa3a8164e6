/- Plain arithmetic of a division of two words by one, digit by digit. No condition. -/
import Derived.Test.YtkjononoaabclaaBase
namespace Go.Proofs.Ytkjononoaabclaa
/-- One digit's guess: y = y1 * 2^32 + y0, the guess q with rest rh. -/
structure Dig (u d y1 y0 q rh : Nat) : Prop where
  eq : q * y1 + rh = u
  up : u * 4294967296 + d < (q + 1) * (y1 * 4294967296 + y0)

theorem dig_start {u d y1 y0 : Nat} (hd : d < 4294967296) (h1 : 0 < y1) : Dig u d y1 y0 (u / y1) (u % y1) := by
  have e := Nat.div_add_mod u y1
  have hm := Nat.mod_lt u h1
  rw [Nat.mul_comm] at e
  refine ⟨e, ?_⟩
  have e2 : (u / y1 + 1) * y1 = u / y1 * y1 + y1 := Nat.succ_mul _ _
  have h3 : u + 1 ≤ (u / y1 + 1) * y1 := by omega
  have h4 : (u / y1 + 1) * (y1 * 4294967296 + y0) = (u / y1 + 1) * y1 * 4294967296 + (u / y1 + 1) * y0 := by rw [Nat.mul_add, Nat.mul_assoc]
  omega

theorem start_le {u y1 y0 : Nat} (h1 : 2147483648 ≤ y1) (h0 : y0 < 4294967296) (hu : u < y1 * 4294967296 + y0) : u / y1 ≤ 4294967297 := by
  apply Nat.le_of_lt_succ
  rw [Nat.div_lt_iff_lt_mul (by omega)]
  omega

theorem dig_down1 {u d y1 y0 q rh : Nat} (D : Dig u d y1 y0 q rh) (hd : d < 4294967296) (hu : u < y1 * 4294967296 + y0) (hq : 4294967296 ≤ q) : Dig u d y1 y0 (q - 1) (rh + y1) := by
  obtain ⟨e, h⟩ := D
  obtain ⟨p, rfl⟩ : ∃ p, q = p + 1 := ⟨q - 1, by omega⟩
  refine ⟨by rw [Nat.succ_mul] at e; show p * y1 + _ = u; omega, ?_⟩
  show _ < (p + 1) * _
  have h2 := Nat.mul_le_mul hq (Nat.le_refl (y1 * 4294967296 + y0))
  omega

theorem dig_down2 {u d y1 y0 q rh : Nat} (D : Dig u d y1 y0 q rh) (hq : 4294967296 * rh + d < q * y0) : Dig u d y1 y0 (q - 1) (rh + y1) ∧ 1 ≤ q := by
  obtain ⟨e, h⟩ := D
  have h1 : 1 ≤ q := by
    rcases q with _ | q
    · simp at hq
    · omega
  obtain ⟨p, rfl⟩ : ∃ p, q = p + 1 := ⟨q - 1, by omega⟩
  have h2 : (p + 1) * (y1 * 4294967296 + y0) = (p + 1) * y1 * 4294967296 + (p + 1) * y0 := by rw [Nat.mul_add, Nat.mul_assoc]
  refine ⟨⟨?_, ?_⟩, h1⟩
  · show p * y1 + _ = u
    rw [Nat.succ_mul] at e
    omega
  · show _ < (p + 1) * _
    omega

theorem dig_end1 {u d y1 y0 q rh : Nat} (D : Dig u d y1 y0 q rh) (hq : q * y0 ≤ 4294967296 * rh + d) : q * (y1 * 4294967296 + y0) ≤ u * 4294967296 + d := by
  obtain ⟨e, h⟩ := D
  have h2 : q * (y1 * 4294967296 + y0) = q * y1 * 4294967296 + q * y0 := by rw [Nat.mul_add, Nat.mul_assoc]
  omega

theorem dig_end2 {u d y1 y0 q rh : Nat} (D : Dig u d y1 y0 q rh) (hq : q ≤ 4294967296) (h0 : y0 < 4294967296) (hr : 4294967296 ≤ rh) : q * (y1 * 4294967296 + y0) ≤ u * 4294967296 + d := by
  obtain ⟨e, h⟩ := D
  have h2 : q * (y1 * 4294967296 + y0) = q * y1 * 4294967296 + q * y0 := by rw [Nat.mul_add, Nat.mul_assoc]
  have h3 := Nat.mul_le_mul hq (show y0 ≤ 4294967295 by omega)
  omega

theorem dig_lt {u d y1 y0 q : Nat} (hd : d < 4294967296) (hu : u < y1 * 4294967296 + y0) (h : q * (y1 * 4294967296 + y0) ≤ u * 4294967296 + d) : q < 4294967296 := by
  apply Decidable.byContradiction
  intro hn
  have h2 := Nat.mul_le_mul (show 4294967296 ≤ q by omega) (Nat.le_refl (y1 * 4294967296 + y0))
  omega

theorem two_sum {N Z B t U u1 u0 q1 q0 r1 r0 : Nat}
    (hN : N * t = (U * B + u1) * B + u0)
    (h1 : U * B + u1 = q1 * Z + r1) (h0 : r1 * B + u0 = q0 * Z + r0) : N * t = (q1 * B + q0) * Z + r0 := by
  rw [hN, h1, Nat.add_mul, Nat.add_mul, Nat.add_assoc, h0, Nat.mul_right_comm]
  omega

/-- The two digits together are the quotient. -/
theorem two_digits {N y t U u1 u0 q1 q0 r1 r0 : Nat} (ht : 0 < t)
    (hN : N * t = (U * 4294967296 + u1) * 4294967296 + u0)
    (h1 : U * 4294967296 + u1 = q1 * (y * t) + r1) (h0 : r1 * 4294967296 + u0 = q0 * (y * t) + r0) (hr : r0 < y * t) :
    N / y = q1 * 4294967296 + q0 ∧ N % y = r0 / t := by
  have hy : 0 < y := by
    rcases y with _ | y
    · simp at hr
    · omega
  have e := two_sum hN h1 h0
  obtain ⟨Q, hQ⟩ : ∃ Q, q1 * 4294967296 + q0 = Q := ⟨_, rfl⟩
  rw [hQ] at e ⊢
  rw [← Nat.mul_assoc] at e
  have a1 : Q * y ≤ N := Nat.le_of_mul_le_mul_right (by omega) ht
  obtain ⟨R, rfl⟩ : ∃ R, N = Q * y + R := ⟨N - Q * y, by omega⟩
  rw [Nat.add_mul] at e
  have e2 : R * t = r0 := by omega
  have hR : R < y := Nat.lt_of_mul_lt_mul_right (show R * t < y * t by omega)
  refine ⟨?_, ?_⟩
  · rw [Nat.mul_comm, Nat.mul_add_div hy, Nat.div_eq_of_lt hR, Nat.add_zero]
  · rw [Nat.mul_comm Q y, Nat.mul_add_mod, Nat.mod_eq_of_lt hR, ← e2, Nat.mul_div_cancel _ ht]

/-- A number of two words, shifted: the upper word and the two digits of the lower one. -/
theorem shifted {hi lo t v : Nat} (htv : t * v = 18446744073709551616) :
    (hi * 18446744073709551616 + lo) * t = ((hi * t + lo / v) * 4294967296 + lo * t % 18446744073709551616 / 4294967296) * 4294967296 + lo * t % 18446744073709551616 % 4294967296 := by
  have e : (hi * 18446744073709551616 + lo) * t = hi * t * 18446744073709551616 + lo * t := by rw [Nat.add_mul, Nat.mul_right_comm]
  have h1 : lo * t / 18446744073709551616 = lo / v := by
    rw [← htv, Nat.mul_comm t v, Nat.mul_div_mul_right _ _ (by rcases t with _ | t; simp at htv; omega)]
  rw [e, ← h1]
  omega

theorem shifted_lt {hi lo y t v : Nat} (htv : t * v = 18446744073709551616) (h : hi < y) (hl : lo < 18446744073709551616) : hi * t + lo / v < y * t := by
  have h2 : lo / v < t := by
    rw [Nat.div_lt_iff_lt_mul (by rcases v with _ | v; simp at htv; omega), htv]
    exact hl
  have h3 := Nat.mul_le_mul (show hi + 1 ≤ y from h) (Nat.le_refl t)
  rw [Nat.succ_mul] at h3
  omega

/-- What the wrapped difference is. -/
theorem wrap_rest {u d q r : Int} (h : u * 4294967296 + d = q + r) (h0 : 0 ≤ r) (h1 : r < 18446744073709551616) :
    (((u * 4294967296) % 18446744073709551616 + d) % 18446744073709551616 - q % 18446744073709551616) % 18446744073709551616 = r := by
  omega
end Go.Proofs.Ytkjononoaabclaa
