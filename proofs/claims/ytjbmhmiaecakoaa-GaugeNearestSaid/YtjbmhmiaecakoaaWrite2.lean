/- What gauge.Write writes is read again, and is the nearest: plain lemmas. No program. -/
import Derived.Test.YtjbmhmiaecakoaaWrite
namespace Go.Proofs.Ytjbmhmiaecakoaa

theorem quoR_dist (u : Nat) {t : Nat} (ht : 0 < t) : 2 * (quoR u t * t) ≤ 2 * u + t ∧ 2 * u ≤ 2 * (quoR u t * t) + t ∧ (quoR u t % 2 = 1 → 2 * (quoR u t * t) < 2 * u + t ∧ 2 * u < 2 * (quoR u t * t) + t) := by
  have hu : u = u / t * t + u % t := by rw [Nat.mul_comm]; exact (Nat.div_add_mod u t).symm
  have hm := Nat.mod_lt u ht
  unfold quoR
  obtain ⟨q, hq⟩ : ∃ q, u / t = q := ⟨_, rfl⟩
  obtain ⟨r, hr⟩ : ∃ r, u % t = r := ⟨_, rfl⟩
  rw [hq, hr] at hu
  rw [hr] at hm
  rw [hq, hr]
  have e : (q + 1) * t = q * t + t := Nat.succ_mul q t
  by_cases hc : t < r + r ∨ (r + r = t ∧ q % 2 = 1)
  · rw [if_pos hc, e]
    obtain ⟨p, hp⟩ : ∃ p, q * t = p := ⟨_, rfl⟩
    rw [hp] at hu ⊢
    exact ⟨by omega, by omega, fun ho => ⟨by omega, by omega⟩⟩
  · rw [if_neg hc]
    obtain ⟨p, hp⟩ : ∃ p, q * t = p := ⟨_, rfl⟩
    rw [hp] at hu ⊢
    exact ⟨by omega, by omega, fun ho => ⟨by omega, by omega⟩⟩

theorem quoR_near {u t m : Nat} (h1 : 2 * u < 2 * (m * t) + t) (h2 : 2 * (m * t) < 2 * u + t) : quoR u t = m := by
  have ht : 0 < t := by omega
  unfold quoR
  by_cases h : m * t ≤ u
  · obtain ⟨r, hr⟩ : ∃ r, u = m * t + r := ⟨u - m * t, by omega⟩
    have hd : u / t = m := by rw [hr, Nat.mul_comm, Nat.mul_add_div ht, Nat.div_eq_of_lt (by omega), Nat.add_zero]
    have hm : u % t = r := by rw [hr, Nat.mul_comm, Nat.mul_add_mod, Nat.mod_eq_of_lt (by omega)]
    rw [hd, hm, if_neg (by omega)]
  · obtain ⟨j, rfl⟩ : ∃ j, m = j + 1 := by
      cases m with
      | zero => simp at h
      | succ j => exact ⟨j, rfl⟩
    have e : (j + 1) * t = j * t + t := Nat.succ_mul j t
    rw [e] at h h1 h2
    obtain ⟨r, hr⟩ : ∃ r, u = j * t + r := ⟨u - j * t, by omega⟩
    have hd : u / t = j := by rw [hr, Nat.mul_comm, Nat.mul_add_div ht, Nat.div_eq_of_lt (by omega), Nat.add_zero]
    have hm : u % t = r := by rw [hr, Nat.mul_comm, Nat.mul_add_mod, Nat.mod_eq_of_lt (by omega)]
    rw [hd, hm, if_pos (by omega)]

theorem Wrote.parts {m x : Nat} (W : Wrote m x) : (W.kept < 9007199254740992 ∧ expo x = W.L + W.D + 1011 ∧ frac x = W.kept - 4503599627370496) ∨ (W.kept = 9007199254740992 ∧ expo x = W.L + W.D + 1012 ∧ frac x = 0) := by
  have h1 := W.hx
  have h2 := W.k1
  have h3 := W.k2
  have h4 := W.hL
  have h5 := W.hD
  by_cases h : W.kept < 9007199254740992
  · refine .inl ⟨h, ?_, ?_⟩
    · unfold expo; omega
    · unfold frac; omega
  · refine .inr ⟨by omega, ?_, ?_⟩
    · unfold expo; omega
    · unfold frac; omega

theorem Wrote.small {m x : Nat} (W : Wrote m x) : x < 9223372036854775808 ∧ 1 ≤ expo x ∧ expo x < 1075 := by
  have h1 := W.hx
  have h3 := W.k2
  have h4 := W.hL
  have h5 := W.hD
  rcases W.parts with ⟨_, h, _⟩ | ⟨_, h, _⟩ <;> omega

theorem Wrote.refOf_eq {m x : Nat} (W : Wrote m x) : refOf x = quoOf (quoR ((frac x + 4503599627370496) * 1000) (2 ^ (1075 - expo x))) := by
  obtain ⟨h1, h2, h3⟩ := W.small
  unfold refOf
  rw [if_neg (by omega), if_neg (by omega), if_neg (by omega), if_pos h3, if_neg (show ¬ expo x = 0 by omega), if_neg (show ¬ expo x = 0 by omega)]

theorem Wrote.errs {m x : Nat} (W : Wrote m x) : (refOf x).2 = 0 ∨ (refOf x).2 = 3 := by
  rw [W.refOf_eq]
  unfold quoOf
  split
  · exact .inr rfl
  · exact .inl rfl

/-- The digits lie by at most 500 off. -/
theorem Wrote.near {m x : Nat} (W : Wrote m x) {n : Nat} (hn : n + W.L + W.D = 64) : 2 * (W.kept * 1000) ≤ 2 * (m * 2 ^ n) + 1000 ∧ 2 * (m * 2 ^ n) ≤ 2 * (W.kept * 1000) + 1000 := by
  obtain ⟨d1, d2, _⟩ := quoR_dist W.A (t := 1000 * W.h) (by have := W.hD; omega)
  rw [← W.hk] at d1 d2
  have hA := W.hA
  have e : 2 ^ (63 - W.L) = 2 ^ n * W.h := by
    rcases W.hD with ⟨hD, hh⟩ | ⟨hD, hh⟩
    · rw [hh, show 63 - W.L = n + 1 from by omega, Nat.pow_succ]
    · rw [hh, show 63 - W.L = n + 2 from by omega, Nat.pow_add]
  rw [e, ← Nat.mul_assoc] at hA
  obtain ⟨B, hB⟩ : ∃ B, m * 2 ^ n = B := ⟨_, rfl⟩
  obtain ⟨k, hk⟩ : ∃ k, W.kept = k := ⟨_, rfl⟩
  rw [hB] at hA ⊢
  rw [hk] at d1 d2 ⊢
  rcases W.hD with ⟨_, hh⟩ | ⟨_, hh⟩
  · rw [hh] at hA d1 d2; omega
  · rw [hh] at hA d1 d2; omega

theorem Wrote.again {m x : Nat} (W : Wrote m x) (hm : m ≤ 1099511627776) : refOf x = (m, 0) := by
  have hL : W.L ≤ 40 := by
    rcases Nat.lt_or_ge 40 W.L with h | h
    · have h1 : 2 ^ 41 ≤ 2 ^ W.L := Nat.pow_le_pow_right (by decide) h
      have h2 := W.low
      have e : (2 : Nat) ^ 41 = 2199023255552 := by decide
      omega
    · exact h
  rw [W.refOf_eq]
  have key : quoR ((frac x + 4503599627370496) * 1000) (2 ^ (1075 - expo x)) = m := by
    have hD := W.hD
    have hkl := W.k1
    rcases W.parts with ⟨hk, he, hf⟩ | ⟨hk, he, hf⟩
    · obtain ⟨d1, d2⟩ := W.near (n := 1075 - expo x) (by omega)
      have hp : 2 ^ 20 ≤ 2 ^ (1075 - expo x) := Nat.pow_le_pow_right (by decide) (by omega)
      have e20 : (2 : Nat) ^ 20 = 1048576 := by decide
      rw [hf, show W.kept - 4503599627370496 + 4503599627370496 = W.kept from by omega]
      exact quoR_near (by omega) (by omega)
    · obtain ⟨d1, d2⟩ := W.near (n := 1075 - expo x + 1) (by omega)
      have hp : 2 ^ 20 ≤ 2 ^ (1075 - expo x) := Nat.pow_le_pow_right (by decide) (by omega)
      have e20 : (2 : Nat) ^ 20 = 1048576 := by decide
      have e2 : m * 2 ^ (1075 - expo x + 1) = 2 * (m * 2 ^ (1075 - expo x)) := by rw [Nat.pow_succ, ← Nat.mul_assoc, Nat.mul_comm]
      rw [e2] at d1 d2
      rw [hf]
      exact quoR_near (by omega) (by omega)
  rw [key]
  unfold quoOf
  rw [if_neg (by omega)]
end Go.Proofs.Ytjbmhmiaecakoaa
