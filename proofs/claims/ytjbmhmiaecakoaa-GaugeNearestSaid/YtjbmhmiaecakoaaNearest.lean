/- The bits that gauge.Write writes are no farther than their neighbours: a plain law. No program. -/
import Derived.Test.YtjbmhmiaecakoaaWrite3
namespace Go.Proofs.Ytjbmhmiaecakoaa

def upOf (x : Nat) : Nat := (frac x + 4503599627370496) * 1000 * 2 ^ (expo x + 25)
def distOf (m x : Nat) : Nat := (upOf x - m * 2 ^ 1100) + (m * 2 ^ 1100 - upOf x)

def Near (m x : Nat) : Prop := distOf m x ≤ distOf m (x - 1) ∧ distOf m x ≤ distOf m (x + 1) ∧ (x % 2 = 1 → distOf m x < distOf m (x - 1) ∧ distOf m x < distOf m (x + 1))

theorem dist_mul {P A K : Nat} : P * K - A * K + (A * K - P * K) = (P - A + (A - P)) * K := by
  rw [Nat.add_mul, Nat.sub_mul, Nat.sub_mul]

theorem up_of {x d e D L g : Nat} (hd : frac x + 4503599627370496 = d) (he : expo x = e) (hs : 2 ^ (e + 25) = g * 2 ^ (L + 1037)) (_ : D = D) : upOf x = d * (1000 * g) * 2 ^ (L + 1037) := by
  unfold upOf
  rw [hd, he, hs, ← Nat.mul_assoc, Nat.mul_assoc d 1000 g]

theorem near_fin {A P Pm Pp K G : Nat} (hK : 0 < K) (o : Bool) (d1 : 2 * P ≤ 2 * A + G) (d2 : 2 * A ≤ 2 * P + G) (d3 : o = true → 2 * P < 2 * A + G ∧ 2 * A < 2 * P + G)
    (hp : P + G ≤ Pp) (hm : Pm + G = P ∨ (P ≤ A ∧ Pm < P)) :
    (P - A + (A - P)) * K ≤ (Pm - A + (A - Pm)) * K ∧ (P - A + (A - P)) * K ≤ (Pp - A + (A - Pp)) * K ∧ (o = true → (P - A + (A - P)) * K < (Pm - A + (A - Pm)) * K ∧ (P - A + (A - P)) * K < (Pp - A + (A - Pp)) * K) := by
  refine ⟨Nat.mul_le_mul_right _ (by omega), Nat.mul_le_mul_right _ (by omega), fun ho => ?_⟩
  obtain ⟨d4, d5⟩ := d3 ho
  exact ⟨Nat.mul_lt_mul_of_pos_right (by omega) hK, Nat.mul_lt_mul_of_pos_right (by omega) hK⟩

theorem Wrote.nearest {m x : Nat} (W : Wrote m x) : Near m x := by
  obtain ⟨d1, d2, d3⟩ := quoR_dist W.A (t := 1000 * W.h) (by have := W.hD; omega)
  rw [← W.hk] at d1 d2 d3
  have hx := W.hx
  have hL := W.hL
  have k1 := W.k1
  have k2 := W.k2
  have hb : m * 2 ^ 1100 = W.A * 2 ^ (W.L + 1037) := by
    have e : 63 - W.L + (W.L + 1037) = 1100 := by omega
    rw [W.hA, Nat.mul_assoc, ← Nat.pow_add, e]
  have hK := Nat.two_pow_pos (W.L + 1037)
  -- the powers
  have hpow : ∀ e, e + 25 = W.L + W.D + 1036 → 2 ^ (e + 25) = W.h * 2 ^ (W.L + 1037) := by
    intro e he
    rcases W.hD with ⟨hD, hh⟩ | ⟨hD, hh⟩
    · rw [hh, he, hD, show W.L + 2 + 1036 = 1 + (W.L + 1037) from by omega, Nat.pow_add]
    · rw [hh, he, hD, show W.L + 3 + 1036 = 2 + (W.L + 1037) from by omega, Nat.pow_add]
  have hpow2 : ∀ e, e + 25 = W.L + W.D + 1037 → 2 ^ (e + 25) = (W.h * 2) * 2 ^ (W.L + 1037) := by
    intro e he
    rcases W.hD with ⟨hD, hh⟩ | ⟨hD, hh⟩
    · rw [hh, he, hD, show W.L + 2 + 1037 = 2 + (W.L + 1037) from by omega, Nat.pow_add]
    · rw [hh, he, hD, show W.L + 3 + 1037 = 3 + (W.L + 1037) from by omega, Nat.pow_add]
  have hpow0 : ∀ e, e + 25 = W.L + W.D + 1035 → 2 ^ (e + 25) = (W.h / 2) * 2 ^ (W.L + 1037) := by
    intro e he
    rcases W.hD with ⟨hD, hh⟩ | ⟨hD, hh⟩
    · rw [hh, he, hD, show W.L + 2 + 1035 = W.L + 1037 from by omega, show 2 / 2 = 1 from rfl, Nat.one_mul]
    · rw [hh, he, hD, show W.L + 3 + 1035 = 1 + (W.L + 1037) from by omega, Nat.pow_add]
  have hh : W.h = 2 ∨ W.h = 4 := by have := W.hD; omega
  have hlo := W.lo
  have hDh := W.hD
  obtain ⟨K, hKK⟩ : ∃ K, 2 ^ (W.L + 1037) = K := ⟨_, rfl⟩
  rw [hKK] at hK
  have main : ∀ P Pm Pp : Nat, upOf x = P * K → upOf (x - 1) = Pm * K → upOf (x + 1) = Pp * K → P = W.kept * (1000 * W.h) → P + 1000 * W.h ≤ Pp → (Pm + 1000 * W.h = P ∨ (P ≤ W.A ∧ Pm < P)) → Near m x := by
    intro P Pm Pp e1 e2 e3 hP g1 g2
    have ho : decide (x % 2 = 1) = true → W.kept % 2 = 1 := by
      intro h
      have := of_decide_eq_true h
      omega
    rw [← hP] at d1 d2 d3
    have := near_fin (A := W.A) (G := 1000 * W.h) hK (decide (x % 2 = 1)) d1 d2 (fun h => d3 (ho h)) g1 g2
    unfold Near distOf
    rw [e1, e2, e3, hb, hKK, dist_mul, dist_mul, dist_mul]
    exact ⟨this.1, this.2.1, fun h => this.2.2 (decide_eq_true h)⟩
  have up' : ∀ {y d e g : Nat}, frac y + 4503599627370496 = d → expo y = e → 2 ^ (e + 25) = g * 2 ^ (W.L + 1037) → upOf y = d * (1000 * g) * K := by
    intro y d e g a1 a2 a3
    rw [← hKK]
    exact up_of (D := 0) a1 a2 a3 rfl
  rcases W.parts with ⟨hk, he, hf⟩ | ⟨hk, he, hf⟩
  · have u0 := up' (y := x) (d := W.kept) (by omega) he (hpow _ (by omega))
    by_cases hlast : W.kept + 1 < 9007199254740992
    · have up1 := up' (y := x + 1) (d := W.kept + 1) (e := W.L + W.D + 1011) (by unfold frac; omega) (by unfold expo; omega) (hpow _ (by omega))
      by_cases hfirst : 4503599627370496 < W.kept
      · have um1 := up' (y := x - 1) (d := W.kept - 1) (e := W.L + W.D + 1011) (by unfold frac; omega) (by unfold expo; omega) (hpow _ (by omega))
        refine main _ _ _ u0 um1 up1 rfl (by rw [Nat.add_mul, Nat.one_mul]; omega) (.inl ?_)
        rw [Nat.sub_mul, Nat.one_mul]
        have : 1 * (1000 * W.h) ≤ W.kept * (1000 * W.h) := Nat.mul_le_mul_right _ (by omega)
        omega
      · have um1 := up' (y := x - 1) (d := 9007199254740991) (e := W.L + W.D + 1010) (by unfold frac; omega) (by unfold expo; omega) (hpow0 _ (by omega))
        have hk0 : W.kept = 4503599627370496 := by omega
        refine main _ _ _ u0 um1 up1 rfl (by rw [Nat.add_mul, Nat.one_mul]; omega) (.inr ⟨by rw [hk0]; exact hlo, ?_⟩)
        rw [hk0]
        rcases hh with h | h <;> rw [h] <;> decide
    · have up1 := up' (y := x + 1) (d := 4503599627370496) (e := W.L + W.D + 1012) (by unfold frac; omega) (by unfold expo; omega) (hpow2 _ (by omega))
      have um1 := up' (y := x - 1) (d := W.kept - 1) (e := W.L + W.D + 1011) (by unfold frac; omega) (by unfold expo; omega) (hpow _ (by omega))
      have hk0 : W.kept = 9007199254740991 := by omega
      refine main _ _ _ u0 um1 up1 rfl ?_ (.inl ?_)
      · rw [hk0]
        rcases hh with h | h <;> rw [h] <;> decide
      · rw [hk0]
        rcases hh with h | h <;> rw [h]
  · have u0 := up' (y := x) (d := 4503599627370496) (e := W.L + W.D + 1012) (by omega) he (hpow2 _ (by omega))
    have up1 := up' (y := x + 1) (d := 4503599627370497) (e := W.L + W.D + 1012) (by unfold frac; omega) (by unfold expo; omega) (hpow2 _ (by omega))
    have um1 := up' (y := x - 1) (d := 9007199254740991) (e := W.L + W.D + 1011) (by unfold frac; omega) (by unfold expo; omega) (hpow _ (by omega))
    refine main _ _ _ u0 um1 up1 ?_ ?_ (.inl ?_)
    · rw [hk]
      rcases hh with h | h <;> rw [h]
    · rcases hh with h | h <;> rw [h] <;> decide
    · rcases hh with h | h <;> rw [h]

theorem near_top : Near 9007199254740992 4800945289168005628 := by unfold Near; decide +kernel
theorem expo_top : expo 4800945289168005628 = 1066 := by decide +kernel
end Go.Proofs.Ytjbmhmiaecakoaa
