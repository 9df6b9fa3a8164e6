/- How the words of finite floats, not below 0, and -0 stand to one another. No program. -/
import Derived.Test.YteolfpgdpajldaaFloat
namespace Go.Proofs.Yteolfpgdpajldaa
open Ieee

theorem shl_lt {m m' k : Nat} (h : m < 9007199254740992) (h' : 4503599627370496 ≤ m') (hk : 1 ≤ k) : m < m' <<< k := by
  rw [Nat.shiftLeft_eq]
  have h2 : 2 ^ 1 ≤ 2 ^ k := Nat.pow_le_pow_right (by decide) hk
  have h3 : m' * 2 ^ 1 ≤ m' * 2 ^ k := Nat.mul_le_mul_left _ h2
  omega

theorem shl_le {m m' : Nat} (k : Nat) (h : m < m') : m < m' <<< k := by
  rw [Nat.shiftLeft_eq]
  exact Nat.lt_of_lt_of_le h (Nat.le_mul_of_pos_right _ (Nat.two_pow_pos k))

/-- The significand and the place of a word that is finite, not below 0. -/
def mant (x : Nat) : Nat := if expo x = 0 then frac x else 4503599627370496 + frac x
def plc (x : Nat) : Nat := expo x - 1

theorem fl_read_pos (x : Nat) (hx : x < 9218868437227405312) : double.read x = .number false (mant x) (-1074 + (plc x : Int)) := by
  have he : expo x < 2047 := by unfold expo; omega
  rw [read_fin x (by omega) he]
  have hs : decide (9223372036854775808 ≤ x) = false := decide_eq_false (by omega)
  rw [hs]
  unfold mant plc
  by_cases h0 : expo x = 0
  · rw [if_pos h0, if_pos h0, h0]
    rfl
  · rw [if_neg h0, if_neg h0]

theorem order_nums (m m' k k' : Nat) : (Datum.number false m (-1074 + (k : Int))).order (.number false m' (-1074 + (k' : Int))) = some (compare (((m <<< (k - min k k') : Nat)) : Int) ((m' <<< (k' - min k k') : Nat) : Int)) := by
  unfold Datum.order
  dsimp only
  have e1 : min (-1074 + (k : Int)) (-1074 + (k' : Int)) = -1074 + ((min k k' : Nat) : Int) := by omega
  rw [e1]
  have e2 : (-1074 + (k : Int) - (-1074 + ((min k k' : Nat) : Int))).toNat = k - min k k' := by omega
  have e3 : (-1074 + (k' : Int) - (-1074 + ((min k k' : Nat) : Int))).toNat = k' - min k k' := by omega
  rw [e2, e3]
  rfl

theorem num_lt {x y : Nat} (hxy : x < y) (hy : y < 9218868437227405312) : (mant x <<< (plc x - min (plc x) (plc y))) < (mant y <<< (plc y - min (plc x) (plc y))) := by
  have ex : x = expo x * 4503599627370496 + frac x := by unfold expo frac; omega
  have ey : y = expo y * 4503599627370496 + frac y := by unfold expo frac; omega
  have fx : frac x < 4503599627370496 := Nat.mod_lt _ (by decide)
  have fy : frac y < 4503599627370496 := Nat.mod_lt _ (by decide)
  obtain ⟨a, ha⟩ : ∃ a, expo x = a := ⟨_, rfl⟩
  obtain ⟨b, hb⟩ : ∃ b, expo y = b := ⟨_, rfl⟩
  obtain ⟨f, hf⟩ : ∃ f, frac x = f := ⟨_, rfl⟩
  obtain ⟨g, hg⟩ : ∃ g, frac y = g := ⟨_, rfl⟩
  unfold mant plc
  rw [ha, hf] at ex
  rw [hb, hg] at ey
  rw [hf] at fx
  rw [hg] at fy
  rw [ha, hb, hf, hg]
  clear ha hb hf hg
  have hab : a ≤ b := by omega
  have hmin : min (a - 1) (b - 1) = a - 1 := by omega
  rw [hmin, Nat.sub_self, Nat.shiftLeft_zero]
  by_cases e : a = b
  · subst e
    rw [Nat.sub_self, Nat.shiftLeft_zero]
    split <;> omega
  · rw [if_neg (show ¬ b = 0 by omega)]
    by_cases h0 : a = 0
    · rw [if_pos h0]
      exact shl_le _ (by omega)
    · rw [if_neg h0]
      exact shl_lt (by omega) (by omega) (by omega)

theorem order_pos {x y : Nat} (hx : x < 9218868437227405312) (hy : y < 9218868437227405312) : double.order x y = some (compare (x : Int) (y : Int)) := by
  unfold Format.order
  rw [fl_read_pos x hx, fl_read_pos y hy, order_nums]
  congr 1
  rcases Nat.lt_trichotomy x y with h | h | h
  · rw [Int.compare_eq_lt.2 (by have := num_lt h hy; omega), Int.compare_eq_lt.2 (by omega)]
  · subst h
    rw [compare_self, compare_self]
  · have h2 := num_lt h hx
    rw [Nat.min_comm] at h2
    rw [Int.compare_eq_gt.2 (by omega), Int.compare_eq_gt.2 (by omega)]

/-- What a word stands for: -0 as 0. -/
def valW (x : Nat) : Nat := if x = 9223372036854775808 then 0 else x

theorem read_neg0 : double.read 9223372036854775808 = .number true 0 (-1074) := by rfl
theorem read_zero : double.read 0 = .number false 0 (-1074) := by rfl

theorem signed_zero (s : Bool) (k : Nat) : signed s 0 k = 0 := by cases s <;> simp [signed]

theorem order_neg0 (d : Datum) (h : ∃ s m p, d = .number s m p) : (Datum.number true 0 (-1074)).order d = (Datum.number false 0 (-1074)).order d ∧ d.order (.number true 0 (-1074)) = d.order (.number false 0 (-1074)) := by
  obtain ⟨s, m, p, rfl⟩ := h
  unfold Datum.order
  dsimp only
  simp only [signed_zero]
  exact ⟨trivial, trivial⟩

theorem order_good {x y : Nat} (hx : x < 9218868437227405312 ∨ x = 9223372036854775808) (hy : y < 9218868437227405312 ∨ y = 9223372036854775808) : double.order x y = some (compare (valW x : Int) (valW y : Int)) := by
  have base : ∀ {x y : Nat}, x < 9218868437227405312 → y < 9218868437227405312 → (double.read x).order (double.read y) = some (compare (x : Int) (y : Int)) := fun hx hy => order_pos hx hy
  unfold Format.order
  rcases hx with hx | rfl
  · have e1 : valW x = x := by unfold valW; rw [if_neg (by omega)]
    rw [e1]
    rcases hy with hy | rfl
    · have e2 : valW y = y := by unfold valW; rw [if_neg (by omega)]
      rw [e2]
      exact base hx hy
    · have e2 : valW 9223372036854775808 = 0 := by unfold valW; rw [if_pos rfl]
      rw [e2, read_neg0, (order_neg0 _ ⟨_, _, _, fl_read_pos x hx⟩).2, ← read_zero]
      exact base hx (by decide)
  · have e1 : valW 9223372036854775808 = 0 := by unfold valW; rw [if_pos rfl]
    rw [e1]
    rcases hy with hy | rfl
    · have e2 : valW y = y := by unfold valW; rw [if_neg (by omega)]
      rw [e2, read_neg0, (order_neg0 _ ⟨_, _, _, fl_read_pos y hy⟩).1, ← read_zero]
      exact base (by decide) hy
    · rw [e1, read_neg0, (order_neg0 _ ⟨_, _, _, rfl⟩).1, (order_neg0 _ ⟨_, _, _, rfl⟩).2, ← read_zero]
      exact base (by decide) (by decide)
end Go.Proofs.Yteolfpgdpajldaa
