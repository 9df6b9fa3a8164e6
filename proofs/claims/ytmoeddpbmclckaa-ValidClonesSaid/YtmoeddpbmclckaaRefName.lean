/- The contract of the reference's Name: the same names. No condition. -/
import Derived.Test.YtmoeddpbmclckaaShapesM
namespace Go.Proofs.Ytmoeddpbmclckaa
open Go.ChangeShapes Go.WideShapes Go.ChangeAt Go.RowKit Go.Deep

def lowOf (c : Int) : Bool := (decide (97 ≤ c) && decide (c ≤ 122)) || (decide (48 ≤ c) && decide (c ≤ 57))
def refAt (s : ByteArray) (k : Nat) (h : k < s.size) : Bool := lowOf (s[k].toNat : Int) || (decide ((s[k].toNat : Int) = 45) && (decide (k ≠ 0) && decide (k ≠ s.size - 1)))

theorem refAt_sign {s : ByteArray} {k : Nat} {h : k < s.size} (e : refAt s k h = true) : signL s[k] = true := by
  unfold refAt lowOf at e
  unfold signL signOf
  simp at e ⊢
  omega

theorem refName_yes {s : ByteArray} (h : ∀ k, (hk : k < s.size) → refAt s k hk = true) : nameOf s.data.toList = (decide (1 ≤ (s.size : Int)) && decide ((s.size : Int) ≤ 32)) := by
  by_cases h0 : s.size = 0
  · rw [h0]
    have e : s.toList = [] := by
      rw [Lib.toList_data]
      exact List.eq_nil_of_length_eq_zero (by rw [← size_data]; exact h0)
    rw [name_empty e]
    rfl
  · by_cases h1 : 32 < (s.size : Int)
    · rw [name_long h1]
      simp; omega
    · rw [name_yes (by omega) (by omega) ?_ ?_ (fun k hk => refAt_sign (h k hk))]
      · simp; omega
      · intro e
        have := h 0 (by omega)
        unfold refAt lowOf at this
        simp at this
        omega
      · intro e
        have := h (s.size - 1) (by omega)
        unfold refAt lowOf at this
        simp at this
        omega

theorem refName_no {s : ByteArray} {k : Nat} (hk : k < s.size) (h : refAt s k hk = false) : nameOf s.data.toList = false := by
  cases hs : signL s[k]
  · exact name_sign hk hs
  · have e : (s[k].toNat : Int) = 45 ∧ (k = 0 ∨ k = s.size - 1) := by
      unfold refAt lowOf at h
      unfold signL signOf at hs
      simp at h hs
      omega
    rcases e with ⟨e, rfl | rfl⟩
    · exact name_head hk e
    · exact name_last (by omega) e
end Go.Proofs.Ytmoeddpbmclckaa
