/- The plain law of a row's two parts, and how a part of a slice reads. No program. -/
import Derived.Test.YtbhhjlnjhlagdaaRateLives
namespace Go.Proofs.Ytbhhjlnjhlagdaa
open Go.Deep

theorem take_bang (l : List Smp) {p j : Nat} (h : j < p) : (l.take p)[j]! = l[j]! := by
  simp [List.getElem!_eq_getElem?_getD, h]
theorem drop_bang (l : List Smp) (p j : Nat) : (l.drop p)[j]! = l[p + j]! := by
  simp [List.getElem!_eq_getElem?_getD, List.getElem?_drop]

theorem right_of {l : List Smp} (h : ∀ j, j < l.length → goodAt l j = true) : rightOf l = true := right_all (Nat.le_refl _) h
theorem right_at {l : List Smp} (h : rightOf l = true) {j : Nat} (hj : j < l.length) : goodAt l j = true := by
  unfold rightOf at h
  exact List.all_eq_true.1 h j (List.mem_range.2 hj)

theorem right_take {l : List Smp} (h : rightOf l = true) (p : Nat) : rightOf (l.take p) = true := right_of fun j hj => by
  rw [List.length_take] at hj
  have := right_at h (j := j) (by omega)
  unfold goodAt at this ⊢
  rw [take_bang l (show j < p by omega), take_bang l (show j - 1 < p by omega)]
  exact this

theorem right_drop {l : List Smp} (h : rightOf l = true) (p : Nat) : rightOf (l.drop p) = true := right_of fun j hj => by
  rw [List.length_drop] at hj
  have := right_at h (j := p + j) (by omega)
  unfold goodAt at this ⊢
  rw [drop_bang, drop_bang]
  by_cases h0 : j = 0
  · have := (Bool.and_eq_true_iff.1 this).1
    rw [this, h0]
    rfl
  · have e : p + (j - 1) = p + j - 1 := by omega
    rw [e]
    have h1 : decide (p + j = 0) = false := decide_eq_false (by omega)
    have h2 : decide (j = 0) = false := decide_eq_false h0
    rw [h1] at this
    rw [h2]
    exact this

theorem steps_take (l : List Smp) (p : Nat) : stepsTo (l.take (p + 1)) p = stepsTo l p := by
  unfold stepsTo
  apply List.map_congr_left
  intro j hj
  have := List.mem_range.1 hj
  unfold stepAt
  rw [take_bang l (show j < p + 1 by omega), take_bang l (show j + 1 < p + 1 by omega)]

theorem tot_drop (l : List Smp) (p m : Nat) : tot (stepsTo l (p + m)) = tot (stepsTo l p) + tot (stepsTo (l.drop p) m) := by
  induction m with
  | zero => simp [stepsTo, tot]
  | succ m ih =>
    rw [show p + (m + 1) = (p + m) + 1 from rfl, stepsTo_succ, stepsTo_succ, tot_snoc, tot_snoc, ih]
    have e : stepAt (l.drop p) m = stepAt l (p + m) := by
      unfold stepAt
      rw [drop_bang, drop_bang]
      rfl
    rw [e]
    omega

theorem inc_parts {l : List Smp} {n p : Nat} (hl : l.length = n) (hr : rightOf l = true) (h1 : 1 ≤ p) (h2 : p + 2 ≤ n) :
    ∃ a b : Int, 0 ≤ a ∧ 0 ≤ b ∧ incOf l = sumOf (a + b) ∧ incOf (l.take (p + 1)) = sumOf a ∧ incOf (l.drop p) = sumOf b := by
  refine ⟨tot (stepsTo l p), tot (stepsTo (l.drop p) (n - p - 1)), tot_nonneg _, tot_nonneg _, ?_, ?_, ?_⟩
  · unfold incOf
    rw [if_neg (by rw [hr]; decide), if_neg (by omega), hl, ← tot_drop, show p + (n - p - 1) = n - 1 by omega]
  · unfold incOf
    have e : (l.take (p + 1)).length = p + 1 := by rw [List.length_take]; omega
    rw [if_neg (by rw [right_take hr]; decide), if_neg (by omega), e, Nat.add_sub_cancel, steps_take]
  · unfold incOf
    have e : (l.drop p).length = n - p := by rw [List.length_drop, hl]
    rw [if_neg (by rw [right_drop hr]; decide), if_neg (by omega), e]

theorem SlR.takeL {α : Type} {R : World → α → List Value → Prop} [Inhabited α] {sz : Nat} {w : World} {b off len cap : Nat} {xs : List α} (h : SlR R sz w (some ⟨b, off, none⟩) len cap xs) {p : Nat} (hp : p ≤ len) :
    SlR R sz w (some ⟨b, off, none⟩) p cap (xs.take p) := by
  obtain ⟨h1, h2, h3, h4, h5⟩ := h
  refine ⟨by rw [List.length_take]; omega, by omega, h3, (fun e => by cases e), fun a ha i hi => ?_⟩
  obtain ⟨c, hc1, hc2, hc3⟩ := h5 a ha i (by rw [List.length_take] at hi; omega)
  refine ⟨c, hc1, hc2, ?_⟩
  rw [List.getElem_take]
  exact hc3

theorem SlR.dropL {α : Type} {R : World → α → List Value → Prop} [Inhabited α] {sz : Nat} {w : World} {b off len cap : Nat} {xs : List α} (h : SlR R sz w (some ⟨b, off, none⟩) len cap xs) {p : Nat} (hp : p ≤ len) :
    SlR R sz w (some ⟨b, off + p * sz, none⟩) (len - p) (cap - p) (xs.drop p) := by
  obtain ⟨h1, h2, h3, h4, h5⟩ := h
  refine ⟨by rw [List.length_drop]; omega, by omega, by omega, (fun e => by cases e), fun a ha i hi => ?_⟩
  obtain rfl := Option.some.inj ha
  rw [List.length_drop] at hi
  obtain ⟨c, hc1, hc2, hc3⟩ := h5 _ rfl (p + i) (by omega)
  refine ⟨c, hc1, fun j u hu => ?_, ?_⟩
  · have := hc2 j u hu
    rw [Addr.add_lit] at this ⊢
    rw [show off + p * sz + (i * sz + j) = off + ((p + i) * sz + j) by rw [Nat.add_mul]; omega]
    exact this
  · rw [List.getElem_drop]
    exact hc3
end Go.Proofs.Ytbhhjlnjhlagdaa
