/- The plain law of a row that never falls. No program. -/
import Derived.Test.YtbhhjlnjhlagdaaRateCut
namespace Go.Proofs.Ytbhhjlnjhlagdaa

abbrev U16 := { x : Int // 0 ≤ x ∧ x ≤ 65535 }
instance : Inhabited U16 := ⟨⟨0, by decide⟩⟩
def U16.cells (x : U16) : List Value := [.int .u16 x.1]

def valAt (first : Int) (st : List U16) (k : Nat) : Int := first + ((st.take k).map fun x => x.1).sum
theorem valAt_zero (first : Int) (st : List U16) : valAt first st 0 = first := by simp [valAt]
theorem valAt_succ (first : Int) (st : List U16) {k : Nat} (h : k < st.length) : valAt first st (k + 1) = valAt first st k + st[k].1 := by
  unfold valAt
  rw [List.take_succ_eq_append_getElem h]
  simp only [List.map_append, List.map_cons, List.map_nil, List.sum_append, List.sum_cons, List.sum_nil]
  omega
theorem valAt_le (first : Int) (st : List U16) : ∀ k, k ≤ st.length → first ≤ valAt first st k ∧ valAt first st k ≤ first + k * 65535
  | 0, _ => by rw [valAt_zero]; omega
  | k + 1, h => by
    have := valAt_le first st k (by omega)
    rw [valAt_succ first st (show k < st.length by omega)]
    have := (st[k]).2
    omega
def rowTo (first : Int) (st : List U16) (k : Nat) : List Smp := (List.range (k + 1)).map fun (j : Nat) => ⟨(j : Int) + 1, valAt first st j⟩
theorem rowTo_succ (first : Int) (st : List U16) (k : Nat) : rowTo first st (k + 1) = rowTo first st k ++ [⟨(k : Int) + 2, valAt first st (k + 1)⟩] := by
  unfold rowTo
  rw [List.range_succ, List.map_append]
  simp
  omega
theorem rowTo_length (first : Int) (st : List U16) (k : Nat) : (rowTo first st k).length = k + 1 := by simp [rowTo]
theorem rowTo_get (first : Int) (st : List U16) {k j : Nat} (h : j ≤ k) : (rowTo first st k)[j]! = ⟨(j : Int) + 1, valAt first st j⟩ := by
  rw [getElem!_pos _ _ (by rw [rowTo_length]; omega)]
  simp [rowTo]

theorem row_okQ {first : Int} {st : List U16} (h0 : 0 ≤ first) (h1 : first ≤ 4294967295) (hn : st.length ≤ 59) {j : Nat} (hj : j ≤ st.length) : okQ (valAt first st j) = true := by
  have := valAt_le first st j hj
  unfold okQ
  exact decide_eq_true (by omega)

theorem row_inc {first : Int} {st : List U16} (h0 : 0 ≤ first) (h1 : first ≤ 4294967295) (hn : st.length ≤ 59) (hp : 1 ≤ st.length) :
    incOf (rowTo first st st.length) = (valAt first st st.length - first, 0) := by
  have hr : rightOf (rowTo first st st.length) = true := right_of fun j hj => by
    rw [rowTo_length] at hj
    unfold goodAt
    rw [rowTo_get first st (show j ≤ st.length by omega), rowTo_get first st (show j - 1 ≤ st.length by omega)]
    rw [row_okQ h0 h1 hn (by omega)]
    simp
    omega
  have ht : ∀ k, k ≤ st.length → tot (stepsTo (rowTo first st st.length) k) = valAt first st k - first := by
    intro k
    induction k with
    | zero => intro _; rw [valAt_zero]; simp [stepsTo, tot]
    | succ k ih =>
      intro hk
      rw [stepsTo_succ, tot_snoc, ih (by omega)]
      have e1 := row_okQ h0 h1 hn (show k ≤ st.length by omega)
      have e2 := row_okQ h0 h1 hn (show k + 1 ≤ st.length by omega)
      have e3 : stepAt (rowTo first st st.length) k = stepOf (valAt first st k) (valAt first st (k + 1)) := by
        unfold stepAt
        rw [rowTo_get first st (show k ≤ st.length by omega), rowTo_get first st (show k + 1 ≤ st.length by omega)]
      rw [e3, toQty_val (stepOf_ok e1 e2)]
      have := valAt_succ first st (show k < st.length by omega)
      have := (st[k]).2
      unfold stepOf
      rw [if_neg (by omega)]
      omega
  have hv := valAt_le first st st.length (Nat.le_refl _)
  unfold incOf
  rw [if_neg (by rw [hr]; decide), if_neg (by rw [rowTo_length]; omega), rowTo_length, Nat.add_sub_cancel, ht _ (Nat.le_refl _)]
  exact if_pos (by omega)

theorem row_resets (first : Int) (st : List U16) : resetsOf (rowTo first st st.length) = 0 := by
  unfold resetsOf resetsTo
  rw [rowTo_length]
  rw [List.length_eq_zero_iff, List.filter_eq_nil_iff]
  intro j hj
  have := List.mem_range.1 hj
  unfold fallsAt
  by_cases h : 0 < j
  · obtain ⟨i, rfl⟩ : ∃ i, j = i + 1 := ⟨j - 1, by omega⟩
    rw [Nat.add_sub_cancel, rowTo_get first st (show i + 1 ≤ st.length by omega), rowTo_get first st (show i ≤ st.length by omega)]
    have e := valAt_succ first st (show i < st.length by omega)
    have := (st[i]).2
    simp
    omega
  · simp [h]
end Go.Proofs.Ytbhhjlnjhlagdaa
