/- Which labels and asks are right, as plain functions. No condition. -/
import Derived.Test.YtmoeddpbmclckaaLabV
import Derived.Test.YtmoeddpbmclckaaName2
import Derived.Sort.Walk0
namespace Go.Proofs.Ytmoeddpbmclckaa
open Go.ChangeShapes Go.WideShapes Go.ChangeAt Go.RowKit Go.Deep

theorem less_trans {x y z : List UInt8} (h1 : Op.bytesLess x y = true) (h2 : Op.bytesLess y z = true) : Op.bytesLess x z = true := by
  rw [bytesLess_eq, decide_eq_true_iff] at *
  exact List.lt_trans h1 h2

def okVal (v : ByteArray) : Bool := v.toList.isEmpty || nameOf v.data.toList
def okLabel (x : Label) : Bool := nameOf x.key.data.toList && okVal x.val
def keyLt (a b : Label) : Bool := Op.bytesLess a.key.toList b.key.toList

def LabelsOk (xs : List Label) : Prop := (∀ k, (h : k < xs.length) → okLabel xs[k] = true) ∧ (∀ k, (h : k + 1 < xs.length) → keyLt xs[k] xs[k + 1] = true) ∧ xs.length ≤ 8
noncomputable def labelsOk (xs : List Label) : Bool := @decide (LabelsOk xs) (Classical.propDecidable _)

/-- The labels below a place are right. -/
def Good (xs : List Label) (k : Nat) : Prop := (∀ j, (h : j < xs.length) → j < k → okLabel xs[j] = true) ∧ (∀ j, (h : j + 1 < xs.length) → j + 1 < k → keyLt xs[j] xs[j + 1] = true)

theorem Good.zero (xs : List Label) : Good xs 0 := ⟨fun _ _ h => by omega, fun _ _ h => by omega⟩
theorem Good.next {xs : List Label} {k : Nat} (hk : k < xs.length) (h : Good xs k) (h1 : okLabel xs[k] = true) (h2 : ∀ _ : 0 < k, keyLt xs[k - 1] xs[k] = true) : Good xs (k + 1) := by
  refine ⟨fun j hj hjk => ?_, fun j hj hjk => ?_⟩
  · by_cases e : j = k
    · subst e; exact h1
    · exact h.1 j hj (by omega)
  · by_cases e : j + 1 = k
    · subst e; exact h2 (by omega)
    · exact h.2 j hj (by omega)
theorem Good.done {xs : List Label} {k : Nat} (h : Good xs k) (hk : xs.length ≤ k) : labelsOk xs = decide (xs.length ≤ 8) := by
  unfold labelsOk
  rw [decide_eq_decide]
  exact ⟨fun h' => h'.2.2, fun h8 => ⟨fun j hj => h.1 j hj (by omega), fun j hj => h.2 j hj (by omega), h8⟩⟩
theorem labels_no1 {xs : List Label} {k : Nat} (hk : k < xs.length) (h : okLabel xs[k] = false) : labelsOk xs = false := by
  unfold labelsOk
  rw [decide_eq_false_iff_not]
  intro h'
  have := h'.1 k hk
  rw [h] at this
  cases this
theorem rising_all {xs : List Label} (h : ∀ k, (h : k + 1 < xs.length) → keyLt xs[k] xs[k + 1] = true) (i : Nat) : ∀ d, (hj : i + d + 1 < xs.length) → keyLt xs[i] xs[i + d + 1] = true
  | 0, hj => h i hj
  | d + 1, hj => less_trans (rising_all h i d (by omega)) (h (i + d + 1) (by omega))
theorem labels_no2 {xs : List Label} {i j : Nat} (hij : i < j) (hj : j < xs.length) (h : keyLt xs[i] xs[j] = false) : labelsOk xs = false := by
  unfold labelsOk
  rw [decide_eq_false_iff_not]
  intro h'
  obtain ⟨d, rfl⟩ : ∃ d, j = i + d + 1 := ⟨j - i - 1, by omega⟩
  have := rising_all h'.2.1 i d hj
  rw [h] at this
  cases this

def askOk (r : Require) : Bool := (decide (0 ≤ r.op) && decide (r.op ≤ 3)) && ((nameOf r.key.data.toList && okVal r.val) && (decide (r.op < 2) || r.val.toList.isEmpty))
def asksOk (rs : List Require) : Bool := rs.all askOk && decide (rs.length ≤ 8)

def wholeOk (m : Int) : Bool := decide (0 ≤ m) && decide (m ≤ 9007199254740992)
def sizeOk (c m : Int) : Bool := wholeOk c && (wholeOk m && decide (0 < c))
def btw (x l h : Int) : Bool := decide (l ≤ x) && decide (x ≤ h)
noncomputable def wantsOk (c m : Int) (L : List Label) (S : List Require) (T : List Label) (warm : Int) : Bool := sizeOk c m && (labelsOk L && (asksOk S && (labelsOk T && btw warm 0 1800)))
end Go.Proofs.Ytmoeddpbmclckaa
