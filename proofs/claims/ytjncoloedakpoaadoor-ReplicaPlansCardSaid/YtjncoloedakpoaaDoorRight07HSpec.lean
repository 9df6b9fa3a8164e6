/- What is asked of an Hpa, step by step. No condition. -/
import Derived.Test.YtjncoloedakpoaaDoorRight07SpecM
namespace Go.Proofs.YtjncoloedakpoaaDoor
open Go.ChangeShapes Go.WideShapes Go.ChangeAt Go.RowKit Go.Deep

def pastAt (xs : List Scaled) (j : Nat) (hj : j < xs.length) : Prop := (0 ≤ xs[j].at_ ∧ xs[j].at_ ≤ 4611686018427387904) ∧ (0 ≤ xs[j].from_ ∧ xs[j].from_ ≤ 1000000) ∧ (0 ≤ xs[j].to_ ∧ xs[j].to_ ≤ 1000000) ∧ (∀ i, (hi : i + 1 = j) → xs[i].at_ ≤ xs[j].at_)
def PastUp (b : Bool) (xs : List Scaled) (k : Nat) (c : Bool) : Prop := c = true ↔ (b = true ∧ ∀ j, (hj : j < xs.length) → j < k → pastAt xs j hj)
def MetUp (b : Bool) (xs : List Metric) (k : Nat) (c : Bool) : Prop := c = true ↔ (b = true ∧ ∀ j, (hj : j < xs.length) → j < k → metricOk xs[j] = true)

theorem pastFrom_iff : ∀ (xs : List Scaled) (last : Int), pastFrom last xs = true ↔ ∀ j, (hj : j < xs.length) → ((if j = 0 then last else xs[j - 1].at_) ≤ xs[j].at_ ∧ xs[j].at_ ≤ 4611686018427387904) ∧ (0 ≤ xs[j].from_ ∧ xs[j].from_ ≤ 1000000) ∧ (0 ≤ xs[j].to_ ∧ xs[j].to_ ≤ 1000000)
  | [], last => by simp [pastFrom]
  | y :: r, last => by
    unfold pastFrom btw
    simp only [Bool.and_eq_true, decide_eq_true_eq]
    rw [pastFrom_iff r y.at_]
    constructor
    · rintro ⟨⟨h1, h2, h3⟩, h4⟩ j hj
      cases j with
      | zero => exact ⟨by simpa using h1, by simpa using h2, by simpa using h3⟩
      | succ j =>
        have := h4 j (by simpa using hj)
        cases j with
        | zero => simpa using this
        | succ j => simpa using this
    · intro h
      refine ⟨?_, fun j hj => ?_⟩
      · have := h 0 (by simp)
        simpa using this
      · have := h (j + 1) (by simpa using hj)
        cases j with
        | zero => simpa using this
        | succ j => simpa using this

theorem PastUp.all {b c : Bool} {xs : List Scaled} {k : Nat} (h : PastUp b xs k c) (hk : xs.length ≤ k) : c = (b && pastFrom 0 xs) := by
  rw [Bool.eq_iff_iff, Bool.and_eq_true, pastFrom_iff]
  unfold PastUp at h
  rw [h]
  refine and_congr_right fun _ => ⟨fun h => ?_, fun h => ?_⟩
  · suffices hs : ∀ n j, (hj : j < xs.length) → j ≤ n → ((if j = 0 then 0 else xs[j - 1].at_) ≤ xs[j].at_ ∧ xs[j].at_ ≤ 4611686018427387904) ∧ (0 ≤ xs[j].from_ ∧ xs[j].from_ ≤ 1000000) ∧ (0 ≤ xs[j].to_ ∧ xs[j].to_ ≤ 1000000) from fun j hj => hs j j hj (Nat.le_refl _)
    intro n j hj _
    obtain ⟨h1, h2, h3, h4⟩ := h j hj (by omega)
    refine ⟨⟨?_, h1.2⟩, h2, h3⟩
    split
    · exact h1.1
    · exact h4 (j - 1) (by omega)
  · intro j hj _
    obtain ⟨h1, h2, h3⟩ := h j hj
    have pos : ∀ n i, (hi : i < xs.length) → i ≤ n → 0 ≤ xs[i].at_ := by
      intro n
      induction n with
      | zero =>
        intro i hi hin
        obtain rfl : i = 0 := by omega
        have := (h 0 hi).1.1
        simpa using this
      | succ n ih =>
        intro i hi hin
        cases i with
        | zero => exact ih 0 hi (by omega)
        | succ i =>
          have h5 := (h (i + 1) hi).1.1
          have h6 := ih i (by omega) (by omega)
          simp only [Nat.add_sub_cancel, if_neg (Nat.succ_ne_zero i)] at h5
          omega
    refine ⟨⟨pos j j hj (Nat.le_refl _), h1.2⟩, h2, h3, fun i hi => ?_⟩
    subst hi
    have h5 := h1.1
    simp only [Nat.add_sub_cancel, if_neg (Nat.succ_ne_zero i)] at h5
    exact h5

theorem PastUp.zero (b : Bool) (xs : List Scaled) : PastUp b xs 0 b := ⟨fun h => ⟨h, fun j _ hj => absurd hj (by omega)⟩, fun h => h.1⟩
theorem PastUp.step {b c c' : Bool} {xs : List Scaled} {k j : Nat} (h : PastUp b xs k c) (hk : k < xs.length) (hj : k = 0 ∨ j + 1 = k) (hjl : j < xs.length)
    (hc : c' = (((((((c && decide (0 ≤ xs[k].at_)) && decide (xs[k].at_ ≤ 4611686018427387904)) && decide (0 ≤ xs[k].from_)) && decide (xs[k].from_ ≤ 1000000)) && decide (0 ≤ xs[k].to_)) && decide (xs[k].to_ ≤ 1000000)) && (((k : Int) == 0) || decide (xs[j].at_ ≤ xs[k].at_)))) : PastUp b xs (k + 1) c' := by
  have key : (((k : Int) == 0) || decide (xs[j].at_ ≤ xs[k].at_)) = true ↔ ∀ i, (hi : i + 1 = k) → xs[i].at_ ≤ xs[k].at_ := by
    simp only [Bool.or_eq_true, beq_iff_eq, decide_eq_true_eq]
    constructor
    · rintro (h0 | h1) i hi
      · omega
      · rcases hj with hj | hj
        · omega
        · obtain rfl : i = j := by omega
          exact h1
    · intro h1
      rcases hj with hj | hj
      · left; omega
      · right; exact h1 j hj
  unfold PastUp at h ⊢
  rw [hc]
  simp only [Bool.and_eq_true, decide_eq_true_eq] at key ⊢
  rw [h, key]
  constructor
  · rintro ⟨⟨⟨⟨⟨⟨⟨⟨hb, h0⟩, h1⟩, h2⟩, h3⟩, h4⟩, h5⟩, h6⟩, h7⟩
    refine ⟨hb, fun i hi hik => ?_⟩
    by_cases e : i = k
    · subst e; exact ⟨⟨h1, h2⟩, ⟨h3, h4⟩, ⟨h5, h6⟩, h7⟩
    · exact h0 i hi (by omega)
  · rintro ⟨hb, h0⟩
    obtain ⟨⟨h1, h2⟩, ⟨h3, h4⟩, ⟨h5, h6⟩, h7⟩ := h0 k hk (by omega)
    exact ⟨⟨⟨⟨⟨⟨⟨⟨hb, fun i hi hik => h0 i hi (by omega)⟩, h1⟩, h2⟩, h3⟩, h4⟩, h5⟩, h6⟩, h7⟩
theorem MetUp.zero (b : Bool) (xs : List Metric) : MetUp b xs 0 b := ⟨fun h => ⟨h, fun j _ hj => absurd hj (by omega)⟩, fun h => h.1⟩
theorem MetUp.step {b c c' : Bool} {xs : List Metric} {k : Nat} (h : MetUp b xs k c) (hk : k < xs.length) (hc : c' = (c && metricOk xs[k])) : MetUp b xs (k + 1) c' := by
  unfold MetUp at h ⊢
  rw [hc, Bool.and_eq_true, h]
  constructor
  · rintro ⟨⟨hb, h0⟩, h1⟩
    refine ⟨hb, fun i hi hik => ?_⟩
    by_cases e : i = k
    · subst e; exact h1
    · exact h0 i hi (by omega)
  · rintro ⟨hb, h0⟩
    exact ⟨⟨hb, fun i hi hik => h0 i hi (by omega)⟩, h0 k hk (by omega)⟩
theorem MetUp.all {b c : Bool} {xs : List Metric} {k : Nat} (h : MetUp b xs k c) (hk : xs.length ≤ k) : c = (b && xs.all metricOk) := by
  rw [Bool.eq_iff_iff, Bool.and_eq_true, List.all_eq_true]
  unfold MetUp at h
  rw [h]
  refine and_congr_right fun _ => ⟨fun h y hy => ?_, fun h j hj _ => h _ (List.getElem_mem hj)⟩
  obtain ⟨j, hj, rfl⟩ := List.mem_iff_getElem.1 hy
  exact h j hj (by omega)

theorem past_idx {β : Nat → Nat × Nat} {C : World → Prop} {pb po k j pl pc : Nat} (hβ : β 1 = (pb, po + j * 3)) (hj : k = 0 ∨ j + 1 = k) (hlt : k < pl) (hc : pl ≤ pc) (hm : pc ≤ 9223372036854775807) :
    Ob.holds Tryd.prog β C (.idx (some (((k : Int) == 0), false)) 40 (.slice (some ⟨pb, po, none⟩) pl pc) (.int .i64 (wrap64 ((k : Int) - 1))) (.ptr 1 0)) := by
  intro hcond w _
  have hk : ¬ (k : Int) = 0 := by
    intro e
    unfold condOk at hcond
    rw [e] at hcond
    cases hcond
  have hj1 : j + 1 = k := by omega
  have e : wrap64 ((k : Int) - 1) = (j : Int) := by
    rw [← wrap_is0, IntWalk.i64_in _ (by omega)]
    omega
  rw [e]
  simp only [SV.den]
  rw [hβ]
  have h1 : (0 : Int) ≤ j ∧ (j : Int) < pl := ⟨by omega, by omega⟩
  simp [go_sem, h1]
theorem met_is (d : Bool) (yk yt : Int) (yn : ByteArray) : ((((((d && decide (0 ≤ yk)) && decide (yk ≤ 3)) && nameOf yn.data.toList) && wholeOk yt) && (!(yt == 0))) && (((!(yk == 0)) || (yn.toList == (⟨#[99, 112, 117]⟩ : ByteArray).toList)) || (yn.toList == (⟨#[109, 101, 109]⟩ : ByteArray).toList))) = (d && metricOk ⟨yk, yn, yt⟩) := by
  have e1 : (⟨#[99, 112, 117]⟩ : ByteArray).toList = [99, 112, 117] := by rw [Lib.toList_data]
  have e2 : (⟨#[109, 101, 109]⟩ : ByteArray).toList = [109, 101, 109] := by rw [Lib.toList_data]
  rw [e1, e2]
  unfold metricOk btw
  simp only [Bool.and_assoc, Bool.or_assoc, bne]
theorem hpaC (b3 : Bool) (o : ShapesV) : (((((((((((((b3 && nameOf o.h.target.data.toList) && decide (1 ≤ o.h.min)) && decide (o.h.min ≤ o.h.max)) && decide (o.h.max ≤ 1000000)) && decide (1 ≤ (o.h.M.la : Int))) && decide ((o.h.M.la : Int) ≤ 4)) && decide (0 ≤ o.h.tol)) && decide (o.h.tol ≤ 1000)) && behOk o.h.up) && behOk o.h.down) && pastFrom 0 o.h.past.xs) && decide ((o.h.past.xs.length : Int) ≤ 32)) && o.h.M.xs.all metricOk) = (hpaOk o.h && b3) := by
  unfold hpaOk pastOk btw
  rw [show decide ((o.h.past.xs.length : Int) ≤ 32) = decide (o.h.past.xs.length ≤ 32) from decide_eq_decide.2 (by omega)]
  ac_rfl
end Go.Proofs.YtjncoloedakpoaaDoor
