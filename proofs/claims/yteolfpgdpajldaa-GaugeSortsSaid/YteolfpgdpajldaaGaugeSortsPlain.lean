/- What the walk of GaugeSorts asks of the sorted samples: plain lemmas. No condition. -/
import Derived.Test.YteolfpgdpajldaaSortU12
namespace Go.Proofs.Yteolfpgdpajldaa

def keyN (x : Nat) : Int := if x = 9223372036854775808 then -1 else (x : Nat)

/-- The words that have a quantity. -/
def qualW (xs : List W64) : List Nat := (xs.filter fun x => !badW x).map (·.1)

theorem sw_perm {xs : List W64} {ys : List Nat} (h : SortedW xs ys) : ys.Perm (qualW xs) := by
  obtain ⟨qs, d, h1, h2, _, rfl⟩ := h
  unfold qualW
  rw [← h1]
  have e : qs.zipIdx.map (fun x : TU => x.1.1) = qs.map (·.1) := by
    have : ∀ (qs : List QWord) (k : Nat), (qs.zipIdx k).map (fun x : TU => x.1.1) = qs.map (·.1) := by
      intro qs
      induction qs with
      | nil => intro k; rfl
      | cons q qs ih => intro k; rw [List.zipIdx_cons, List.map_cons, List.map_cons, ih]
    exact this qs 0
  rw [← e]
  exact h2.map _

theorem sw_good {xs : List W64} {ys : List Nat} (h : SortedW xs ys) : ∀ y ∈ ys, GoodW y := by
  obtain ⟨qs, d, _, _, _, rfl⟩ := h
  intro y hy
  obtain ⟨u, _, rfl⟩ := List.mem_map.1 hy
  exact u.1.2

theorem sw_rise {xs : List W64} {ys : List Nat} (h : SortedW xs ys) : ys.Pairwise fun x y => keyN x ≤ keyN y := by
  obtain ⟨qs, d, _, _, h3, rfl⟩ := h
  refine List.pairwise_map.2 (h3.imp fun {a b} hab => ?_)
  have e : ∀ u : TU, keyN u.1.1 = keyU u := fun _ => rfl
  rw [e, e]
  unfold TOU at hab
  omega

theorem sw_next {xs : List W64} {ys : List Nat} (h : SortedW xs ys) {i : Nat} (hi : i + 1 < ys.length) : keyN (ys[i]'(by omega)) ≤ keyN ys[i + 1] :=
  List.pairwise_iff_getElem.1 (sw_rise h) i (i + 1) (by omega) hi (by omega)

/-- What the law holds against the one ahead: neither is so. -/
theorem pair_ok {p x : Nat} (_hp : GoodW p) (hx : GoodW x) (h : keyN p ≤ keyN x) : ¬ ((x + 9223372036854775808) % 18446744073709551616 < (p + 9223372036854775808) % 18446744073709551616 ∧ ¬ p = 9223372036854775808) ∧ ¬ (x = 9223372036854775808 ∧ ¬ p = 9223372036854775808) := by
  unfold GoodW at hx
  unfold keyN at h
  split at h <;> split at h <;> omega

theorem sw_len {xs : List W64} {ys : List Nat} (h : SortedW xs ys) : ys.length = (xs.filter fun x => !badW x).length := by
  rw [(sw_perm h).length_eq, qualW, List.length_map]

/-- One more sample: how often each is there. -/
theorem qual_count (xs : List W64) {i : Nat} (hi : i < xs.length) (y : Nat) : (qualW (xs.take (i + 1))).count y = (qualW (xs.take i)).count y + (if badW xs[i] = false ∧ xs[i].1 = y then 1 else 0) := by
  unfold qualW
  rw [List.take_succ_eq_append_getElem hi, List.filter_append, List.map_append, List.count_append]
  congr 1
  cases hb : badW xs[i]
  · by_cases hy : xs[i].1 = y
    · simp [hb, hy]
    · simp [hb, hy]
  · simp [hb]

/-- One taken off. -/
theorem drop_count (ys : List Nat) {i : Nat} (hi : i < ys.length) (y : Nat) : (ys.drop i).count y = (ys.drop (i + 1)).count y + (if ys[i] = y then 1 else 0) := by
  rw [List.drop_eq_getElem_cons hi, List.count_cons]
  simp
end Go.Proofs.Yteolfpgdpajldaa
