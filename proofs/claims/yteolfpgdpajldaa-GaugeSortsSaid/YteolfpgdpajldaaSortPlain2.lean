/- Plain laws of a binary search and of a shift by exchanges, for the symmetric merge. No condition. -/
import Derived.Test.YteolfpgdpajldaaSortPlain
namespace Go.Proofs.Yteolfpgdpajldaa
variable {α : Type} {cf : α → α → Int} {tag : α → Nat} {T : α → α → Prop}

/-- x stands behind t of X. -/
def Shf (P X : List α) (x : α) (Q : List α) (t : Nat) : List α := P ++ (X.take t ++ x :: X.drop t) ++ Q

theorem shf_len (P X : List α) (x : α) (Q : List α) (t : Nat) : (Shf P X x Q t).length = P.length + X.length + 1 + Q.length := by
  simp only [Shf, List.length_append, List.length_cons, List.length_take, List.length_drop]
  omega

theorem shf_split {P X : List α} {x : α} {Q : List α} {t : Nat} (ht : t < X.length) :
    Shf P X x Q t = (P ++ X.take t) ++ x :: X[t] :: (X.drop (t + 1) ++ Q) ∧ Shf P X x Q (t + 1) = (P ++ X.take t) ++ X[t] :: x :: (X.drop (t + 1) ++ Q) := by
  constructor
  · have e : X.drop t = X[t] :: X.drop (t + 1) := List.drop_eq_getElem_cons ht
    unfold Shf
    rw [e]
    simp only [List.append_assoc, List.cons_append]
  · have e : X.take (t + 1) = X.take t ++ [X[t]] := List.take_succ_eq_append_getElem ht
    unfold Shf
    rw [e]
    simp only [List.append_assoc, List.cons_append, List.nil_append]

theorem two_at (A : List α) (x y : α) (B : List α) {k : Nat} (hk : A.length = k) : (A ++ x :: y :: B)[k]? = some x ∧ (A ++ x :: y :: B)[k + 1]? = some y ∧ ((A ++ x :: y :: B).set k y).set (k + 1) x = A ++ y :: x :: B ∧ ((A ++ x :: y :: B).set (k + 1) x).set k y = A ++ y :: x :: B := by
  subst hk
  refine ⟨by simp, ?_, ?_, ?_⟩
  · rw [List.getElem?_append_right (by omega)]
    simp
  · rw [set_mid A x y (y :: B) rfl, show A ++ y :: y :: B = (A ++ [y]) ++ y :: B by simp, set_mid (A ++ [y]) y x B (by simp)]
    simp
  · rw [show A ++ x :: y :: B = (A ++ [x]) ++ y :: B by simp, set_mid (A ++ [x]) y x B (by simp), show (A ++ [x]) ++ x :: B = A ++ x :: x :: B by simp, set_mid A x y (x :: B) rfl]

/-- The shift upwards. -/
theorem shf_up {P X : List α} {x : α} {Q : List α} {t k : Nat} (ht : t < X.length) (hk : P.length + t = k) :
    (Shf P X x Q t)[k]? = some x ∧ (Shf P X x Q t)[k + 1]? = some X[t] ∧ ((Shf P X x Q t).set k X[t]).set (k + 1) x = Shf P X x Q (t + 1) := by
  obtain ⟨e1, e2⟩ := shf_split (P := P) (x := x) (Q := Q) ht
  have h := two_at (P ++ X.take t) x X[t] (X.drop (t + 1) ++ Q) (k := k) (by simp; omega)
  rw [e1, e2]
  exact ⟨h.1, h.2.1, h.2.2.1⟩

/-- The shift downwards. -/
theorem shf_down {P X : List α} {x : α} {Q : List α} {t k : Nat} (ht : t < X.length) (hk : P.length + t = k) :
    (Shf P X x Q (t + 1))[k + 1]? = some x ∧ (Shf P X x Q (t + 1))[k]? = some X[t] ∧ ((Shf P X x Q (t + 1)).set (k + 1) X[t]).set k x = Shf P X x Q t := by
  obtain ⟨e1, e2⟩ := shf_split (P := P) (x := x) (Q := Q) ht
  have h := two_at (P ++ X.take t) X[t] x (X.drop (t + 1) ++ Q) (k := k) (by simp; omega)
  rw [e1, e2]
  exact ⟨h.2.1, h.1, h.2.2.2⟩

/-- What a binary search has found out: below p it holds at the last one, from q on not at the first one. -/
def Sch (yes : α → Prop) (X : List α) (p q : Nat) : Prop := p ≤ q ∧ q ≤ X.length ∧ (∀ y, (X.take p).getLast? = some y → yes y) ∧ (∀ y, (X.drop q).head? = some y → ¬ yes y)

theorem sch_start (yes : α → Prop) (X : List α) : Sch yes X 0 X.length := ⟨Nat.zero_le _, Nat.le_refl _, by simp, by simp⟩

theorem sch_yes {yes : α → Prop} {X : List α} {p q s : Nat} (h : Sch yes X p q) (hq : s < q) (hs : s < X.length) (hy : yes X[s]) : Sch yes X (s + 1) q := by
  refine ⟨hq, h.2.1, fun y hy' => ?_, h.2.2.2⟩
  rw [List.take_succ_eq_append_getElem hs, List.getLast?_concat] at hy'
  rw [← Option.some.inj hy']
  exact hy

theorem sch_no {yes : α → Prop} {X : List α} {p q s : Nat} (h : Sch yes X p q) (hp : p ≤ s) (hs : s < X.length) (hn : ¬ yes X[s]) : Sch yes X p s := by
  refine ⟨hp, by omega, h.2.2.1, fun y hy' => ?_⟩
  rw [List.drop_eq_getElem_cons hs, List.head?_cons] at hy'
  rw [← Option.some.inj hy']
  exact hn

/-- The symmetric search. -/
def Sym (cf : α → α → Int) (d : List α) (a m b mid s r : Nat) : Prop :=
  (if mid < m then mid + m - b else a) ≤ s ∧ s ≤ r ∧ r ≤ (if mid < m then mid else m) ∧
  (s = (if mid < m then mid + m - b else a) ∨ ∀ x y, d[mid + m - s]? = some y → d[s - 1]? = some x → ¬ cf y x < 0) ∧
  (r = (if mid < m then mid else m) ∨ ∀ x y, d[mid + m - 1 - r]? = some y → d[r]? = some x → cf y x < 0)

theorem sym_no {d : List α} {a m b mid s r c pc : Nat} (h : Sym cf d a m b mid s r) (h1 : s ≤ c) (h2 : c < r) (hpc : mid + m - (c + 1) = pc) {x y : α} (hx : d[c]? = some x) (hy : d[pc]? = some y) (hn : ¬ cf y x < 0) : Sym cf d a m b mid (c + 1) r := by
  refine ⟨Nat.le_trans h.1 (by omega), by omega, h.2.2.1, .inr fun x' y' hy' hx' => ?_, h.2.2.2.2⟩
  rw [hpc, hy] at hy'
  rw [Nat.add_sub_cancel, hx] at hx'
  rw [← Option.some.inj hy', ← Option.some.inj hx']
  exact hn

theorem sym_yes {d : List α} {a m b mid s r c pc : Nat} (h : Sym cf d a m b mid s r) (h1 : s ≤ c) (h2 : c < r) (hpc : mid + m - 1 - c = pc) {x y : α} (hx : d[c]? = some x) (hy : d[pc]? = some y) (hn : cf y x < 0) : Sym cf d a m b mid s c := by
  refine ⟨h.1, h1, Nat.le_trans (Nat.le_of_lt h2) h.2.2.1, h.2.2.2.1, .inr fun x' y' hy' hx' => ?_⟩
  rw [hpc, hy] at hy'
  rw [hx] at hx'
  rw [← Option.some.inj hy', ← Option.some.inj hx']
  exact hn
end Go.Proofs.Yteolfpgdpajldaa
