/- The plain law of a stable sort: insertion, symmetric merges, rotations. No condition. -/
import Derived.Test.YtjncoloedakpoaaDoorBase
namespace Go.Proofs.YtjncoloedakpoaaDoor
structure StOrd {α : Type} (cf : α → α → Int) (tag : α → Nat) (T : α → α → Prop) : Prop where
  trans : ∀ x y z, T x y → T y z → T x z
  tri : ∀ x y, tag x ≠ tag y → T x y ∨ T y x
  agree : ∀ x y, tag x < tag y → (cf y x < 0 ↔ T y x)

def segL {α : Type} (d : List α) (a b : Nat) : List α := (d.take b).drop a

variable {α : Type} {cf : α → α → Int} {tag : α → Nat} {T : α → α → Prop}

theorem segL_len (d : List α) {a b : Nat} (hb : b ≤ d.length) : (segL d a b).length = b - a := by
  simp [segL, Nat.min_eq_left hb]

theorem take_seg_drop (d : List α) {a b : Nat} (hab : a ≤ b) : d.take a ++ segL d a b ++ d.drop b = d := by
  have h : d.take a = (d.take b).take a := by rw [List.take_take, Nat.min_eq_left hab]
  rw [segL, h, List.take_append_drop, List.take_append_drop]

theorem segL_one (d : List α) {i : Nat} (hi : i < d.length) : segL d i (i + 1) = [d[i]] := by
  rw [segL, List.take_succ_eq_append_getElem hi, List.drop_append_of_le_length (by simp; omega)]
  simp

theorem segL_succ (d : List α) {a i : Nat} (ha : a ≤ i) (hi : i < d.length) : segL d a (i + 1) = segL d a i ++ [d[i]] := by
  rw [segL, List.take_succ_eq_append_getElem hi, List.drop_append_of_le_length (by simp; omega), segL]

def OutInv (T : α → α → Prop) (a i : Nat) (D d : List α) : Prop :=
  ∃ S, d = D.take a ++ S ++ D.drop i ∧ S.Perm (segL D a i) ∧ S.Pairwise T

def InsInv (T : α → α → Prop) (a i : Nat) (D d : List α) (j : Nat) : Prop :=
  ∃ (S1 S2 : List α) (x : α), D[i]? = some x ∧ d = D.take a ++ (S1 ++ x :: S2) ++ D.drop (i + 1) ∧ (S1 ++ S2).Perm (segL D a i) ∧ (S1 ++ S2).Pairwise T ∧ (∀ s ∈ S2, T x s) ∧ j = a + S1.length

theorem OutInv.len {a i : Nat} {D d : List α} (h : OutInv T a i D d) (hai : a ≤ i) (hi : i ≤ D.length) : d.length = D.length := by
  obtain ⟨S, rfl, hp, _⟩ := h
  have := hp.length_eq
  rw [segL_len D hi] at this
  simp
  omega

theorem InsInv.len {a i j : Nat} {D d : List α} (h : InsInv T a i D d j) (hai : a ≤ i) : d.length = D.length ∧ j ≤ i ∧ a ≤ j ∧ i < D.length := by
  obtain ⟨S1, S2, x, hx, rfl, hp, _, _, rfl⟩ := h
  have hi := (List.getElem?_eq_some_iff.1 hx).1
  have := hp.length_eq
  rw [segL_len D (Nat.le_of_lt hi)] at this
  simp at this ⊢
  omega

theorem out_start (D : List α) {a : Nat} (ha : a < D.length) : OutInv T a (a + 1) D D := by
  refine ⟨[D[a]], ?_, ?_, List.pairwise_singleton _ _⟩
  · rw [← segL_one D ha, take_seg_drop D (by omega)]
  · rw [segL_one D ha]

theorem out_none (D : List α) {a : Nat} : OutInv T a a D D := ⟨[], by simp, by simp [segL], List.Pairwise.nil⟩

theorem ins_start {a i : Nat} {D d : List α} (h : OutInv T a i D d) (hai : a ≤ i) (hi : i < D.length) : InsInv T a i D d i := by
  obtain ⟨S, rfl, hp, hs⟩ := h
  have hl := hp.length_eq
  rw [segL_len D (Nat.le_of_lt hi)] at hl
  refine ⟨S, [], D[i], List.getElem?_eq_getElem hi, ?_, by simpa using hp, by simpa using hs, by simp, by omega⟩
  rw [List.drop_eq_getElem_cons hi]
  simp

theorem ins_at {a i j : Nat} {D d : List α} (h : InsInv T a i D d j) (hai : a ≤ i) (hj : a < j) : ∃ (S1 S2 : List α) (x y : α), D[i]? = some x ∧
    d = D.take a ++ (S1 ++ y :: x :: S2) ++ D.drop (i + 1) ∧ (S1 ++ y :: S2).Perm (segL D a i) ∧ (S1 ++ y :: S2).Pairwise T ∧ (∀ s ∈ S2, T x s) ∧ j = a + S1.length + 1 ∧ d[j]? = some x ∧ d[j - 1]? = some y := by
  obtain ⟨S1, S2, x, hx, rfl, hp, hs, h2, rfl⟩ := h
  have hi := (List.getElem?_eq_some_iff.1 hx).1
  have hne : S1 ≠ [] := by rintro rfl; simp at hj
  obtain ⟨S0, y, rfl⟩ : ∃ S0 y, S1 = S0 ++ [y] := ⟨S1.dropLast, S1.getLast hne, (List.dropLast_concat_getLast hne).symm⟩
  simp only [List.append_assoc, List.singleton_append] at hp hs
  refine ⟨S0, S2, x, y, hx, by simp, hp, hs, h2, by simp; omega, ?_, ?_⟩
  · rw [List.getElem?_append_left (by simp; omega), List.getElem?_append_right (by simp; omega)]
    simp [Nat.min_eq_left (show a ≤ D.length by omega)]
  · rw [List.getElem?_append_left (by simp; omega), List.getElem?_append_right (by simp; omega)]
    simp [Nat.min_eq_left (show a ≤ D.length by omega)]

theorem ins_step (O : StOrd cf tag T) {a i j : Nat} {D d : List α} (hD : (segL D a (i + 1)).Pairwise fun x y => tag x < tag y) (h : InsInv T a i D d j) (hai : a ≤ i) (hj : a < j) (hjd : j < d.length)
    (hc : cf d[j] d[j - 1] < 0) : InsInv T a i D ((d.set j d[j - 1]).set (j - 1) d[j]) (j - 1) := by
  obtain ⟨S1, S2, x, y, hx, e, hp, hs, h2, ej, e1, e2⟩ := ins_at h hai hj
  have hi := (List.getElem?_eq_some_iff.1 hx).1
  have g1 : d[j] = x := by rw [List.getElem?_eq_getElem hjd] at e1; exact Option.some.inj e1
  have g2 : d[j - 1] = y := by rw [List.getElem?_eq_getElem (by omega)] at e2; exact Option.some.inj e2
  rw [g1, g2] at hc ⊢
  have hmem : y ∈ segL D a i := hp.mem_iff.1 (by simp)
  have hlt : tag y < tag x := by
    have hD2 : (segL D a i ++ [x]).Pairwise fun x y => tag x < tag y := by
      have : segL D a (i + 1) = segL D a i ++ [x] := by
        rw [segL_succ D hai hi]
        rw [List.getElem?_eq_getElem hi] at hx
        rw [Option.some.inj hx]
      rw [← this]
      exact hD
    exact (List.pairwise_append.1 hD2).2.2 y hmem x (by simp)
  have hT := (O.agree y x hlt).1 hc
  refine ⟨S1, y :: S2, x, hx, ?_, hp, hs, ?_, by omega⟩
  · have hal : (D.take a).length = a := by simp; omega
    have q1 : d.set j y = (D.take a ++ S1) ++ y :: y :: S2 ++ D.drop (i + 1) := by
      rw [e, show D.take a ++ (S1 ++ y :: x :: S2) ++ D.drop (i + 1) = (D.take a ++ S1 ++ [y]) ++ (x :: (S2 ++ D.drop (i + 1))) by simp, List.set_append_right _ _ (by simp; omega)]
      rw [show j - (D.take a ++ S1 ++ [y]).length = 0 by simp; omega, List.set_cons_zero]
      simp
    rw [q1, show (D.take a ++ S1) ++ y :: y :: S2 ++ D.drop (i + 1) = (D.take a ++ S1) ++ (y :: y :: (S2 ++ D.drop (i + 1))) by simp, List.set_append_right _ _ (by simp; omega)]
    rw [show j - 1 - (D.take a ++ S1).length = 0 by simp; omega, List.set_cons_zero]
    simp
  · intro s hs2
    rcases List.mem_cons.1 hs2 with rfl | hm
    · exact hT
    · exact h2 s hm

theorem ins_done {a i j : Nat} {D d : List α} (h : InsInv T a i D d j) (hai : a ≤ i) (hx1 : ∀ (S1 S2 : List α) (x : α), d = D.take a ++ (S1 ++ x :: S2) ++ D.drop (i + 1) → (S1 ++ S2).Perm (segL D a i) → (S1 ++ S2).Pairwise T → j = a + S1.length → D[i]? = some x → ∀ s ∈ S1, T s x) : OutInv T a (i + 1) D d := by
  obtain ⟨S1, S2, x, hx, rfl, hp, hs, h2, ej⟩ := h
  have hi := (List.getElem?_eq_some_iff.1 hx).1
  have h3 := hx1 S1 S2 x rfl hp hs ej hx
  refine ⟨S1 ++ x :: S2, rfl, ?_, ?_⟩
  · rw [segL_succ D hai hi]
    rw [List.getElem?_eq_getElem hi] at hx
    rw [Option.some.inj hx]
    exact (List.perm_middle.trans (List.Perm.cons x hp)).trans (List.perm_append_singleton x _).symm
  · obtain ⟨p1, p2, p3⟩ := List.pairwise_append.1 hs
    refine List.pairwise_append.2 ⟨p1, List.pairwise_cons.2 ⟨h2, p2⟩, fun s hs1 t ht => ?_⟩
    rcases List.mem_cons.1 ht with rfl | hm
    · exact h3 s hs1
    · exact p3 s hs1 t hm

theorem ins_end1 {a i : Nat} {D d : List α} (h : InsInv T a i D d a) (hai : a ≤ i) : OutInv T a (i + 1) D d :=
  ins_done h hai fun S1 S2 x _ _ _ ej _ s hs => by
    have : S1 = [] := List.eq_nil_of_length_eq_zero (by omega)
    subst this
    cases hs

theorem ins_end2 (O : StOrd cf tag T) {a i j : Nat} {D d : List α} (hD : (segL D a (i + 1)).Pairwise fun x y => tag x < tag y) (h : InsInv T a i D d j) (hai : a ≤ i) (hj : a < j) (hjd : j < d.length)
    (hc : ¬ cf d[j] d[j - 1] < 0) : OutInv T a (i + 1) D d := by
  obtain ⟨S1', S2', x', y, hx', e, hp', hs', h2', ej', e1, e2⟩ := ins_at h hai hj
  have g1 : d[j] = x' := by rw [List.getElem?_eq_getElem hjd] at e1; exact Option.some.inj e1
  have g2 : d[j - 1] = y := by rw [List.getElem?_eq_getElem (by omega)] at e2; exact Option.some.inj e2
  rw [g1, g2] at hc
  have hi := (List.getElem?_eq_some_iff.1 hx').1
  have hmem : y ∈ segL D a i := hp'.mem_iff.1 (by simp)
  have hlt : tag y < tag x' := by
    have hD2 : (segL D a i ++ [x']).Pairwise fun x y => tag x < tag y := by
      have : segL D a (i + 1) = segL D a i ++ [x'] := by
        rw [segL_succ D hai hi]
        rw [List.getElem?_eq_getElem hi] at hx'
        rw [Option.some.inj hx']
      rw [← this]
      exact hD
    exact (List.pairwise_append.1 hD2).2.2 y hmem x' (by simp)
  have hT : T y x' := by
    rcases O.tri y x' (by omega) with h | h
    · exact h
    · exact absurd ((O.agree y x' hlt).2 h) hc
  refine ins_done h hai fun S1 S2 x ed _ hps ej hx s hs => ?_
  rw [hx'] at hx
  obtain rfl := Option.some.inj hx
  have hd : D.take a ++ (S1' ++ y :: x' :: S2') ++ D.drop (i + 1) = D.take a ++ (S1 ++ x' :: S2) ++ D.drop (i + 1) := by rw [← e, ← ed]
  have hd2 := List.append_cancel_left (List.append_cancel_right hd)
  rw [show S1' ++ y :: x' :: S2' = (S1' ++ [y]) ++ (x' :: S2') by simp] at hd2
  have hd3 := (List.append_inj hd2 (by simp; omega)).1
  subst hd3
  rcases List.mem_append.1 hs with h1 | h1
  · have := (List.pairwise_append.1 hs').2.2 s h1 y (by simp)
    exact O.trans _ _ _ this hT
  · rw [List.mem_singleton] at h1
    rw [h1]
    exact hT


def SwpInv (P X Y Z S d : List α) (i : Nat) : Prop :=
  d = P ++ (Z.take i ++ X.drop i) ++ Y ++ (X.take i ++ Z.drop i) ++ S

theorem swp_start (P X Y Z S : List α) : SwpInv P X Y Z S (P ++ X ++ Y ++ Z ++ S) 0 := by simp [SwpInv]

theorem swp_end {P X Y Z S d : List α} {n : Nat} (h : SwpInv P X Y Z S d n) (hx : X.length = n) (hz : Z.length = n) : d = P ++ Z ++ Y ++ X ++ S := by
  rw [h, List.take_of_length_le (by omega), List.drop_of_length_le (by omega), List.take_of_length_le (by omega), List.drop_of_length_le (by omega)]
  simp

theorem SwpInv.len {P X Y Z S d : List α} {i : Nat} (h : SwpInv P X Y Z S d i) (hx : i ≤ X.length) (hz : i ≤ Z.length) : d.length = P.length + X.length + Y.length + Z.length + S.length := by
  rw [h]
  simp
  omega

theorem swp_at {P X Y Z S d : List α} {i : Nat} (h : SwpInv P X Y Z S d i) (hx : i < X.length) (hz : i < Z.length) :
    d[P.length + i]? = some X[i] ∧ d[P.length + X.length + Y.length + i]? = some Z[i] := by
  rw [h]
  have a1 : (Z.take i).length = i := by simp; omega
  have a2 : (X.take i).length = i := by simp; omega
  have a3 : (X.drop i).length = X.length - i := by simp
  constructor
  · rw [List.append_assoc, List.append_assoc, List.append_assoc, List.getElem?_append_right (by omega), List.getElem?_append_left (by simp; omega), List.getElem?_append_right (by omega), List.getElem?_drop]
    rw [List.getElem?_eq_getElem (by omega)]
    congr 2
    omega
  · rw [List.getElem?_append_left (by simp; omega), List.getElem?_append_right (by simp; omega), List.getElem?_append_right (by simp; omega), List.getElem?_drop]
    rw [List.getElem?_eq_getElem (by simp; omega)]
    congr 2
    simp
    omega

theorem set_mid (A : List α) (x y : α) (B : List α) {k : Nat} (hk : k = A.length) : (A ++ x :: B).set k y = A ++ y :: B := by
  rw [hk, List.set_append_right _ _ (Nat.le_refl _), Nat.sub_self, List.set_cons_zero]

theorem swp_step {P X Y Z S d : List α} {i : Nat} (h : SwpInv P X Y Z S d i) (hx : i < X.length) (hz : i < Z.length) :
    SwpInv P X Y Z S ((d.set (P.length + i) Z[i]).set (P.length + X.length + Y.length + i) X[i]) (i + 1) := by
  have a1 : (Z.take i).length = i := by simp; omega
  have a2 : (X.take i).length = i := by simp; omega
  have e1 : X.drop i = X[i] :: X.drop (i + 1) := List.drop_eq_getElem_cons hx
  have e2 : Z.drop i = Z[i] :: Z.drop (i + 1) := List.drop_eq_getElem_cons hz
  have e3 : X.take (i + 1) = X.take i ++ [X[i]] := List.take_succ_eq_append_getElem hx
  have e4 : Z.take (i + 1) = Z.take i ++ [Z[i]] := List.take_succ_eq_append_getElem hz
  have l1 : X.length = i + (X.drop i).length := by simp; omega
  unfold SwpInv at h ⊢
  subst h
  rw [e3, e4]
  rw [e1] at l1
  rw [e1, e2]
  simp only [List.length_cons] at l1
  generalize X.take i = X1 at *
  generalize Z.take i = Z1 at *
  generalize X.drop (i + 1) = X2 at *
  generalize Z.drop (i + 1) = Z2 at *
  generalize X[i] = x at *
  generalize Z[i] = z at *
  rw [show P ++ (Z1 ++ x :: X2) ++ Y ++ (X1 ++ z :: Z2) ++ S = (P ++ Z1) ++ x :: (X2 ++ Y ++ (X1 ++ z :: Z2) ++ S) by simp]
  rw [set_mid _ _ _ _ (by simp; omega)]
  rw [show (P ++ Z1) ++ z :: (X2 ++ Y ++ (X1 ++ z :: Z2) ++ S) = (P ++ Z1 ++ z :: (X2 ++ Y ++ X1)) ++ z :: (Z2 ++ S) by simp]
  rw [set_mid _ _ _ _ (by simp; omega)]
  simp


def RotInv (m : Nat) (W d : List α) (i j : Nat) : Prop :=
  ∃ P U V S, d = P ++ U ++ V ++ S ∧ U.length = i ∧ V.length = j ∧ P.length + i = m ∧ 0 < i ∧ 0 < j ∧ W = P ++ V ++ U ++ S

theorem rot_down {m : Nat} {W d : List α} {i j : Nat} (h : RotInv m W d i j) (hij : j < i) :
    ∃ P X Y Z S, d = P ++ X ++ Y ++ Z ++ S ∧ X.length = j ∧ Z.length = j ∧ P.length = m - i ∧ P.length + X.length + Y.length = m ∧ RotInv m W (P ++ Z ++ Y ++ X ++ S) (i - j) j := by
  obtain ⟨P, U, V, S, rfl, hU, hV, hm, h1, h2, rfl⟩ := h
  refine ⟨P, U.take j, U.drop j, V, S, by simp, by simp; omega, hV, by omega, by simp; omega, P ++ V, U.drop j, U.take j, S, by simp, by simp; omega, by simp; omega, by simp; omega, by omega, by omega, ?_⟩
  conv => lhs; rw [← List.take_append_drop j U]
  simp

theorem rot_up {m : Nat} {W d : List α} {i j : Nat} (h : RotInv m W d i j) (hij : i < j) :
    ∃ P X Y Z S, d = P ++ X ++ Y ++ Z ++ S ∧ X.length = i ∧ Z.length = i ∧ P.length = m - i ∧ P.length + X.length + Y.length = m + j - i ∧ RotInv m W (P ++ Z ++ Y ++ X ++ S) i (j - i) := by
  obtain ⟨P, U, V, S, rfl, hU, hV, hm, h1, h2, rfl⟩ := h
  refine ⟨P, U, V.take (j - i), V.drop (j - i), S, by simp, hU, by simp; omega, by omega, by simp; omega, P, V.drop (j - i), V.take (j - i), U ++ S, by simp, by simp; omega, by simp; omega, by omega, by omega, by omega, ?_⟩
  conv => lhs; rw [← List.take_append_drop (j - i) V]
  simp

theorem rot_last {m : Nat} {W d : List α} {i : Nat} (h : RotInv m W d i i) :
    ∃ P X Z S, d = P ++ X ++ [] ++ Z ++ S ∧ X.length = i ∧ Z.length = i ∧ P.length = m - i ∧ P.length + X.length + ([] : List α).length = m ∧ W = P ++ Z ++ [] ++ X ++ S := by
  obtain ⟨P, U, V, S, rfl, hU, hV, hm, h1, h2, rfl⟩ := h
  exact ⟨P, U, V, S, by simp, hU, hV, by omega, by simp; omega, by simp⟩


def MrgOK (T : α → α → Prop) (L R M : List α) : Prop := M.Perm (L ++ R) ∧ M.Pairwise T

theorem last_all {L : List α} {x y : α} (O : StOrd cf tag T) (hs : (L ++ [x]).Pairwise T) (h : T x y) : ∀ z ∈ L ++ [x], T z y := by
  intro z hz
  rcases List.mem_append.1 hz with h1 | h1
  · exact O.trans _ _ _ ((List.pairwise_append.1 hs).2.2 z h1 x (by simp)) h
  · rw [List.mem_singleton] at h1
    rw [h1]
    exact h

theorem head_all {R : List α} {x y : α} (O : StOrd cf tag T) (hs : (y :: R).Pairwise T) (h : T x y) : ∀ z ∈ y :: R, T x z := by
  intro z hz
  rcases List.mem_cons.1 hz with rfl | h1
  · exact h
  · exact O.trans _ _ _ h ((List.pairwise_cons.1 hs).1 z h1)

theorem cross_all (O : StOrd cf tag T) {L R : List α} (hL : L.Pairwise T) (hR : R.Pairwise T) (h : ∀ x y, L.getLast? = some x → R.head? = some y → T x y) : ∀ x ∈ L, ∀ y ∈ R, T x y := by
  intro x hx y hy
  have hne : L ≠ [] := by rintro rfl; cases hx
  obtain ⟨L0, l, rfl⟩ : ∃ L0 l, L = L0 ++ [l] := ⟨L.dropLast, L.getLast hne, (List.dropLast_concat_getLast hne).symm⟩
  obtain ⟨r, R0, rfl⟩ : ∃ r R0, R = r :: R0 := by
    cases R with
    | nil => cases hy
    | cons r R0 => exact ⟨r, R0, rfl⟩
  have h1 := h l r (by simp) (by simp)
  exact head_all O hR (last_all O hL h1 x hx) y hy

theorem sym_parts (O : StOrd cf tag T) {P L R S d : List α} {a m b mid start : Nat} (hd : d = P ++ L ++ R ++ S) (ha : P.length = a) (hm : a + L.length = m) (hb : m + R.length = b)
    (hmid : mid = (a + b) / 2) (hL : L.Pairwise T) (hR : R.Pairwise T) (htag : ∀ x ∈ L, ∀ y ∈ R, tag x < tag y)
    (h1 : a ≤ start) (h2 : start ≤ m) (h3 : m + start ≤ mid + m) (h3' : m ≤ mid + m - start) (h4 : mid + m - start ≤ b)
    (hlo : start = (if mid < m then mid + m - b else a) ∨ ∀ x y, d[mid + m - start]? = some y → d[start - 1]? = some x → ¬ cf y x < 0)
    (hhi : start = (if mid < m then mid else m) ∨ ∀ x y, d[mid + m - 1 - start]? = some y → d[start]? = some x → cf y x < 0) :
    ∃ L1 L2 R1 R2, L = L1 ++ L2 ∧ R = R1 ++ R2 ∧ L1.length = start - a ∧ L2.length = m - start ∧ R1.length = mid + m - start - m ∧ R2.length = b - (mid + m - start) ∧
      (∀ x ∈ L1, ∀ y ∈ R2, T x y) ∧ (∀ x ∈ R1, ∀ y ∈ L2, T x y) := by
  have eL : L = L.take (start - a) ++ L.drop (start - a) := (List.take_append_drop _ _).symm
  have eR : R = R.take (mid + m - start - m) ++ R.drop (mid + m - start - m) := (List.take_append_drop _ _).symm
  have lL1 : (L.take (start - a)).length = start - a := by simp; omega
  have lR1 : (R.take (mid + m - start - m)).length = mid + m - start - m := by simp; omega
  have lL2 : (L.drop (start - a)).length = m - start := by simp; omega
  have lR2 : (R.drop (mid + m - start - m)).length = b - (mid + m - start) := by simp; omega
  obtain ⟨L1, hL1⟩ : ∃ L1, L.take (start - a) = L1 := ⟨_, rfl⟩
  obtain ⟨L2, hL2⟩ : ∃ L2, L.drop (start - a) = L2 := ⟨_, rfl⟩
  obtain ⟨R1, hR1⟩ : ∃ R1, R.take (mid + m - start - m) = R1 := ⟨_, rfl⟩
  obtain ⟨R2, hR2⟩ : ∃ R2, R.drop (mid + m - start - m) = R2 := ⟨_, rfl⟩
  rw [hL1] at eL lL1
  rw [hL2] at eL lL2
  rw [hR1] at eR lR1
  rw [hR2] at eR lR2
  clear hL1 hL2 hR1 hR2
  subst eL eR
  obtain ⟨pL1, pL2, pL⟩ := List.pairwise_append.1 hL
  obtain ⟨pR1, pR2, pR⟩ := List.pairwise_append.1 hR
  simp only [List.length_append] at hm hb
  refine ⟨L1, L2, R1, R2, rfl, rfl, lL1, lL2, lR1, lR2, ?_, ?_⟩
  · refine cross_all O pL1 pR2 fun x y hx hy => ?_
    have hne1 : L1 ≠ [] := by rintro rfl; simp at hx
    have hne2 : R2 ≠ [] := by rintro rfl; simp at hy
    have l1 : 0 < L1.length := List.length_pos_iff.2 hne1
    have l2 : 0 < R2.length := List.length_pos_iff.2 hne2
    have q := hlo.resolve_left (by split <;> omega) x y ?_ ?_
    · have ht := htag x (List.mem_append.2 (.inl (List.mem_of_getLast? hx))) y (List.mem_append.2 (.inr (List.mem_of_head? hy)))
      rcases O.tri x y (by omega) with h | h
      · exact h
      · exact absurd ((O.agree x y ht).2 h) q
    · rw [hd, show P ++ (L1 ++ L2) ++ (R1 ++ R2) ++ S = (P ++ L1 ++ L2 ++ R1) ++ (R2 ++ S) by simp, List.getElem?_append_right (by simp; omega), List.getElem?_append_left (by simp; omega)]
      rw [List.head?_eq_getElem?] at hy
      rw [← hy]
      congr 1
      simp
      omega
    · rw [hd, show P ++ (L1 ++ L2) ++ (R1 ++ R2) ++ S = P ++ (L1 ++ (L2 ++ (R1 ++ R2) ++ S)) by simp, List.getElem?_append_right (by omega), List.getElem?_append_left (by omega)]
      rw [List.getLast?_eq_getElem?] at hx
      rw [← hx]
      congr 1
      omega
  · refine cross_all O pR1 pL2 fun x y hx hy => ?_
    have hne1 : R1 ≠ [] := by rintro rfl; simp at hx
    have hne2 : L2 ≠ [] := by rintro rfl; simp at hy
    have l1 : 0 < R1.length := List.length_pos_iff.2 hne1
    have l2 : 0 < L2.length := List.length_pos_iff.2 hne2
    have q := hhi.resolve_left (by split <;> omega) y x ?_ ?_
    · have ht := htag y (List.mem_append.2 (.inr (List.mem_of_head? hy))) x (List.mem_append.2 (.inl (List.mem_of_getLast? hx)))
      exact (O.agree y x ht).1 q
    · rw [hd, show P ++ (L1 ++ L2) ++ (R1 ++ R2) ++ S = (P ++ L1 ++ L2) ++ (R1 ++ (R2 ++ S)) by simp, List.getElem?_append_right (by simp; omega), List.getElem?_append_left (by simp; omega)]
      rw [List.getLast?_eq_getElem?] at hx
      rw [← hx]
      congr 1
      simp
      omega
    · rw [hd, show P ++ (L1 ++ L2) ++ (R1 ++ R2) ++ S = (P ++ L1) ++ (L2 ++ (R1 ++ R2 ++ S)) by simp, List.getElem?_append_right (by simp; omega), List.getElem?_append_left (by simp; omega)]
      rw [List.head?_eq_getElem?] at hy
      rw [← hy]
      congr 1
      simp
      omega

theorem sym_join {L1 L2 R1 R2 M1 M2 : List α} (hL : (L1 ++ L2).Pairwise T) (hR : (R1 ++ R2).Pairwise T) (c1 : ∀ x ∈ L1, ∀ y ∈ R2, T x y) (c2 : ∀ x ∈ R1, ∀ y ∈ L2, T x y)
    (h1 : MrgOK T L1 R1 M1) (h2 : MrgOK T L2 R2 M2) : MrgOK T (L1 ++ L2) (R1 ++ R2) (M1 ++ M2) := by
  refine ⟨?_, List.pairwise_append.2 ⟨h1.2, h2.2, fun x hx y hy => ?_⟩⟩
  · refine (List.Perm.append h1.1 h2.1).trans ?_
    rw [List.append_assoc, List.append_assoc]
    refine List.Perm.append_left _ ?_
    rw [← List.append_assoc, ← List.append_assoc]
    exact List.Perm.append_right _ List.perm_append_comm
  · have hx' := h1.1.mem_iff.1 hx
    have hy' := h2.1.mem_iff.1 hy
    rcases List.mem_append.1 hx' with a | a <;> rcases List.mem_append.1 hy' with b | b
    · exact (List.pairwise_append.1 hL).2.2 x a y b
    · exact c1 x a y b
    · exact c2 x a y b
    · exact (List.pairwise_append.1 hR).2.2 x a y b

theorem mrg_left {L : List α} (h : L.Pairwise T) : MrgOK T L [] L := ⟨by simp, h⟩
theorem mrg_right {R : List α} (h : R.Pairwise T) : MrgOK T [] R R := ⟨by simp, h⟩

theorem one_left (O : StOrd cf tag T) {x : α} {R1 R2 : List α} (hR : (R1 ++ R2).Pairwise T) (htag : ∀ y ∈ R1 ++ R2, tag x < tag y)
    (h1 : ∀ y, R1.getLast? = some y → cf y x < 0) (h2 : ∀ y, R2.head? = some y → ¬ cf y x < 0) : MrgOK T [x] (R1 ++ R2) (R1 ++ x :: R2) := by
  obtain ⟨p1, p2, p3⟩ := List.pairwise_append.1 hR
  have c1 : ∀ y ∈ R1, ∀ z ∈ [x], T y z := cross_all O p1 (List.pairwise_singleton _ _) fun y z hy hz => by
    obtain rfl : x = z := by simpa using hz
    exact (O.agree x y (htag y (List.mem_append.2 (.inl (List.mem_of_getLast? hy))))).1 (h1 y hy)
  have c2 : ∀ z ∈ [x], ∀ y ∈ R2, T z y := cross_all O (List.pairwise_singleton _ _) p2 fun z y hz hy => by
    obtain rfl : x = z := by simpa using hz
    have ht := htag y (List.mem_append.2 (.inr (List.mem_of_head? hy)))
    rcases O.tri x y (by omega) with h | h
    · exact h
    · exact absurd ((O.agree x y ht).2 h) (h2 y hy)
  refine ⟨List.perm_middle, List.pairwise_append.2 ⟨p1, List.pairwise_cons.2 ⟨fun y hy => c2 x (by simp) y hy, p2⟩, fun y hy z hz => ?_⟩⟩
  rcases List.mem_cons.1 hz with rfl | hz
  · exact c1 y hy z (by simp)
  · exact p3 y hy z hz

theorem one_right (O : StOrd cf tag T) {x : α} {L1 L2 : List α} (hL : (L1 ++ L2).Pairwise T) (htag : ∀ y ∈ L1 ++ L2, tag y < tag x)
    (h1 : ∀ y, L1.getLast? = some y → ¬ cf x y < 0) (h2 : ∀ y, L2.head? = some y → cf x y < 0) : MrgOK T (L1 ++ L2) [x] (L1 ++ x :: L2) := by
  obtain ⟨p1, p2, p3⟩ := List.pairwise_append.1 hL
  have c1 : ∀ y ∈ L1, ∀ z ∈ [x], T y z := cross_all O p1 (List.pairwise_singleton _ _) fun y z hy hz => by
    obtain rfl : x = z := by simpa using hz
    have ht := htag y (List.mem_append.2 (.inl (List.mem_of_getLast? hy)))
    rcases O.tri y x (by omega) with h | h
    · exact h
    · exact absurd ((O.agree y x ht).2 h) (h1 y hy)
  have c2 : ∀ z ∈ [x], ∀ y ∈ L2, T z y := cross_all O (List.pairwise_singleton _ _) p2 fun z y hz hy => by
    obtain rfl : x = z := by simpa using hz
    exact (O.agree y x (htag y (List.mem_append.2 (.inr (List.mem_of_head? hy))))).1 (h2 y hy)
  refine ⟨?_, List.pairwise_append.2 ⟨p1, List.pairwise_cons.2 ⟨fun y hy => c2 x (by simp) y hy, p2⟩, fun y hy z hz => ?_⟩⟩
  · exact List.perm_middle.trans (List.perm_append_singleton x _).symm
  · rcases List.mem_cons.1 hz with rfl | hz
    · exact c1 y hy z (by simp)
    · exact p3 y hy z hz


def Srt (T : α → α → Prop) (D d : List α) (lo hi : Nat) : Prop := (segL d lo hi).Perm (segL D lo hi) ∧ (segL d lo hi).Pairwise T

theorem segL_take (D : List α) {a i b : Nat} (hib : i ≤ b) : segL D a i = (segL D a b).take (i - a) := by
  simp only [segL]
  rw [List.take_drop, List.take_take]
  by_cases h : a ≤ i
  · rw [show a + (i - a) = i by omega, Nat.min_eq_left hib]
  · rw [show a + (i - a) = a by omega, List.drop_eq_nil_of_le (by simp; omega), List.drop_eq_nil_of_le (by simp; omega)]

theorem segL_append (d : List α) {a m b : Nat} (h1 : a ≤ m) (h2 : m ≤ b) : segL d a m ++ segL d m b = segL d a b := by
  simp only [segL]
  have e : d.take m = (d.take b).take m := by rw [List.take_take, Nat.min_eq_left h2]
  rw [e]
  generalize d.take b = X
  have e2 : X.drop m = (X.drop a).drop (m - a) := by rw [List.drop_drop]; congr 1; omega
  rw [e2, List.drop_take, List.take_append_drop]

theorem segL_in {P M S : List α} {a b : Nat} (ha : P.length = a) (hb : a + M.length = b) : segL (P ++ M ++ S) a b = M := by
  simp only [segL]
  rw [List.take_left' (by simp; omega), List.drop_left' ha]

theorem segL_low {P M M' S S' : List α} {lo hi : Nat} (h : hi ≤ P.length) : segL (P ++ M ++ S) lo hi = segL (P ++ M' ++ S') lo hi := by
  simp only [segL, List.append_assoc]
  rw [List.take_append_of_le_length h, List.take_append_of_le_length h]

theorem segL_high {P M M' S : List α} {lo hi : Nat} (h : P.length + M.length ≤ lo) (hM : M'.length = M.length) : segL (P ++ M ++ S) lo hi = segL (P ++ M' ++ S) lo hi := by
  simp only [segL]
  rw [List.drop_take, List.drop_take, List.drop_append, List.drop_append (l₁ := P ++ M'), List.drop_eq_nil_of_le (by simp; omega), List.drop_eq_nil_of_le (as := P ++ M') (by simp; omega)]
  simp [hM]

theorem segL_over (d : List α) {lo hi hi' : Nat} (h : d.length ≤ hi) (h' : d.length ≤ hi') : segL d lo hi = segL d lo hi' := by
  simp only [segL]
  rw [List.take_of_length_le h, List.take_of_length_le h']

theorem segL_nil (d : List α) {lo hi : Nat} (h : d.length ≤ lo) : segL d lo hi = [] := by
  simp only [segL]
  exact List.drop_eq_nil_of_le (by simp; omega)

theorem segL_pair {D : List α} {R : α → α → Prop} (h : D.Pairwise R) (a b : Nat) : (segL D a b).Pairwise R := (h.take).drop

theorem seg_cross {D : List α} {R : α → α → Prop} (h : D.Pairwise R) {a m b : Nat} (h1 : a ≤ m) (h2 : m ≤ b) : ∀ x ∈ segL D a m, ∀ y ∈ segL D m b, R x y := by
  have q := segL_pair h a b
  rw [← segL_append D h1 h2] at q
  exact (List.pairwise_append.1 q).2.2

def Ph1 (T : α → α → Prop) (D d : List α) (k : Nat) : Prop := d.length = D.length ∧ d.drop (k * 20) = D.drop (k * 20) ∧ ∀ q, q < k → Srt T D d (q * 20) ((q + 1) * 20)

theorem ph1_start (D : List α) : Ph1 T D D 0 := ⟨rfl, rfl, fun q hq => by omega⟩

theorem out_end {a b : Nat} {d d' : List α} (h : OutInv T a b d d') (hb : b ≤ d.length) : ∃ M, d' = d.take a ++ M ++ d.drop b ∧ M.Perm (segL d a b) ∧ M.Pairwise T ∧ M.length = b - a := by
  obtain ⟨S, e, hp, hs⟩ := h
  exact ⟨S, e, hp, hs, by rw [hp.length_eq, segL_len d hb]⟩

theorem seg_of_drop {D d : List α} {a b : Nat} (h : d.drop a = D.drop a) : segL d a b = segL D a b := by
  simp only [segL]
  rw [List.drop_take, List.drop_take, h]

theorem ph1_step {D d d' : List α} {k : Nat} (h : Ph1 T D d k) (hk : (k + 1) * 20 ≤ D.length) (ho : OutInv T (k * 20) ((k + 1) * 20) d d') : Ph1 T D d' (k + 1) := by
  obtain ⟨h1, h2, h3⟩ := h
  obtain ⟨M, rfl, hp, hs, hM⟩ := out_end ho (by omega)
  have lP : (d.take (k * 20)).length = k * 20 := by simp; omega
  refine ⟨by simp; omega, ?_, fun q hq => ?_⟩
  · rw [List.drop_append, List.drop_eq_nil_of_le (by simp; omega), List.nil_append]
    have : (k + 1) * 20 - (d.take (k * 20) ++ M).length = 0 := by simp; omega
    rw [this, List.drop_zero]
    have e := congrArg (List.drop 20) h2
    rw [List.drop_drop, List.drop_drop] at e
    rw [show (k + 1) * 20 = k * 20 + 20 by omega]
    exact e
  · by_cases hqk : q = k
    · subst hqk
      rw [Srt, segL_in lP (by omega)]
      rw [seg_of_drop h2] at hp
      exact ⟨hp, hs⟩
    · have e : segL (d.take (k * 20) ++ M ++ d.drop ((k + 1) * 20)) (q * 20) ((q + 1) * 20) = segL d (q * 20) ((q + 1) * 20) := by
        conv => rhs; rw [← take_seg_drop d (show k * 20 ≤ (k + 1) * 20 by omega)]
        exact segL_low (by rw [lP]; omega)
      rw [Srt, e]
      exact h3 q (by omega)

def Blks (T : α → α → Prop) (D d : List α) (bs : Nat) : Prop := d.length = D.length ∧ ∀ q, Srt T D d (q * bs) ((q + 1) * bs)

theorem srt_nil {D d : List α} (hl : d.length = D.length) {lo hi : Nat} (h : D.length ≤ lo) : Srt T D d lo hi := by
  rw [Srt, segL_nil d (by omega), segL_nil D h]
  exact ⟨List.Perm.nil, List.Pairwise.nil⟩

theorem ph1_end {D d d' : List α} {k : Nat} (h : Ph1 T D d k) (hk : k * 20 ≤ D.length) (hk2 : D.length < (k + 1) * 20) (ho : OutInv T (k * 20) D.length d d') : Blks T D d' 20 := by
  obtain ⟨h1, h2, h3⟩ := h
  obtain ⟨M, rfl, hp, hs, hM⟩ := out_end ho (by omega)
  have lP : (d.take (k * 20)).length = k * 20 := by simp; omega
  have hl : (d.take (k * 20) ++ M ++ d.drop D.length).length = D.length := by simp; omega
  refine ⟨hl, fun q => ?_⟩
  by_cases hqk : q = k
  · subst hqk
    rw [Srt, segL_over _ (by omega) (by omega : _ ≤ D.length), segL_in lP (by omega), segL_over D (by omega) (Nat.le_refl _)]
    rw [seg_of_drop h2] at hp
    exact ⟨hp, hs⟩
  · by_cases hq : q < k
    · have e : segL (d.take (k * 20) ++ M ++ d.drop D.length) (q * 20) ((q + 1) * 20) = segL d (q * 20) ((q + 1) * 20) := by
        conv => rhs; rw [← take_seg_drop d hk]
        exact segL_low (by rw [lP]; omega)
      rw [Srt, e]
      exact h3 q hq
    · exact srt_nil hl (by omega)

def Ph2 (T : α → α → Prop) (D d : List α) (bs k : Nat) : Prop :=
  d.length = D.length ∧ (∀ q, q < k → Srt T D d (q * (2 * bs)) ((q + 1) * (2 * bs))) ∧ ∀ q, 2 * k ≤ q → Srt T D d (q * bs) ((q + 1) * bs)

theorem ph2_start {D d : List α} {bs : Nat} (h : Blks T D d bs) : Ph2 T D d bs 0 := ⟨h.1, fun q hq => by omega, fun q _ => h.2 q⟩

theorem ph2_pre {D d : List α} {bs k : Nat} (hD : D.Pairwise fun x y => tag x < tag y) (h : Ph2 T D d bs k) (b : Nat) (hb : b = (k + 1) * (2 * bs) ∨ (b = D.length ∧ D.length ≤ (k + 1) * (2 * bs))) (hm : k * (2 * bs) + bs ≤ b) :
    (segL d (k * (2 * bs)) (k * (2 * bs) + bs)).Pairwise T ∧ (segL d (k * (2 * bs) + bs) b).Pairwise T ∧ (∀ x ∈ segL d (k * (2 * bs)) (k * (2 * bs) + bs), ∀ y ∈ segL d (k * (2 * bs) + bs) b, tag x < tag y) ∧
      (segL d (k * (2 * bs)) (k * (2 * bs) + bs)).Perm (segL D (k * (2 * bs)) (k * (2 * bs) + bs)) ∧ (segL d (k * (2 * bs) + bs) b).Perm (segL D (k * (2 * bs) + bs) b) := by
  obtain ⟨h1, h2, h3⟩ := h
  have e0 : k * (2 * bs) = (2 * k) * bs := by rw [← Nat.mul_assoc, Nat.mul_comm k 2]
  have e1 : k * (2 * bs) + bs = (2 * k + 1) * bs := by rw [e0, Nat.add_mul, Nat.one_mul]
  have e2 : (k + 1) * (2 * bs) = (2 * k + 1 + 1) * bs := by rw [Nat.add_mul, e0, Nat.add_mul, Nat.add_mul]; omega
  have a1 := h3 (2 * k) (by omega)
  have a2 := h3 (2 * k + 1) (by omega)
  rw [← e0, ← e1] at a1
  rw [← e1, ← e2] at a2
  have a3 : Srt T D d (k * (2 * bs) + bs) b := by
    rcases hb with rfl | ⟨rfl, hb⟩
    · exact a2
    · rw [Srt, segL_over d (by omega) (by omega : _ ≤ (k + 1) * (2 * bs)), segL_over D (Nat.le_refl _) hb]
      exact a2
  refine ⟨a1.2, a3.2, fun x hx y hy => seg_cross hD (by omega) hm x (a1.1.mem_iff.1 hx) y (a3.1.mem_iff.1 hy), a1.1, a3.1⟩

theorem ph2_step {D d M : List α} {bs k b : Nat} (hbs : 0 < bs) (h : Ph2 T D d bs k) (hb : b = (k + 1) * (2 * bs) ∨ (b = D.length ∧ D.length ≤ (k + 1) * (2 * bs))) (hm : k * (2 * bs) + bs ≤ b) (hbn : b ≤ D.length)
    (hL : (segL d (k * (2 * bs)) (k * (2 * bs) + bs)).Perm (segL D (k * (2 * bs)) (k * (2 * bs) + bs))) (hR : (segL d (k * (2 * bs) + bs) b).Perm (segL D (k * (2 * bs) + bs) b))
    (hM : MrgOK T (segL d (k * (2 * bs)) (k * (2 * bs) + bs)) (segL d (k * (2 * bs) + bs) b) M) : Ph2 T D (d.take (k * (2 * bs)) ++ M ++ d.drop b) bs (k + 1) := by
  obtain ⟨h1, h2, h3⟩ := h
  have lM : M.length = b - k * (2 * bs) := by
    rw [hM.1.length_eq, segL_append d (by omega) hm, segL_len d (by omega)]
  have lP : (d.take (k * (2 * bs))).length = k * (2 * bs) := by simp; omega
  have hl : (d.take (k * (2 * bs)) ++ M ++ d.drop b).length = D.length := by simp; omega
  have pM : M.Perm (segL D (k * (2 * bs)) b) := by
    rw [← segL_append D (show k * (2 * bs) ≤ k * (2 * bs) + bs by omega) hm]
    exact hM.1.trans (List.Perm.append hL hR)
  have hk1 : (k + 1) * (2 * bs) = k * (2 * bs) + 2 * bs := by rw [Nat.add_mul, Nat.one_mul]
  refine ⟨hl, fun q hq => ?_, fun q hq => ?_⟩
  · by_cases hqk : q = k
    · subst hqk
      rcases hb with rfl | ⟨rfl, hb⟩
      · rw [Srt, segL_in lP (by omega)]
        exact ⟨pM, hM.2⟩
      · rw [Srt, segL_over _ (by omega) (by omega : _ ≤ D.length), segL_in lP (by omega), segL_over D hb (Nat.le_refl _)]
        exact ⟨pM, hM.2⟩
    · have hle : (q + 1) * (2 * bs) ≤ k * (2 * bs) := Nat.mul_le_mul_right _ (by omega)
      have e : segL (d.take (k * (2 * bs)) ++ M ++ d.drop b) (q * (2 * bs)) ((q + 1) * (2 * bs)) = segL d (q * (2 * bs)) ((q + 1) * (2 * bs)) := by
        conv => rhs; rw [← take_seg_drop d (show k * (2 * bs) ≤ b by omega)]
        exact segL_low (by rw [lP]; exact hle)
      rw [Srt, e]
      exact h2 q (by omega)
  · have hle : (2 * (k + 1)) * bs ≤ q * bs := Nat.mul_le_mul_right _ hq
    have e0 : (2 * (k + 1)) * bs = (k + 1) * (2 * bs) := by rw [Nat.mul_comm 2 (k + 1), Nat.mul_assoc]
    rcases hb with rfl | ⟨rfl, hb⟩
    · have e : segL (d.take (k * (2 * bs)) ++ M ++ d.drop ((k + 1) * (2 * bs))) (q * bs) ((q + 1) * bs) = segL d (q * bs) ((q + 1) * bs) := by
        conv => rhs; rw [← take_seg_drop d (show k * (2 * bs) ≤ (k + 1) * (2 * bs) by omega)]
        exact segL_high (by omega) (by rw [lM, segL_len d (by omega)])
      rw [Srt, e]
      exact h3 q (by omega)
    · exact srt_nil hl (by omega)

theorem ph2_end {D d : List α} {bs k : Nat} (h : Ph2 T D d bs k) (hn : D.length ≤ k * (2 * bs)) : Blks T D d (2 * bs) := by
  obtain ⟨h1, h2, h3⟩ := h
  refine ⟨h1, fun q => ?_⟩
  by_cases hq : q < k
  · exact h2 q hq
  · exact srt_nil h1 (Nat.le_trans hn (Nat.mul_le_mul_right _ (by omega)))

theorem ph2_skip {D d : List α} {bs k : Nat} (h : Ph2 T D d bs k) (hn : D.length ≤ k * (2 * bs) + bs) : Blks T D d (2 * bs) := by
  obtain ⟨h1, h2, h3⟩ := h
  have hk1 : (k + 1) * (2 * bs) = k * (2 * bs) + 2 * bs := by rw [Nat.add_mul, Nat.one_mul]
  refine ⟨h1, fun q => ?_⟩
  by_cases hq : q < k
  · exact h2 q hq
  · by_cases hqk : q = k
    · subst hqk
      have e0 : q * (2 * bs) = (2 * q) * bs := by rw [← Nat.mul_assoc, Nat.mul_comm q 2]
      have a1 := h3 (2 * q) (by omega)
      rw [Nat.add_mul, Nat.one_mul, ← e0] at a1
      rw [Srt, segL_over d (by omega) (by omega : _ ≤ q * (2 * bs) + bs), segL_over D (by omega) hn]
      exact a1
    · refine srt_nil h1 (Nat.le_trans hn ?_)
      have : (k + 1) * (2 * bs) ≤ q * (2 * bs) := Nat.mul_le_mul_right _ (by omega)
      omega

theorem blks_end {D d : List α} {bs : Nat} (h : Blks T D d bs) (hn : D.length ≤ bs) : d.Perm D ∧ d.Pairwise T := by
  have h0 := h.2 0
  rw [Nat.zero_mul, Nat.zero_add, Nat.one_mul, Srt] at h0
  simp only [segL, List.drop_zero] at h0
  rw [List.take_of_length_le (by have := h.1; omega), List.take_of_length_le hn] at h0
  exact h0
end Go.Proofs.YtjncoloedakpoaaDoor
