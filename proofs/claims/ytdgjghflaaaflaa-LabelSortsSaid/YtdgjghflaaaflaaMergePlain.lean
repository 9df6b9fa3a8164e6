/- The plain law of merged labels. No condition. -/
import Derived.Test.YtdgjghflaaaflaaSortLab11
namespace Go.Proofs.Ytdgjghflaaaflaa

theorem toList_injL {a b : ByteArray} : a.toList = b.toList ↔ a = b := by
  refine ⟨fun h => ?_, fun h => by rw [h]⟩
  rw [Lib.toList_data, Lib.toList_data] at h
  exact ByteArray.ext (Array.toList_inj.1 h)

def LTl (x y : TLab) : Prop := Op.bytesLess x.1.key.toList y.1.key.toList = true
def KLt (x y : Label) : Prop := Op.bytesLess x.key.toList y.key.toList = true

theorem LTl.trans {x y z : TLab} (h1 : LTl x y) (h2 : LTl y z) : LTl x z := less_trans h1 h2
theorem LTl.irrefl {x y : TLab} (h1 : LTl x y) (h : x.1.key.toList = y.1.key.toList) : False := by
  unfold LTl at h1
  rw [h, less_irrefl] at h1
  cases h1

theorem sk_iff (x y : TLab) : sk x y = true ↔ x.1.key.toList = y.1.key.toList := by unfold sk; exact beq_iff_eq

theorem TO.lt {x y : TLab} (h : TO x y) (hk : ¬ y.1.key.toList = x.1.key.toList) : LTl x y := by
  rcases h with h | ⟨h, _⟩
  · exact h
  · exact absurd h.symm hk

theorem ddF_rise : ∀ (l : List TLab) (y : TLab), (y :: l).Pairwise TO → (ddF y l).Pairwise LTl ∧ ∀ x ∈ ddF y l, LTl y x
  | [], _, _ => ⟨List.Pairwise.nil, fun x hx => by simp [ddF] at hx⟩
  | u :: l, y, h => by
    obtain ⟨h1, h2⟩ := List.pairwise_cons.1 h
    obtain ⟨i1, i2⟩ := ddF_rise l u h2
    simp only [ddF]
    by_cases hs : sk u y = true
    · rw [if_pos hs]
      have hk := (sk_iff u y).1 hs
      refine ⟨i1, fun x hx => ?_⟩
      have := i2 x hx
      unfold LTl at this ⊢
      rw [← hk]
      exact this
    · rw [if_neg hs]
      have hy : LTl y u := (h1 u (by simp)).lt (fun hk => hs ((sk_iff u y).2 hk))
      refine ⟨List.pairwise_cons.2 ⟨i2, i1⟩, fun x hx => ?_⟩
      rcases List.mem_cons.1 hx with rfl | hx
      · exact hy
      · exact hy.trans (i2 x hx)

theorem dd_rise {d : List TLab} (h : d.Pairwise TO) : (dd d).Pairwise LTl := by
  cases d with
  | nil => exact List.Pairwise.nil
  | cons y l =>
    obtain ⟨i1, i2⟩ := ddF_rise l y h
    exact List.pairwise_cons.2 ⟨i2, i1⟩

theorem ddF_first : ∀ (l : List TLab) (y : TLab), (y :: l).Pairwise TO → ∀ x ∈ ddF y l, x ∈ l ∧ ∀ z ∈ l, z.1.key.toList = x.1.key.toList → x.2 ≤ z.2
  | [], _, _, x, hx => by simp [ddF] at hx
  | u :: l, y, h, x, hx => by
    obtain ⟨h1, h2⟩ := List.pairwise_cons.1 h
    obtain ⟨_, i2⟩ := ddF_rise l u h2
    simp only [ddF] at hx
    have hin : x ∈ ddF u l → x ∈ u :: l ∧ ∀ z ∈ u :: l, z.1.key.toList = x.1.key.toList → x.2 ≤ z.2 := fun hx => by
      obtain ⟨j1, j2⟩ := ddF_first l u h2 x hx
      refine ⟨List.mem_cons_of_mem _ j1, fun z hz hk => ?_⟩
      rcases List.mem_cons.1 hz with rfl | hz
      · exact ((i2 x hx).irrefl hk).elim
      · exact j2 z hz hk
    by_cases hs : sk u y = true
    · rw [if_pos hs] at hx
      exact hin hx
    · rw [if_neg hs] at hx
      rcases List.mem_cons.1 hx with rfl | hx
      · refine ⟨by simp, fun z hz hk => ?_⟩
        rcases List.mem_cons.1 hz with rfl | hz
        · exact Nat.le_refl _
        · rcases (List.pairwise_cons.1 h2).1 z hz with h3 | ⟨_, h3⟩
          · exact (LTl.irrefl (x := x) (y := z) h3 hk.symm).elim
          · exact Nat.le_of_lt h3
      · exact hin hx

theorem dd_first {d : List TLab} (h : d.Pairwise TO) : ∀ x ∈ dd d, x ∈ d ∧ ∀ z ∈ d, z.1.key.toList = x.1.key.toList → x.2 ≤ z.2 := by
  cases d with
  | nil => intro x hx; cases hx
  | cons y l =>
    intro x hx
    rcases List.mem_cons.1 hx with rfl | hx
    · refine ⟨by simp, fun z hz hk => ?_⟩
      rcases List.mem_cons.1 hz with rfl | hz
      · exact Nat.le_refl _
      · rcases (List.pairwise_cons.1 h).1 z hz with h3 | ⟨_, h3⟩
        · exact (LTl.irrefl (x := x) (y := z) h3 hk.symm).elim
        · exact Nat.le_of_lt h3
    · obtain ⟨j1, j2⟩ := ddF_first l y h x hx
      refine ⟨List.mem_cons_of_mem _ j1, fun z hz hk => ?_⟩
      rcases List.mem_cons.1 hz with rfl | hz
      · exact (((ddF_rise l z h).2 x hx).irrefl hk).elim
      · exact j2 z hz hk

theorem ddF_all : ∀ (l : List TLab) (y : TLab), ∀ z ∈ l, ∃ x ∈ y :: ddF y l, x.1.key.toList = z.1.key.toList
  | [], _, _, hz => by cases hz
  | u :: l, y, z, hz => by
    simp only [ddF]
    by_cases hs : sk u y = true
    · rw [if_pos hs]
      have hk := (sk_iff u y).1 hs
      rcases List.mem_cons.1 hz with rfl | hz
      · exact ⟨y, by simp, hk.symm⟩
      · obtain ⟨x, hx, hxk⟩ := ddF_all l u z hz
        rcases List.mem_cons.1 hx with rfl | hx
        · exact ⟨y, by simp, hk.symm.trans hxk⟩
        · exact ⟨x, List.mem_cons_of_mem _ hx, hxk⟩
    · rw [if_neg hs]
      rcases List.mem_cons.1 hz with rfl | hz
      · exact ⟨z, by simp, rfl⟩
      · obtain ⟨x, hx, hxk⟩ := ddF_all l u z hz
        exact ⟨x, List.mem_cons_of_mem _ hx, hxk⟩

theorem dd_all (d : List TLab) : ∀ z ∈ d, ∃ x ∈ dd d, x.1.key.toList = z.1.key.toList := by
  cases d with
  | nil => intro z hz; cases hz
  | cons y l =>
    intro z hz
    rcases List.mem_cons.1 hz with rfl | hz
    · exact ⟨z, by simp [dd], rfl⟩
    · exact ddF_all l y z hz

theorem getL_min : ∀ (xs : List Label) (k : Nat) (x : TLab), x ∈ xs.zipIdx k → (∀ z ∈ xs.zipIdx k, z.1.key.toList = x.1.key.toList → x.2 ≤ z.2) → getL x.1.key xs = (x.1.val, true)
  | [], _, _, h, _ => by simp at h
  | y :: xs, k, x, h, hm => by
    rw [List.zipIdx_cons] at h hm
    by_cases hk : y.key.toList = x.1.key.toList
    · have h1 := hm (y, k) (by simp) hk
      rcases List.mem_cons.1 h with rfl | h
      · simp [getL]
      · have := zip_le xs (k + 1) x h
        simp at h1
        omega
    · rcases List.mem_cons.1 h with rfl | h
      · exact absurd rfl hk
      · have hb : (y.key.toList == x.1.key.toList) = false := beq_eq_false_iff_ne.2 hk
        simp only [getL, hb, Bool.false_eq_true, if_false]
        exact getL_min xs (k + 1) x h fun z hz => hm z (List.mem_cons_of_mem _ hz)

theorem getL_congr {k k' : ByteArray} (h : k.toList = k'.toList) : ∀ xs : List Label, getL k xs = getL k' xs
  | [] => rfl
  | x :: xs => by simp only [getL, h, getL_congr h xs]

theorem getL_yes {k : ByteArray} {x : Label} {xs : List Label} (h : (x.key.toList == k.toList) = true) : getL k (x :: xs) = (x.val, true) := by rw [getL, if_pos h]
theorem getL_no {k : ByteArray} {x : Label} {xs : List Label} (h : ¬ (x.key.toList == k.toList) = true) : getL k (x :: xs) = getL k xs := by rw [getL, if_neg h]

theorem getL_append (k : ByteArray) : ∀ (b a : List Label), getL k (b ++ a) = if (getL k b).2 = true then getL k b else getL k a
  | [], a => by simp [getL]
  | x :: b, a => by
    by_cases h : (x.key.toList == k.toList) = true
    · rw [List.cons_append, getL_yes h, getL_yes h]; rfl
    · rw [List.cons_append, getL_no h, getL_no h]; exact getL_append k b a

theorem getL_mem (k : ByteArray) : ∀ (xs : List Label), (getL k xs).2 = true → ∃ x ∈ xs, x.key.toList = k.toList ∧ (getL k xs).1 = x.val
  | [], h => by simp [getL] at h
  | x :: xs, h => by
    by_cases hk : (x.key.toList == k.toList) = true
    · exact ⟨x, by simp, beq_iff_eq.1 hk, by simp [getL, hk]⟩
    · simp only [getL, if_neg hk] at h ⊢
      obtain ⟨y, hy, h1, h2⟩ := getL_mem k xs h
      exact ⟨y, List.mem_cons_of_mem _ hy, h1, h2⟩

theorem getL_in (k : ByteArray) : ∀ (xs : List Label) (x : Label), x ∈ xs → x.key.toList = k.toList → (getL k xs).2 = true
  | [], _, h, _ => by cases h
  | y :: xs, x, h, hk => by
    by_cases hy : (y.key.toList == k.toList) = true
    · simp [getL, hy]
    · simp only [getL, if_neg hy]
      rcases List.mem_cons.1 h with rfl | h
      · exact absurd (beq_iff_eq.2 hk) hy
      · exact getL_in k xs x h hk

theorem sorted_rise {xs ys : List Label} (h : SortedL xs ys) : ys.Pairwise KLt := by
  obtain ⟨d, _, h2, rfl⟩ := h
  exact List.pairwise_map.2 (dd_rise h2)

theorem sorted_val {xs ys : List Label} (h : SortedL xs ys) : ∀ x ∈ ys, getL x.key xs = (x.val, true) := by
  obtain ⟨d, h1, h2, rfl⟩ := h
  intro x hx
  obtain ⟨u, hu, rfl⟩ := List.mem_map.1 hx
  obtain ⟨j1, j2⟩ := dd_first h2 u hu
  exact getL_min xs 0 u (h1.mem_iff.1 j1) fun z hz hk => j2 z (h1.mem_iff.2 hz) hk

theorem mem_zip : ∀ (xs : List Label) (k : Nat) (x : Label), x ∈ xs → ∃ i, (x, i) ∈ xs.zipIdx k
  | [], _, _, h => by cases h
  | y :: xs, k, x, h => by
    rw [List.zipIdx_cons]
    rcases List.mem_cons.1 h with rfl | h
    · exact ⟨k, by simp⟩
    · obtain ⟨i, hi⟩ := mem_zip xs (k + 1) x h
      exact ⟨i, List.mem_cons_of_mem _ hi⟩

theorem sorted_all {xs ys : List Label} (h : SortedL xs ys) (k : ByteArray) (hk : (getL k xs).2 = true) : ∃ x ∈ ys, x.key.toList = k.toList := by
  obtain ⟨d, h1, h2, rfl⟩ := h
  obtain ⟨x, hx, hxk, _⟩ := getL_mem k xs hk
  obtain ⟨i, hi⟩ := mem_zip xs 0 x hx
  obtain ⟨u, hu, huk⟩ := dd_all d (x, i) (h1.mem_iff.2 hi)
  exact ⟨u.1, List.mem_map.2 ⟨u, hu, rfl⟩, huk.trans hxk⟩

theorem rise_eq : ∀ (l m : List Label), l.Pairwise KLt → m.Pairwise KLt → (∀ x, x ∈ l ↔ x ∈ m) → l = m
  | [], [], _, _, _ => rfl
  | [], y :: m, _, _, h => by have := (h y).2 (by simp); cases this
  | x :: l, [], _, _, h => by have := (h x).1 (by simp); cases this
  | x :: l, y :: m, hl, hm, h => by
    obtain ⟨l1, l2⟩ := List.pairwise_cons.1 hl
    obtain ⟨m1, m2⟩ := List.pairwise_cons.1 hm
    have asym : ∀ u v : Label, KLt u v → KLt v u → False := fun u v h1 h2 => by
      have := less_asym h1
      rw [show Op.bytesLess v.key.toList u.key.toList = true from h2] at this
      cases this
    have hxy : x = y := by
      rcases List.mem_cons.1 ((h x).1 (by simp)) with e | e
      · exact e
      · rcases List.mem_cons.1 ((h y).2 (by simp)) with e2 | e2
        · exact e2.symm
        · exact (asym _ _ (l1 y e2) (m1 x e)).elim
    subst hxy
    congr 1
    refine rise_eq l m l2 m2 fun z => ⟨fun hz => ?_, fun hz => ?_⟩
    · rcases List.mem_cons.1 ((h z).1 (List.mem_cons_of_mem _ hz)) with rfl | e
      · exact (asym _ _ (l1 z hz) (l1 z hz)).elim
      · exact e
    · rcases List.mem_cons.1 ((h z).2 (List.mem_cons_of_mem _ hz)) with rfl | e
      · exact (asym _ _ (m1 z hz) (m1 z hz)).elim
      · exact e

/-- Two sorted lists of the same values are the same. -/
theorem sorted_same {xs xs' ys ys' : List Label} (h : SortedL xs ys) (h' : SortedL xs' ys') (hg : ∀ k, getL k xs = getL k xs') : ys = ys' := by
  have key : ∀ (xs xs' ys ys' : List Label), SortedL xs ys → SortedL xs' ys' → (∀ k, getL k xs = getL k xs') → ∀ x ∈ ys, x ∈ ys' := fun xs xs' ys ys' h h' hg x hx => by
    have v := sorted_val h x hx
    obtain ⟨y, hy, hk⟩ := sorted_all h' x.key (by rw [← hg, v])
    have v' := sorted_val h' y hy
    rw [getL_congr hk, ← hg, v] at v'
    have e1 : y.key = x.key := toList_injL.1 hk
    have e2 : x.val = y.val := (Prod.mk.inj v').1
    obtain ⟨xk, xv⟩ := x
    obtain ⟨yk, yv⟩ := y
    dsimp only at e1 e2
    subst e1 e2
    exact hy
  exact rise_eq ys ys' (sorted_rise h) (sorted_rise h') fun x => ⟨key xs xs' ys ys' h h' hg x, key xs' xs ys' ys h' h (fun k => (hg k).symm) x⟩

/-- Sorted ones say of a key what the list says. -/
theorem sorted_get {xs ys : List Label} (h : SortedL xs ys) (k : ByteArray) : getL k ys = getL k xs := by
  by_cases h1 : (getL k xs).2 = true
  · obtain ⟨y, hy, hk⟩ := sorted_all h k h1
    have h2 := getL_in k ys y hy hk
    obtain ⟨z, hz, hzk, hzv⟩ := getL_mem k ys h2
    have v := sorted_val h z hz
    rw [getL_congr hzk] at v
    rw [v]
    exact Prod.ext hzv h2
  · have h2 : ¬ (getL k ys).2 = true := fun h2 => by
      obtain ⟨z, hz, hzk, hzv⟩ := getL_mem k ys h2
      have v := sorted_val h z hz
      rw [getL_congr hzk] at v
      rw [v] at h1
      exact h1 rfl
    have no : ∀ l : List Label, ¬ (getL k l).2 = true → getL k l = (⟨#[]⟩, false) := fun l => by
      induction l with
      | nil => intro _; rfl
      | cons x l ih =>
        intro hh
        by_cases hx : (x.key.toList == k.toList) = true
        · simp [getL, hx] at hh
        · simp only [getL, if_neg hx] at hh ⊢
          exact ih hh
    rw [no _ h1, no _ h2]

/-- Put together with the second ones again they are the same. -/
theorem merge_again {a b m m' : List Label} (h : SortedL (b ++ a) m) (h' : SortedL (b ++ m) m') : m' = m := by
  refine sorted_same h' h fun k => ?_
  rw [getL_append, getL_append, sorted_get h, getL_append]
  split <;> rfl

/-- What the law asks of each one. -/
theorem merge_one {a b m : List Label} (h : SortedL (b ++ a) m) {x : Label} (hx : x ∈ m) : ((getL x.key b).2 = true ∧ (getL x.key b).1 = x.val) ∨ ((getL x.key b).2 = false ∧ (getL x.key a).2 = true ∧ (getL x.key a).1 = x.val) := by
  have v := sorted_val h x hx
  rw [getL_append] at v
  cases hb : (getL x.key b).2
  · rw [hb] at v
    simp only [Bool.false_eq_true, if_false] at v
    exact .inr ⟨rfl, by rw [v], by rw [v]⟩
  · rw [if_pos hb] at v
    exact .inl ⟨rfl, by rw [v]⟩
end Go.Proofs.Ytdgjghflaaaflaa
