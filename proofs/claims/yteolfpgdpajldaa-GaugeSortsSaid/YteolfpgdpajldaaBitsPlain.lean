/- Numbers as rows of bits, the lowest first: plain lemmas. No program. -/
import Derived.Test.YteolfpgdpajldaaBase
namespace Go.Proofs.Yteolfpgdpajldaa

theorem getD_in {l : List Nat} {k : Nat} (h : k < l.length) : l.getD k 0 = l[k] := by simp [List.getD, List.getElem?_eq_getElem h]
theorem getD_out {l : List Nat} {k : Nat} (h : l.length ≤ k) : l.getD k 0 = 0 := by simp [List.getD, List.getElem?_eq_none h]

def bval : List Nat → Nat
  | [] => 0
  | d :: l => d + 2 * bval l

def Bin (l : List Nat) : Prop := ∀ d ∈ l, d < 2

def bitsOf (n : Nat) : List Nat := if h : n = 0 then [] else n % 2 :: bitsOf (n / 2)
termination_by n
decreasing_by omega

theorem bitsOf_zero : bitsOf 0 = [] := by unfold bitsOf; simp
theorem bitsOf_pos {n : Nat} (h : 0 < n) : bitsOf n = n % 2 :: bitsOf (n / 2) := by
  rw [bitsOf, dif_neg (by omega)]

theorem bval_bitsOf (n : Nat) : bval (bitsOf n) = n := by
  induction n using Nat.strongRecOn with
  | _ n ih =>
    by_cases h : n = 0
    · subst h; rw [bitsOf_zero]; rfl
    · rw [bitsOf_pos (by omega), bval, ih (n / 2) (by omega)]; omega

theorem bin_bitsOf (n : Nat) : Bin (bitsOf n) := by
  induction n using Nat.strongRecOn with
  | _ n ih =>
    by_cases h : n = 0
    · subst h; rw [bitsOf_zero]; intro d hd; cases hd
    · rw [bitsOf_pos (by omega)]
      intro d hd
      rcases List.mem_cons.1 hd with rfl | hd
      · omega
      · exact ih (n / 2) (by omega) d hd

theorem Bin.cons {d : Nat} {l : List Nat} (h : Bin (d :: l)) : d < 2 ∧ Bin l := ⟨h d (by simp), fun x hx => h x (by simp [hx])⟩
theorem Bin.append {l m : List Nat} (h : Bin l) (k : Bin m) : Bin (l ++ m) := fun d hd => (List.mem_append.1 hd).elim (h d) (k d)
theorem Bin.one {d : Nat} (h : d < 2) : Bin [d] := fun x hx => by rw [List.mem_singleton.1 hx]; exact h
theorem Bin.take {l : List Nat} (h : Bin l) (k : Nat) : Bin (l.take k) := fun d hd => h d (List.mem_of_mem_take hd)
theorem Bin.drop {l : List Nat} (h : Bin l) (k : Nat) : Bin (l.drop k) := fun d hd => h d (List.mem_of_mem_drop hd)
theorem Bin.get {l : List Nat} (h : Bin l) (k : Nat) (hk : k < l.length) : l[k] < 2 := h _ (List.getElem_mem hk)
theorem Bin.getD {l : List Nat} (h : Bin l) (k : Nat) : l.getD k 0 < 2 := by
  by_cases hk : k < l.length
  · rw [getD_in hk]; exact h.get k hk
  · rw [getD_out (by omega)]; omega

theorem bval_append (l m : List Nat) : bval (l ++ m) = bval l + 2 ^ l.length * bval m := by
  induction l with
  | nil => simp [bval]
  | cons d l ih =>
    simp only [List.cons_append, bval, ih, List.length_cons, Nat.pow_succ]
    rw [Nat.mul_add, ← Nat.add_assoc, Nat.mul_comm (2 ^ l.length) 2, Nat.mul_assoc]

theorem bval_snoc (l : List Nat) (d : Nat) : bval (l ++ [d]) = bval l + 2 ^ l.length * d := by
  rw [bval_append]; simp [bval]

theorem bval_lt {l : List Nat} (h : Bin l) : bval l < 2 ^ l.length := by
  induction l with
  | nil => simp [bval]
  | cons d l ih =>
    have h1 := h.cons
    have := ih h1.2
    simp only [bval, List.length_cons, Nat.pow_succ]
    omega

theorem take_snocD {l : List Nat} {k : Nat} (h : k < l.length) : l.take (k + 1) = l.take k ++ [l.getD k 0] := by
  rw [List.take_succ_eq_append_getElem h, getD_in h]

/-- One digit more. -/
theorem bval_take_succ (l : List Nat) (k : Nat) : bval (l.take (k + 1)) = bval (l.take k) + 2 ^ k * l.getD k 0 := by
  by_cases h : k < l.length
  · rw [take_snocD h, bval_snoc, List.length_take, Nat.min_eq_left (by omega)]
  · rw [getD_out (by omega), List.take_of_length_le (by omega), List.take_of_length_le (by omega)]; simp

theorem bval_drop (l : List Nat) (k : Nat) : bval (l.drop k) = l.getD k 0 + 2 * bval (l.drop (k + 1)) := by
  by_cases h : k < l.length
  · rw [List.drop_eq_getElem_cons h, bval, getD_in h]
  · rw [getD_out (by omega), List.drop_eq_nil_of_le (by omega), List.drop_eq_nil_of_le (by omega)]; rfl

theorem bval_split (l : List Nat) (k : Nat) (hk : k ≤ l.length) : bval l = bval (l.take k) + 2 ^ k * bval (l.drop k) := by
  conv => lhs; rw [← List.take_append_drop k l, bval_append, List.length_take, Nat.min_eq_left hk]

/-- A row without noughts above is the number's own. -/
theorem bits_of_last {l : List Nat} (h : Bin l) (hl : ∀ d, l.getLast? = some d → d ≠ 0) : l = bitsOf (bval l) := by
  induction l with
  | nil => simp [bval, bitsOf_zero]
  | cons d l ih =>
    have h1 := h.cons
    cases l with
    | nil =>
      have hd : d ≠ 0 := hl d rfl
      have : d = 1 := by omega
      subst this
      simp [bval, bitsOf_pos, bitsOf_zero]
    | cons e r =>
      have ih' := ih h1.2 (fun x hx => hl x (by rw [List.getLast?_cons_cons]; exact hx))
      have hp : 0 < bval (e :: r) := by
        rcases Nat.eq_zero_or_pos (bval (e :: r)) with h0 | h0
        · rw [h0, bitsOf_zero] at ih'; cases ih'
        · exact h0
      rw [bitsOf_pos (by rw [bval]; omega)]
      have e1 : bval (d :: e :: r) = d + 2 * bval (e :: r) := rfl
      rw [e1]
      have e2 : (d + 2 * bval (e :: r)) % 2 = d := by omega
      have e3 : (d + 2 * bval (e :: r)) / 2 = bval (e :: r) := by omega
      rw [e2, e3, ← ih']

theorem bitsOf_last (n d : Nat) (h : (bitsOf n).getLast? = some d) : d ≠ 0 := by
  induction n using Nat.strongRecOn with
  | _ n ih =>
    by_cases h0 : n = 0
    · subst h0; rw [bitsOf_zero] at h; cases h
    · rw [bitsOf_pos (by omega)] at h
      by_cases h1 : n / 2 = 0
      · rw [h1, bitsOf_zero] at h
        simp at h
        omega
      · rw [bitsOf_pos (by omega : 0 < n / 2), List.getLast?_cons_cons, ← bitsOf_pos (by omega : 0 < n / 2)] at h
        exact ih (n / 2) (by omega) h

theorem bitsOf_length_le {n k : Nat} (h : n < 2 ^ k) : (bitsOf n).length ≤ k := by
  induction k generalizing n with
  | zero =>
    have : n = 0 := by simp at h; exact h
    subst this; rw [bitsOf_zero]; simp
  | succ k ih =>
    by_cases h0 : n = 0
    · subst h0; rw [bitsOf_zero]; simp
    · rw [bitsOf_pos (by omega), List.length_cons]
      have := ih (n := n / 2) (by rw [Nat.pow_succ] at h; omega)
      omega

theorem lt_of_bitsOf_length {n k : Nat} (h : (bitsOf n).length ≤ k) : n < 2 ^ k := by
  have h1 := bval_lt (bin_bitsOf n)
  rw [bval_bitsOf] at h1
  exact Nat.lt_of_lt_of_le h1 (Nat.pow_le_pow_right (by decide) h)

theorem bitsOf_two_pow (n : Nat) : bitsOf (2 ^ n) = List.replicate n 0 ++ [1] := by
  have hb : Bin (List.replicate n 0 ++ [1]) := by
    intro d hd
    rcases List.mem_append.1 hd with hd | hd
    · rw [(List.mem_replicate.1 hd).2]; omega
    · rw [List.mem_singleton.1 hd]; omega
  have h := bits_of_last hb (fun d hd => by simp at hd; omega)
  have hv : bval (List.replicate n 0 ++ [1]) = 2 ^ n := by
    rw [bval_snoc]
    have : ∀ m, bval (List.replicate m 0) = 0 := by
      intro m
      induction m with
      | zero => rfl
      | succ m ih => rw [List.replicate_succ, bval, ih]
    simp [this]
  rw [hv] at h
  exact h.symm

/-- The digit of a number at its top rows: what is compared. -/
theorem bval_top_lt {a b : List Nat} (ha : Bin a) (hb : Bin b) {k : Nat} (he : bval (a.drop (k + 1)) = bval (b.drop (k + 1))) (hd : a.getD k 0 < b.getD k 0) : bval a < bval b := by
  have key : ∀ l : List Nat, Bin l → ∃ r, r < 2 ^ k ∧ bval l = r + 2 ^ k * bval (l.drop k) := by
    intro l hl
    by_cases hk : k ≤ l.length
    · refine ⟨bval (l.take k), ?_, bval_split l k hk⟩
      have := bval_lt (hl.take k)
      rw [List.length_take, Nat.min_eq_left hk] at this
      exact this
    · refine ⟨bval l, ?_, ?_⟩
      · exact Nat.lt_of_lt_of_le (bval_lt hl) (Nat.pow_le_pow_right (by decide) (by omega))
      · rw [List.drop_eq_nil_of_le (by omega)]; simp [bval]
  obtain ⟨r, hr, h1⟩ := key a ha
  obtain ⟨s, _, h2⟩ := key b hb
  rw [h1, h2, bval_drop a k, bval_drop b k, he]
  have hle : a.getD k 0 + 2 * bval (b.drop (k + 1)) + 1 ≤ b.getD k 0 + 2 * bval (b.drop (k + 1)) := by omega
  have := Nat.mul_le_mul_left (2 ^ k) hle
  rw [Nat.mul_add, Nat.mul_one] at this
  omega

def cmpN (a b : Nat) : Int := if b < a then 1 else if a < b then -1 else 0
end Go.Proofs.Yteolfpgdpajldaa
