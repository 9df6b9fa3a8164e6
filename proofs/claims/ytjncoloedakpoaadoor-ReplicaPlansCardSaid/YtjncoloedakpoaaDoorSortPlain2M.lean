/- The contract of the rotation at any elements. Condition: the row lies in a block of its own. || Plain laws of a binary search and of a shift by exchanges, for the symmetric merge. No condition. -/
import Derived.Test.YtjncoloedakpoaaDoorStOb4M
import Derived.Test.YtjncoloedakpoaaDoorSortPlain
namespace Go.Proofs.YtjncoloedakpoaaDoor
open Go.ChangeShapes Go.WideShapes Go.ChangeAt Go.RowKit Go.Deep

set_option maxRecDepth 100000 in
set_option maxHeartbeats 600000 in
theorem rotate_Ob (P U V S : List TOb) (rest : List Value) (gb n cap a m b : Nat) (w : World) (hR : SRowK tOb 44 w w gb rest (P ++ U ++ V ++ S)) (hn : (P ++ U ++ V ++ S).length = n) (hcm : n < 4611686018427387904)
    (ha : P.length = a) (hm : a + U.length = m) (hb : m + V.length = b) (hU : 0 < U.length) (hV : 0 < V.length) :
    Calls Tryd.prog 76 #[.slice (some ⟨gb, 0, none⟩) n cap, .int .i64 a, .int .i64 m, .int .i64 b, .func (.func 49) #[] #[]] w fun e w' => e = .returned (.tuple #[]) ∧ SRowK tOb 44 w w' gb rest (P ++ V ++ U ++ S) := by
  have hbn : b ≤ n := by simp at hn; omega
  have HR := Lib.hid hR
  have HN := Lib.hid hn
  obtain ⟨W, hW⟩ : ∃ W, W = P ++ V ++ U ++ S := ⟨_, rfl⟩
  have HWl : Hid (W.length = n) := by show _ = _; rw [hW]; simp at hn ⊢; omega
  have HI0 : Hid (RotInv m W (P ++ U ++ V ++ S) (m - a) (b - m)) := ⟨P, U, V, S, rfl, by omega, by omega, by omega, by omega, by omega, hW⟩
  rw [← hW]
  have e1 : wrap64 ((m : Int) - (a : Int)) = ((m - a : Nat) : Int) := by rw [show (m : Int) - (a : Int) = ((m - a : Nat) : Int) by omega]; exact IntWalk.wrap64_in _ (by omega)
  have e2 : wrap64 ((b : Int) - (m : Int)) = ((b - m : Nat) : Int) := by rw [show (b : Int) - (m : Int) = ((b - m : Nat) : Int) by omega]; exact IntWalk.wrap64_in _ (by omega)
  have e3 : (m : Int) - (a : Int) = ((m - a : Nat) : Int) := by omega
  have e4 : (b : Int) - (m : Int) = ((b - m : Nat) : Int) := by omega
  have hmn : m ≤ n := by omega
  obtain ⟨i0, hi0⟩ : ∃ k, m - a = k := ⟨_, rfl⟩
  obtain ⟨j0, hj0⟩ : ∃ k, b - m = k := ⟨_, rfl⟩
  rw [hi0] at HI0 e1 e3
  rw [hj0] at HI0 e2 e4
  have hij : i0 ≤ m ∧ m + j0 ≤ n := by omega
  clear hR hn hW ha hm hb hU hV hi0 hj0
  go_enter Tryd.func76, Tryd.ntmps76
  go_wp2_with fail
  go_loopw [10, 11] (fun vi vj wr => ∃ (i j : Nat) (d : List TOb), vi = .int .i64 i ∧ vj = .int .i64 j ∧ i ≤ m ∧ m + j ≤ n ∧ 0 < i ∧ 0 < j ∧ Hid (SRowK tOb 44 w wr gb rest d) ∧ Hid (RotInv m W d i j) ∧ Hid (d.length = n)) (fun vi vj _ => (intOf vi).toNat + (intOf vj).toNat)
  case atStart =>
    obtain ⟨_, _, _, _, _, _, _, _, h1, h2, _⟩ := HI0.out
    exact ⟨i0, j0, _, rfl, rfl, hij.1, hij.2, h1, h2, HR.out, HI0.out, HN.out⟩
  case round =>
    obtain ⟨i, j, d, rfl, rfl, him, hjn, hi1, hj1, hS, hI, hl⟩ := hrel
    obtain ⟨wp, rfl⟩ : ∃ wp : World, wp = wr := ⟨_, rfl⟩
    obtain ⟨mi, hmi⟩ : ∃ k, m - i = k := ⟨_, rfl⟩
    have w1 : wrap64 ((m : Int) - (i : Int)) = (mi : Int) := by rw [show (m : Int) - (i : Int) = (mi : Int) by omega]; exact IntWalk.wrap64_in _ (by omega)
    have w2 : (m : Int) - (i : Int) = (mi : Int) := by omega
    rcases Nat.lt_trichotomy i j with hij | hij | hij
    · obtain ⟨P', X, Y, Z, S', hd, hX, hZ, hP, hXY, hI2⟩ := rot_up hI.out hij
      subst hd
      have HC := Lib.hid (swapRange_Ob P' X Y Z S' rest gb n cap mi (m + j - i) i wp hS.out.self hl.out hcm (by omega) (by omega) hX hZ)
      obtain ⟨mj, hmj⟩ : ∃ k, m + j - i = k := ⟨_, rfl⟩
      obtain ⟨ji, hji⟩ : ∃ k, j - i = k := ⟨_, rfl⟩
      rw [hmj] at HC
      rw [hji] at hI2
      have w3 : (m : Int) + (j : Int) - (i : Int) = (mj : Int) := by omega
      have w5 : (j : Int) - (i : Int) = (ji : Int) := by omega
      have w6 : wrap64 ((j : Int) - (i : Int)) = (ji : Int) := by rw [w5]; exact IntWalk.wrap64_in _ (by omega)
      have hne : ((i : Int) == (j : Int)) = false := by rw [beq_eq_false_iff_ne]; omega
      have hne2 : (i != j) = true := by simp [bne]; omega
      have hnl : ¬ j < i := by omega
      have HI2 := Lib.hid hI2
      have Hl2 : Hid ((P' ++ Z ++ Y ++ X ++ S').length = n) := by have := hl.out; show _ = _; simp at this ⊢; omega
      have hS' := hS
      have Hji : Hid (ji = j - i) := hji.symm
      clear hI2 hX hZ hP hXY hmi hmj hji hl
      go_wp2_with fail
      refine HC.out.mono ?_
      rintro e w5 ⟨rfl, hS5⟩
      have HS5 := Lib.hid (hS'.out.trans hS5)
      clear hS5
      go_wp2_with fail
      go_roundw
      case rel => exact ⟨i, ji, _, rfl, rfl, him, by have := Hji.out; omega, hi1, by have := Hji.out; omega, HS5.out, HI2.out, Hl2.out⟩
      case measure => have := Hji.out; simp [intOf]; omega
    · subst hij
      obtain ⟨P', X, Z, S', hd, hX, hZ, hP, hXY, hWe⟩ := rot_last hI.out
      subst hd
      have HC := Lib.hid (swapRange_Ob P' X [] Z S' rest gb n cap mi m i wp hS.out.self hl.out hcm (by omega) hXY hX hZ)
      rw [← hWe] at HC
      have hS' := hS
      clear hX hZ hP hXY hWe hmi hl
      go_wp2_with fail
      refine HC.out.mono ?_
      rintro e w5 ⟨rfl, hS5⟩
      have HS5 := Lib.hid (hS'.out.trans hS5)
      clear hS5
      go_wp2_with fail
      refine bodyPost_end (v := .tuple #[]) (by simp [results, Tryd.results76, go_sem]) rfl ?_
      exact ⟨rfl, HS5.out⟩
    · obtain ⟨P', X, Y, Z, S', hd, hX, hZ, hP, hXY, hI2⟩ := rot_down hI.out hij
      subst hd
      have HC := Lib.hid (swapRange_Ob P' X Y Z S' rest gb n cap mi m j wp hS.out.self hl.out hcm (by omega) hXY hX hZ)
      obtain ⟨ij, hij2⟩ : ∃ k, i - j = k := ⟨_, rfl⟩
      rw [hij2] at hI2
      have w5 : (i : Int) - (j : Int) = (ij : Int) := by omega
      have w6 : wrap64 ((i : Int) - (j : Int)) = (ij : Int) := by rw [w5]; exact IntWalk.wrap64_in _ (by omega)
      have hne : ((i : Int) == (j : Int)) = false := by rw [beq_eq_false_iff_ne]; omega
      have hne2 : (i != j) = true := by simp [bne]; omega
      have HI2 := Lib.hid hI2
      have Hl2 : Hid ((P' ++ Z ++ Y ++ X ++ S').length = n) := by have := hl.out; show _ = _; simp at this ⊢; omega
      have hS' := hS
      have Hji : Hid (ij = i - j) := hij2.symm
      clear hI2 hX hZ hP hXY hmi hij2 hl
      go_wp2_with fail
      refine HC.out.mono ?_
      rintro e w5 ⟨rfl, hS5⟩
      have HS5 := Lib.hid (hS'.out.trans hS5)
      clear hS5
      go_wp2_with fail
      go_roundw
      case rel => exact ⟨ij, j, _, rfl, rfl, by have := Hji.out; omega, hjn, by have := Hji.out; omega, hj1, HS5.out, HI2.out, Hl2.out⟩
      case measure => have := Hji.out; simp [intOf]; omega
end Go.Proofs.YtjncoloedakpoaaDoor
namespace Go.Proofs.YtjncoloedakpoaaDoor
variable {α : Type} {cf : α → α → Int} {tag : α → Nat} {T : α → α → Prop}

def Shf (P X : List α) (x : α) (Q : List α) (t : Nat) : List α := P ++ (X.take t ++ x :: X.drop t) ++ Q

theorem shf_len (P X : List α) (x : α) (Q : List α) (t : Nat) : (Shf P X x Q t).length = P.length + X.length + 1 + Q.length := by
  simp only [Shf, List.length_append, List.length_cons, List.length_take, List.length_drop]
  omega

theorem shf_split {P X : List α} {x : α} {Q : List α} {t : Nat} (ht : t < X.length) :
    Shf P X x Q t = (P ++ X.take t) ++ x :: X[t] :: (X.drop (t + 1) ++ Q) ∧ Shf P X x Q (t + 1) = (P ++ X.take t) ++ X[t] :: x :: (X.drop (t + 1) ++ Q) := by
  constructor
  · have e : X.drop t = X[t] :: X.drop (t + 1) := List.drop_eq_getElem_cons ht
    unfold Shf
    rw [e]
    simp only [List.append_assoc, List.cons_append]
  · have e : X.take (t + 1) = X.take t ++ [X[t]] := List.take_succ_eq_append_getElem ht
    unfold Shf
    rw [e]
    simp only [List.append_assoc, List.cons_append, List.nil_append]

theorem two_at (A : List α) (x y : α) (B : List α) {k : Nat} (hk : A.length = k) : (A ++ x :: y :: B)[k]? = some x ∧ (A ++ x :: y :: B)[k + 1]? = some y ∧ ((A ++ x :: y :: B).set k y).set (k + 1) x = A ++ y :: x :: B ∧ ((A ++ x :: y :: B).set (k + 1) x).set k y = A ++ y :: x :: B := by
  subst hk
  refine ⟨by simp, ?_, ?_, ?_⟩
  · rw [List.getElem?_append_right (by omega)]
    simp
  · rw [set_mid A x y (y :: B) rfl, show A ++ y :: y :: B = (A ++ [y]) ++ y :: B by simp, set_mid (A ++ [y]) y x B (by simp)]
    simp
  · rw [show A ++ x :: y :: B = (A ++ [x]) ++ y :: B by simp, set_mid (A ++ [x]) y x B (by simp), show (A ++ [x]) ++ x :: B = A ++ x :: x :: B by simp, set_mid A x y (x :: B) rfl]

theorem shf_up {P X : List α} {x : α} {Q : List α} {t k : Nat} (ht : t < X.length) (hk : P.length + t = k) :
    (Shf P X x Q t)[k]? = some x ∧ (Shf P X x Q t)[k + 1]? = some X[t] ∧ ((Shf P X x Q t).set k X[t]).set (k + 1) x = Shf P X x Q (t + 1) := by
  obtain ⟨e1, e2⟩ := shf_split (P := P) (x := x) (Q := Q) ht
  have h := two_at (P ++ X.take t) x X[t] (X.drop (t + 1) ++ Q) (k := k) (by simp; omega)
  rw [e1, e2]
  exact ⟨h.1, h.2.1, h.2.2.1⟩

theorem shf_down {P X : List α} {x : α} {Q : List α} {t k : Nat} (ht : t < X.length) (hk : P.length + t = k) :
    (Shf P X x Q (t + 1))[k + 1]? = some x ∧ (Shf P X x Q (t + 1))[k]? = some X[t] ∧ ((Shf P X x Q (t + 1)).set (k + 1) X[t]).set k x = Shf P X x Q t := by
  obtain ⟨e1, e2⟩ := shf_split (P := P) (x := x) (Q := Q) ht
  have h := two_at (P ++ X.take t) X[t] x (X.drop (t + 1) ++ Q) (k := k) (by simp; omega)
  rw [e1, e2]
  exact ⟨h.2.1, h.1, h.2.2.2⟩

def Sch (yes : α → Prop) (X : List α) (p q : Nat) : Prop := p ≤ q ∧ q ≤ X.length ∧ (∀ y, (X.take p).getLast? = some y → yes y) ∧ (∀ y, (X.drop q).head? = some y → ¬ yes y)

theorem sch_start (yes : α → Prop) (X : List α) : Sch yes X 0 X.length := ⟨Nat.zero_le _, Nat.le_refl _, by simp, by simp⟩

theorem sch_yes {yes : α → Prop} {X : List α} {p q s : Nat} (h : Sch yes X p q) (hq : s < q) (hs : s < X.length) (hy : yes X[s]) : Sch yes X (s + 1) q := by
  refine ⟨hq, h.2.1, fun y hy' => ?_, h.2.2.2⟩
  rw [List.take_succ_eq_append_getElem hs, List.getLast?_concat] at hy'
  rw [← Option.some.inj hy']
  exact hy

theorem sch_no {yes : α → Prop} {X : List α} {p q s : Nat} (h : Sch yes X p q) (hp : p ≤ s) (hs : s < X.length) (hn : ¬ yes X[s]) : Sch yes X p s := by
  refine ⟨hp, by omega, h.2.2.1, fun y hy' => ?_⟩
  rw [List.drop_eq_getElem_cons hs, List.head?_cons] at hy'
  rw [← Option.some.inj hy']
  exact hn

def Sym (cf : α → α → Int) (d : List α) (a m b mid s r : Nat) : Prop :=
  (if mid < m then mid + m - b else a) ≤ s ∧ s ≤ r ∧ r ≤ (if mid < m then mid else m) ∧
  (s = (if mid < m then mid + m - b else a) ∨ ∀ x y, d[mid + m - s]? = some y → d[s - 1]? = some x → ¬ cf y x < 0) ∧
  (r = (if mid < m then mid else m) ∨ ∀ x y, d[mid + m - 1 - r]? = some y → d[r]? = some x → cf y x < 0)

theorem sym_no {d : List α} {a m b mid s r c pc : Nat} (h : Sym cf d a m b mid s r) (h1 : s ≤ c) (h2 : c < r) (hpc : mid + m - (c + 1) = pc) {x y : α} (hx : d[c]? = some x) (hy : d[pc]? = some y) (hn : ¬ cf y x < 0) : Sym cf d a m b mid (c + 1) r := by
  refine ⟨Nat.le_trans h.1 (by omega), by omega, h.2.2.1, .inr fun x' y' hy' hx' => ?_, h.2.2.2.2⟩
  rw [hpc, hy] at hy'
  rw [Nat.add_sub_cancel, hx] at hx'
  rw [← Option.some.inj hy', ← Option.some.inj hx']
  exact hn

theorem sym_yes {d : List α} {a m b mid s r c pc : Nat} (h : Sym cf d a m b mid s r) (h1 : s ≤ c) (h2 : c < r) (hpc : mid + m - 1 - c = pc) {x y : α} (hx : d[c]? = some x) (hy : d[pc]? = some y) (hn : cf y x < 0) : Sym cf d a m b mid s c := by
  refine ⟨h.1, h1, Nat.le_trans (Nat.le_of_lt h2) h.2.2.1, h.2.2.2.1, .inr fun x' y' hy' hx' => ?_⟩
  rw [hpc, hy] at hy'
  rw [hx] at hx'
  rw [← Option.some.inj hy', ← Option.some.inj hx']
  exact hn
end Go.Proofs.YtjncoloedakpoaaDoor
