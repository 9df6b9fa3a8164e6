/- The plain law of IdleTimers: what a row of looks comes to. No condition. -/
import Derived.Test.YtlokeeejemndfaaIdle3
import Derived.Sort.Walk0
namespace Go.Proofs.Ytlokeeejemndfaa
open Go.ChangeShapes Go.WideShapes Go.ChangeAt Go.RowKit Go.Deep Go.Maps Go.Sort

/-- A look: when, and its names' slice. -/
structure LK where
  at0 : Int
  ao : Option Addr
  ln : Nat
  cap : Nat
  names : List SStr
instance : Inhabited LK := ⟨⟨0, none, 0, 0, []⟩⟩
def LK.cells (x : LK) : List Value := [.int .i64 x.at0, .slice x.ao x.ln x.cap]
def LK.keys (x : LK) : List (List UInt8) := x.names.map SStr.key

/-- Since when a name was not needed at all looks up to the last one; the last look is the list's head. -/
def sinceR : List LK → List UInt8 → Option Int
  | [], _ => none
  | l :: r, s => if s ∈ l.keys then some ((sinceR r s).getD l.at0) else none

theorem sinceR_cons (l : LK) (r : List LK) (s : List UInt8) : sinceR (l :: r) s = if s ∈ l.keys then some ((sinceR r s).getD l.at0) else none := rfl

def tmOf : List LK → Tm
  | [] => Tm.zero
  | l :: r => ⟨sinceR (l :: r), l.at0, true⟩

theorem tmOf_next (L : List LK) (x : LK) : (tmOf L).next x.at0 x.names = tmOf (x :: L) := by
  cases L with
  | nil => rfl
  | cons l r => rfl

theorem tmOf_f (L : List LK) : (tmOf L).f = sinceR L := by cases L <;> rfl

theorem sinceR_bd {L : List LK} {a b : Int} (h : ∀ l ∈ L, a ≤ l.at0 ∧ l.at0 ≤ b) : ∀ s v, sinceR L s = some v → a ≤ v ∧ v ≤ b := by
  induction L with
  | nil => intro s v hv; cases hv
  | cons l r ih =>
    intro s v hv
    unfold sinceR at hv
    split at hv
    · obtain rfl := Option.some.inj hv
      cases hq : sinceR r s with
      | none => exact h l (List.mem_cons_self ..)
      | some u => exact ih (fun x hx => h x (List.mem_cons_of_mem _ hx)) s u hq
    · cases hv

/-- One look back. -/
theorem sinceR_back (C : List LK) {j : Nat} (hj : j < C.length) (s : List UInt8) (f : Int) :
    (s ∈ C[j].keys → (sinceR (C.take (j + 1)).reverse s).getD f = (sinceR (C.take j).reverse s).getD C[j].at0) ∧ (¬ s ∈ C[j].keys → (sinceR (C.take (j + 1)).reverse s).getD f = f) := by
  rw [List.take_succ_eq_append_getElem hj, List.reverse_append, List.reverse_singleton, List.singleton_append]
  constructor
  · intro h; rw [sinceR_cons, if_pos h]; rfl
  · intro h; rw [sinceR_cons, if_neg h]; rfl

/-- The last look's names are those that run. -/
theorem sinceR_some {C : List LK} (h : C ≠ []) (s : List UInt8) : (sinceR C.reverse s).isSome = decide (s ∈ (C.getLast h).keys) := by
  have e : C = C.dropLast ++ [C.getLast h] := (List.dropLast_concat_getLast h).symm
  have e2 : C.reverse = C.getLast h :: C.dropLast.reverse := by
    conv => lhs; rw [e]
    rw [List.reverse_append, List.reverse_singleton, List.singleton_append]
  rw [e2]
  unfold sinceR
  by_cases q : s ∈ (C.getLast h).keys
  · rw [if_pos q, decide_eq_true q]; rfl
  · rw [if_neg q, decide_eq_false q]; rfl

theorem ripe_key (f : List UInt8 → Option Int) (now wait : Int) (x y : SStr) (h : x.key = y.key) : ripeB f now wait x = ripeB f now wait y := by
  unfold ripeB; rw [h]

theorem hasB_filter (p : SStr → Bool) (hp : ∀ x y : SStr, x.key = y.key → p x = p y) (xs : List SStr) (s : SStr) : hasB (xs.filter p) s = (hasB xs s && p s) := by
  unfold hasB
  by_cases h : s.key ∈ (xs.filter p).map SStr.key
  · obtain ⟨x, hx, he⟩ := List.mem_map.1 h
    have h2 := List.mem_filter.1 hx
    rw [decide_eq_true h, decide_eq_true (List.mem_map.2 ⟨x, h2.1, he⟩), ← hp x s he, h2.2]; rfl
  · rw [decide_eq_false h]
    by_cases h2 : s.key ∈ xs.map SStr.key
    · obtain ⟨x, hx, he⟩ := List.mem_map.1 h2
      have : p s = false := by
        cases hq : p s
        · rfl
        · exact absurd (List.mem_map.2 ⟨x, List.mem_filter.2 ⟨hx, by rw [hp x s he, hq]⟩, he⟩) h
      rw [this, Bool.and_false]
    · rw [decide_eq_false h2]; rfl

/-- How many are ripe of those that were seen. -/
def cntR (p : SStr → Bool) (xs : List SStr) (A : List (List UInt8)) : Nat := (xs.filter fun x => p x && decide (x.key ∈ A)).length

theorem cntR_nil (p : SStr → Bool) (xs : List SStr) : cntR p xs [] = 0 := by
  unfold cntR
  rw [List.length_eq_zero_iff, List.filter_eq_nil_iff]
  intro x _
  simp

theorem cntR_seen (p : SStr → Bool) (xs : List SStr) {A : List (List UInt8)} {s : List UInt8} (h : s ∈ A) : cntR p xs (A ++ [s]) = cntR p xs A := by
  unfold cntR
  congr 2
  funext x
  congr 1
  by_cases q : x.key ∈ A
  · rw [decide_eq_true q, decide_eq_true (List.mem_append_left _ q)]
  · rw [decide_eq_false q, decide_eq_false]
    intro hh
    rcases List.mem_append.1 hh with h1 | h1
    · exact q h1
    · rw [List.mem_singleton.1 h1] at q; exact q h

theorem cntR_none (p : SStr → Bool) (xs : List SStr) {A : List (List UInt8)} {s : List UInt8} (h : s ∉ xs.map SStr.key) : cntR p xs (A ++ [s]) = cntR p xs A := by
  unfold cntR
  congr 1
  refine List.filter_congr fun x hx => ?_
  congr 1
  have hne : x.key ≠ s := fun e => h (List.mem_map.2 ⟨x, hx, e⟩)
  by_cases q : x.key ∈ A
  · rw [decide_eq_true q, decide_eq_true (List.mem_append_left _ q)]
  · rw [decide_eq_false q, decide_eq_false]
    intro hh
    rcases List.mem_append.1 hh with h1 | h1
    · exact q h1
    · exact hne (List.mem_singleton.1 h1)

theorem cntR_new (p : SStr → Bool) (hp : ∀ x y : SStr, x.key = y.key → p x = p y) (s : SStr) (A : List (List UInt8)) (hA : s.key ∉ A) : ∀ (xs : List SStr), (xs.map SStr.key).Nodup → s.key ∈ xs.map SStr.key → cntR p xs (A ++ [s.key]) = cntR p xs A + if p s = true then 1 else 0
  | [], _, h => by cases h
  | x :: xs, hnd, h => by
    have h2 := List.nodup_cons.1 hnd
    have e : ∀ B, cntR p (x :: xs) B = (if p x && decide (x.key ∈ B) then 1 else 0) + cntR p xs B := fun B => by
      unfold cntR
      rw [List.filter_cons]
      split
      · rw [List.length_cons]; omega
      · omega
    rw [e, e]
    by_cases hx : x.key = s.key
    · have hr : cntR p xs (A ++ [s.key]) = cntR p xs A := cntR_none p xs (by rw [← hx]; exact h2.1)
      rw [hr, hx, decide_eq_false hA, decide_eq_true (show s.key ∈ A ++ [s.key] by simp), Bool.and_false, Bool.and_true, hp x s hx]
      simp only [Bool.false_eq_true, if_false]
      omega
    · have hm : s.key ∈ xs.map SStr.key := by
        rcases List.mem_cons.1 h with h1 | h1
        · exact absurd h1.symm hx
        · exact h1
      have ih := cntR_new p hp s A hA xs h2.2 hm
      have ed : decide (x.key ∈ A ++ [s.key]) = decide (x.key ∈ A) := by
        by_cases q : x.key ∈ A
        · rw [decide_eq_true q, decide_eq_true (List.mem_append_left _ q)]
        · rw [decide_eq_false q, decide_eq_false]
          intro hh
          rcases List.mem_append.1 hh with h1 | h1
          · exact q h1
          · exact hx (List.mem_singleton.1 h1)
      rw [ih, ed]
      omega

theorem cntR_all (p : SStr → Bool) (xs : List SStr) (A : List (List UInt8)) (h : ∀ x ∈ xs, x.key ∈ A) : cntR p xs A = (xs.filter p).length := by
  unfold cntR
  congr 1
  refine List.filter_congr fun x hx => ?_
  rw [decide_eq_true (h x hx), Bool.and_true]

theorem sk_nodup {g : List UInt8 → Bool} {ss : List (List UInt8)} (h : SortedKeys g ss) : ss.Nodup := h.1.imp fun hab => hab.2

/-- Two of a rising row. -/
theorem sk_less {g : List UInt8 → Bool} {xs : List SStr} (h : SortedKeys g (xs.map SStr.key)) (p : SStr → Bool) {i j : Nat} (hij : i < j) (hj : j < (xs.filter p).length) :
    Op.bytesLess ((xs.filter p)[i]'(by omega)).1.toList (xs.filter p)[j].1.toList = true := by
  have h1 : (xs.filter p).Pairwise fun x y => x.key ≤ y.key ∧ x.key ≠ y.key := (List.pairwise_map.1 h.1).filter p
  have h2 := List.pairwise_iff_getElem.1 h1 i j (by omega) hj hij
  rw [bytesLess_eq, Lib.toList_data, Lib.toList_data]
  exact decide_eq_true (Decidable.byContradiction fun h => h2.2 (List.le_antisymm h2.1 (List.not_lt.1 h)))

/-- Keys that were seen, as a map tells them. -/
def seenF (A : List (List UInt8)) : List UInt8 → Option Bool := fun s => if s ∈ A then some true else none
theorem seenF_nil : seenF [] = fun _ => none := by funext s; simp [seenF]
theorem seenF_snoc (A : List (List UInt8)) (s : List UInt8) : sset (seenF A) s true = seenF (A ++ [s]) := by
  funext x
  unfold sset seenF
  by_cases h : x = s
  · subst h; rw [if_pos rfl, if_pos (by simp)]
  · rw [if_neg h]
    congr 1
    simp [h]
theorem seenF_get (A : List (List UInt8)) (s : List UInt8) : (byStr Value.bool (seenF A) (.string s)).getD (.bool false) = .bool (decide (s ∈ A)) := by
  show ((seenF A s).map Value.bool).getD _ = _
  unfold seenF
  by_cases h : s ∈ A
  · rw [if_pos h, decide_eq_true h]; rfl
  · rw [if_neg h, decide_eq_false h]; rfl
end Go.Proofs.Ytlokeeejemndfaa
