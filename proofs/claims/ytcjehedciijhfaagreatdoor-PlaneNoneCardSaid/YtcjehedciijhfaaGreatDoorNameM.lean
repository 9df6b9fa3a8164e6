/- The executor at this program: its switches, and chapters' examples. No condition but the tables. || Plain lemmas on lists, for the walks. No condition. || Labels and asks as values. No condition. || The contract of label's sign. No condition. -/
import Derived.Test.YtcjehedciijhfaaGreatDoorTabsM
import Derived.Test.YtcjehedciijhfaaGreatDoorE39
import Derived.Test.YtcjehedciijhfaaGreatDoorBase
import Derived.Test.YtcjehedciijhfaaGreatDoorRows
namespace Go.Proofs.YtcjehedciijhfaaGreatDoor.E
open Go.ChangeShapes Go.WideShapes Go.ChangeAt Go.RowKit Go.Deep

theorem mixedP : Tryz.prog.follows .mixedOrders = true := by kernel_rfl
def cpX (f : Nat) : Bool := Nat.beq f 86
theorem cpX_ok : ∀ f, cpX f = true → ∃ fn, Tryz.prog.funcs[f]? = some fn ∧ (fn.name == "runtime.NumGoroutine") = false ∧ fn.body.isNone = true ∧ Extern.findNext fn = none ∧ Extern.find fn = some Extern.MapsClone.clone := by
  intro f h
  have h := Nat.eq_of_beq_eq_true h
  subst h
  exact ⟨_, Tryz.func86, by kernel_rfl, by kernel_rfl, by kernel_rfl, by kernel_rfl⟩
theorem tabs_in : ∀ x ∈ tabs, x.g < nG := by
  intro x hx
  simp only [tabs, List.mem_cons, List.not_mem_nil, or_false] at hx
  subst hx
  decide
/-- A chapter's example, its answer known. -/
def oneS (g : Nat) (f : Nat) : Option V :=
  match Nat.beq f g with
  | true => some (.bool true)
  | false => none
theorem oneS_ok {g : Nat} (h : ∀ w : World, Laid w nG tabs → Calls Tryz.prog g #[] w fun e w' => e = .returned (.bool true) ∧ Below w.heap.size w w') :
    ∀ f v, oneS g f = some v → ∀ w : World, Laid w nG tabs → Calls Tryz.prog f #[] w fun e w' => ∃ y, e = .returned y ∧ (∀ ι : I, VR ι v y) ∧ Below w.heap.size w w' := by
  intro f v hs w hL
  unfold oneS at hs
  split at hs
  · rename_i hf
    cases hs
    have hf := Nat.eq_of_beq_eq_true hf
    subst hf
    exact (h w hL).mono fun e w' ⟨h1, h2⟩ => ⟨_, h1, fun ι => by simp only [VR], h2⟩
  · cases hs
theorem okP (A : BinOp → V → V → Option V) (L : Bool → V → Option V) (I' : Nat → Bool) (N : Nat → List V → Option V) : (Cf.of Tryz.prog nG A L I' N noS cpX tabs).Ok Tryz.prog :=
  Cf.of_ok _ _ A L I' N noS cpX tabs mixedP tabs_in cpX_ok (fun _ _ h => by cases h)
theorem okS {S : Nat → Option V} (A : BinOp → V → V → Option V) (L : Bool → V → Option V) (I' : Nat → Bool) (N : Nat → List V → Option V)
    (hs : ∀ f v, S f = some v → ∀ w : World, Laid w nG tabs → Calls Tryz.prog f #[] w fun e w' => ∃ y, e = .returned y ∧ (∀ ι : I, VR ι v y) ∧ Below w.heap.size w w') : (Cf.of Tryz.prog nG A L I' N S cpX tabs).Ok Tryz.prog :=
  Cf.of_ok _ _ A L I' N S cpX tabs mixedP tabs_in cpX_ok hs
/-- A call without arguments that the executor has gone through. -/
theorem lives_of {n g : Nat} {I' : Nat → Bool} (h : says drK Tryz.prog n g nG noA noL I' noN noS cpX tabs [] true = true) : ∀ w : World, Laid w nG tabs → Calls Tryz.prog g #[] w fun e w' => e = .returned (.bool true) ∧ Below w.heap.size w w' := fun _ hL =>
  says_sound h (okP _ _ _ _) rfl rfl hL (fun _ => .bool true) (atoms_none _ _ _ _ _ _ _ _ fun _ => rfl) (VRs.nil_iff.2 rfl)
end Go.Proofs.YtcjehedciijhfaaGreatDoor.E
namespace Go.Proofs.YtcjehedciijhfaaGreatDoor
/-- The place of the first element that meets p; none: -1. -/
def idxOf {α : Type} (p : α → Bool) : List α → Nat → Int
  | [], _ => -1
  | x :: xs, k => if p x then k else idxOf p xs (k + 1)

theorem idxOf_drop {α : Type} (p : α → Bool) {xs : List α} {k : Nat} (h : k < xs.length) : idxOf p (xs.drop k) k = if p xs[k] then (k : Int) else idxOf p (xs.drop (k + 1)) (k + 1) := by
  rw [List.drop_eq_getElem_cons h, idxOf]

theorem idxOf_end {α : Type} (p : α → Bool) {xs : List α} {k : Nat} (h : xs.length ≤ k) : idxOf p (xs.drop k) k = -1 := by
  rw [List.drop_eq_nil_of_le h, idxOf]


theorem flatMap_len {α : Type} {f : α → List Value} {sz : Nat} (hf : ∀ x, (f x).length = sz) : ∀ (xs : List α), (xs.flatMap f).length = xs.length * sz
  | [] => by simp
  | x :: xs => by rw [List.flatMap_cons, List.length_append, hf, flatMap_len hf xs, List.length_cons, Nat.add_mul]; omega

theorem flatMap_take {α : Type} {f : α → List Value} {sz : Nat} (hf : ∀ x, (f x).length = sz) : ∀ (xs : List α) (q : Nat) (rest : List Value), q ≤ xs.length → (xs.flatMap f ++ rest).take (q * sz) = (xs.take q).flatMap f
  | _, 0, _, _ => by simp
  | [], q + 1, _, h => by simp at h
  | x :: xs, q + 1, rest, h => by
    have e : (q + 1) * sz = (f x).length + q * sz := by rw [hf, Nat.add_mul]; omega
    rw [List.flatMap_cons, List.append_assoc, e, List.take_length_add_append, flatMap_take hf xs q rest (by simpa using h)]
    rfl

theorem flatMap_drop {α : Type} {f : α → List Value} {sz : Nat} (hf : ∀ x, (f x).length = sz) : ∀ (xs : List α) (q : Nat) (rest : List Value), q ≤ xs.length → (xs.flatMap f ++ rest).drop (q * sz) = (xs.drop q).flatMap f ++ rest
  | _, 0, _, _ => by simp
  | [], q + 1, _, h => by simp at h
  | x :: xs, q + 1, rest, h => by
    have e : (q + 1) * sz = (f x).length + q * sz := by rw [hf, Nat.add_mul]; omega
    rw [List.flatMap_cons, List.append_assoc, e, List.drop_length_add_append, flatMap_drop hf xs q rest (by simpa using h)]
    rfl

theorem flatMap_set {α : Type} {f : α → List Value} {sz : Nat} (hf : ∀ x, (f x).length = sz) (xs : List α) (q : Nat) (x : α) (rest : List Value) (h : q < xs.length) :
    (xs.flatMap f ++ rest).take (q * sz) ++ f x ++ (xs.flatMap f ++ rest).drop (q * sz + sz) = (xs.set q x).flatMap f ++ rest := by
  have e : q * sz + sz = (q + 1) * sz := by rw [Nat.add_mul]; omega
  rw [e, flatMap_take hf _ _ _ (by omega), flatMap_drop hf _ _ _ (by omega), List.set_eq_take_append_cons_drop, if_pos h]
  simp

theorem filter_take_succ {α : Type} (p : α → Bool) (xs : List α) (r : Nat) (h : r < xs.length) : (xs.take (r + 1)).filter p = (xs.take r).filter p ++ (if p xs[r] then [xs[r]] else []) := by
  rw [List.take_succ_eq_append_getElem h, List.filter_append]
  congr 1
  by_cases hp : p xs[r] = true <;> simp [hp]

theorem set_take {α : Type} (xs : List α) (q : Nat) (x : α) (h : q < xs.length) : (xs.set q x).take (q + 1) = xs.take q ++ [x] := by
  rw [List.take_succ_eq_append_getElem (by simpa using h), List.take_set, List.set_eq_of_length_le (by simp; omega)]
  simp

theorem set_drop {α : Type} (xs : List α) (q r : Nat) (x : α) (h : q < r) : (xs.set q x).drop r = xs.drop r := by
  rw [List.drop_set, if_pos h]

/-- What holds while the elements that stay are moved to the front: q have been kept of the first r. -/
def DelInv {α : Type} (np : α → Bool) (xs ys : List α) (q r : Nat) : Prop :=
  ys.length = xs.length ∧ q = ((xs.take r).filter np).length ∧ ys.take q = (xs.take r).filter np ∧ ys.drop r = xs.drop r

theorem drop_next {α : Type} {xs ys : List α} {r : Nat} (h : ys.drop r = xs.drop r) : ys.drop (r + 1) = xs.drop (r + 1) := by
  rw [← List.drop_drop, h, List.drop_drop]

theorem del_keep {α : Type} {np : α → Bool} {xs ys : List α} {q r : Nat} (h : DelInv np xs ys q r) (hr : r < xs.length) (hp : np xs[r] = true) (hq : q < r) : DelInv np xs (ys.set q xs[r]) (q + 1) (r + 1) := by
  obtain ⟨h1, h2, h3, h4⟩ := h
  refine ⟨by rw [List.length_set, h1], ?_, ?_, ?_⟩
  · rw [filter_take_succ _ _ _ hr, if_pos hp, List.length_append, ← h2]; rfl
  · rw [filter_take_succ _ _ _ hr, if_pos hp, set_take _ _ _ (by omega), h3]
  · rw [set_drop _ _ _ _ (by omega), drop_next h4]

theorem del_drop {α : Type} {np : α → Bool} {xs ys : List α} {q r : Nat} (h : DelInv np xs ys q r) (hr : r < xs.length) (hp : np xs[r] = false) : DelInv np xs ys q (r + 1) := by
  obtain ⟨h1, h2, h3, h4⟩ := h
  have e : (xs.take (r + 1)).filter np = (xs.take r).filter np := by
    rw [filter_take_succ _ _ _ hr, hp]
    simp
  exact ⟨h1, by rw [e]; exact h2, by rw [e]; exact h3, drop_next h4⟩

theorem del_end {α : Type} {np : α → Bool} {xs ys : List α} {q r : Nat} (h : DelInv np xs ys q r) (hr : xs.length ≤ r) : q = (xs.filter np).length ∧ ys.take q = xs.filter np := by
  obtain ⟨h1, h2, h3, h4⟩ := h
  rw [List.take_of_length_le hr] at h2 h3
  exact ⟨h2, h3⟩

/-- What idxOf says. -/
theorem idxOf_spec {α : Type} (p : α → Bool) : ∀ (xs : List α) (k : Nat),
    (idxOf p xs k = -1 ∧ ∀ x ∈ xs, p x = false) ∨
    ∃ j, ∃ h : j < xs.length, idxOf p xs k = ((k + j : Nat) : Int) ∧ p xs[j] = true ∧ ∀ x ∈ xs.take j, p x = false
  | [], _ => .inl ⟨rfl, by simp⟩
  | x :: xs, k => by
    by_cases h : p x = true
    · exact .inr ⟨0, by simp, by simp only [idxOf, if_pos h]; rfl, h, by simp⟩
    · simp only [idxOf, if_neg h]
      rcases idxOf_spec p xs (k + 1) with ⟨h1, h2⟩ | ⟨j, hj, h1, h2, h3⟩
      · exact .inl ⟨h1, by simpa [h] using h2⟩
      · exact .inr ⟨j + 1, by simp; omega, by rw [h1]; congr 1; omega, h2, by simpa [h] using h3⟩

end Go.Proofs.YtcjehedciijhfaaGreatDoor
namespace Go.Proofs.YtcjehedciijhfaaGreatDoor
open Go.ChangeShapes Go.WideShapes Go.ChangeAt Go.RowKit Go.Deep

structure Label where
  key : ByteArray
  val : ByteArray
deriving Inhabited

structure Require where
  key : ByteArray
  val : ByteArray
  op : Int
deriving Inhabited

def Label.cells (l : Label) : List Value := [.string l.key, .string l.val]
def Require.cells (r : Require) : List Value := [.string r.key, .string r.val, .int .i64 r.op]

theorem aggLabel : AggOK Tryz.prog 245 2 := .mk' (by kernel_rfl) (by kernel_rfl)
theorem aggRequire : AggOK Tryz.prog 248 3 := .mk' (by kernel_rfl) (by kernel_rfl)
end Go.Proofs.YtcjehedciijhfaaGreatDoor
namespace Go.Proofs.YtcjehedciijhfaaGreatDoor
open Go.ChangeShapes Go.WideShapes Go.ChangeAt Go.RowKit Go.Deep

def signOf (c : Int) : Bool := (decide (97 ≤ c) && decide (c ≤ 122)) || (decide (48 ≤ c) && decide (c ≤ 57)) || decide (c = 45)

theorem sign_any (c : Int) (w : World) : Calls Tryz.prog 80 #[.int .u8 c] w fun e w' => e = .returned (.bool (signOf c)) ∧ w' = w := by
  go_enter Tryz.func80, Tryz.ntmps80
  go_wp2
  all_goals
    go_ret
    exact ⟨ret_bool (by unfold signOf; rw [Bool.eq_iff_iff]; simp; omega), rfl⟩
end Go.Proofs.YtcjehedciijhfaaGreatDoor
