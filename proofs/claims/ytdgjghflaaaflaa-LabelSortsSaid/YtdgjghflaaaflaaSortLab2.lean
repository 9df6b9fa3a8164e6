/- The contracts of cmp.Compare at strings, of label.Sort's comparison, and of the insertion sort at labels. Condition: the row lies in a block of its own. -/
import Derived.Test.YtdgjghflaaaflaaSortLab
import Derived.Test.YtdgjghflaaaflaaRightPlain
import Derived.Deep.QuietTactic
namespace Go.Proofs.Ytdgjghflaaaflaa
open Go.ChangeShapes Go.WideShapes Go.ChangeAt Go.RowKit Go.Deep

def cfS (a b : ByteArray) : Int := if Op.bytesLess a.toList b.toList = true then -1 else if Op.bytesLess b.toList a.toList = true then 1 else 0

theorem less_asym {x y : List UInt8} (h : Op.bytesLess x y = true) : Op.bytesLess y x = false := by
  rw [bytesLess_eq, decide_eq_true_iff] at h
  rw [bytesLess_eq, decide_eq_false_iff_not]
  exact List.lt_asymm h

theorem less_irrefl (x : List UInt8) : Op.bytesLess x x = false := by
  rw [bytesLess_eq, decide_eq_false_iff_not]
  exact List.lt_irrefl x

theorem less_tri {x y : List UInt8} (h1 : Op.bytesLess x y = false) (h2 : Op.bytesLess y x = false) : x = y := by
  rw [bytesLess_eq, decide_eq_false_iff_not] at h1 h2
  exact List.le_antisymm (List.not_lt.1 h2) (List.not_lt.1 h1)

theorem isNaN_str (a : ByteArray) (w : World) :
    Calls Try.prog 174 #[.string a] w fun e w' => e = .returned (.bool false) ∧ w' = w := by
  go_enter Try.func174, Try.ntmps174
  go_wp2
  go_ret
  exact ⟨ret_bool (by simp), rfl⟩

theorem compare_str (a b : ByteArray) (w : World) :
    Calls Try.prog 104 #[.string a, .string b] w fun e w' => e = .returned (.int .i64 (cfS a b)) ∧ w' = w := by
  have hU : Hid (cfS a b = if Op.bytesLess a.toList b.toList = true then -1 else if Op.bytesLess b.toList a.toList = true then 1 else 0) := rfl
  have HN : Hid (∀ (x : ByteArray) (w1 : World), _) := fun x w1 => isNaN_str x w1
  cases h1 : Op.bytesLess a.toList b.toList
  · rw [h1] at hU
    cases h2 : Op.bytesLess b.toList a.toList
    · rw [h2] at hU
      have he := less_tri h1 h2
      have heb : (a.toList == b.toList) = true := by rw [beq_iff_eq]; exact he
      clear he
      go_enter Try.func104, Try.ntmps104
      go_wp2_with (go_at_call 174; refine (HN.out _ _).mono ?_; rintro e w' ⟨rfl, rfl⟩)
      go_ret
      exact ⟨by rw [hU.out] <;> rfl, rfl⟩
    · rw [h2] at hU
      have heb : (a.toList == b.toList) = false := by
        rw [beq_eq_false_iff_ne]
        intro he
        rw [he, less_irrefl] at h2
        cases h2
      go_enter Try.func104, Try.ntmps104
      go_wp2_with (go_at_call 174; refine (HN.out _ _).mono ?_; rintro e w' ⟨rfl, rfl⟩)
      go_ret
      exact ⟨by rw [hU.out] <;> rfl, rfl⟩
  · rw [h1] at hU
    go_enter Try.func104, Try.ntmps104
    go_wp2_with (go_at_call 174; refine (HN.out _ _).mono ?_; rintro e w' ⟨rfl, rfl⟩)
    go_ret
    exact ⟨by rw [hU.out] <;> rfl, rfl⟩

def cfLab (x y : TLab) : Int := cfS x.1.key y.1.key

set_option maxRecDepth 100000 in
theorem cmpLab (x y : TLab) (w : World) :
    Calls Try.prog 103 #[.agg #[.string x.1.key, .string x.1.val], .agg #[.string y.1.key, .string y.1.val]] w fun e w' => e = .returned (.int .i64 (cfLab x y)) ∧ Below w.heap.size w w' := by
  have HC : Hid (∀ w1 : World, Calls Try.prog 104 #[.string x.1.key, .string y.1.key] w1 fun e w' => e = .returned (.int .i64 (cfLab x y)) ∧ w' = w1) := fun w1 => compare_str x.1.key y.1.key w1
  go_enter Try.func103, Try.ntmps103
  go_wp2_with fail
  refine (HC.out _).mono ?_
  rintro e w1 ⟨rfl, rfl⟩
  go_wp2_with fail
  go_ret
  exact ⟨rfl, ((Below.refl _ _).alloc (Nat.le_refl _) _).alloc (by simp) _⟩

/-- The order: by keys, of two alike the one that was ahead. -/
def TO (x y : TLab) : Prop := Op.bytesLess x.1.key.toList y.1.key.toList = true ∨ (x.1.key.toList = y.1.key.toList ∧ x.2 < y.2)

theorem ordLab : StOrd cfLab (fun x : TLab => x.2) TO where
  trans := fun x y z h1 h2 => by
    rcases h1 with h1 | ⟨h1, h1'⟩
    · rcases h2 with h2 | ⟨h2, h2'⟩
      · exact .inl (less_trans h1 h2)
      · exact .inl (by rw [← h2]; exact h1)
    · rcases h2 with h2 | ⟨h2, h2'⟩
      · exact .inl (by rw [h1]; exact h2)
      · exact .inr ⟨h1.trans h2, Nat.lt_trans h1' h2'⟩
  tri := fun x y h => by
    cases h1 : Op.bytesLess x.1.key.toList y.1.key.toList
    · cases h2 : Op.bytesLess y.1.key.toList x.1.key.toList
      · have e := less_tri h1 h2
        rcases Nat.lt_or_gt_of_ne h with h | h
        · exact .inl (.inr ⟨e, h⟩)
        · exact .inr (.inr ⟨e.symm, h⟩)
      · exact .inr (.inl h2)
    · exact .inl (.inl h1)
  agree := fun x y h => by
    unfold cfLab cfS TO
    cases h1 : Op.bytesLess y.1.key.toList x.1.key.toList
    · refine ⟨fun hh => ?_, fun hh => ?_⟩
      · simp only [Bool.false_eq_true, if_false] at hh
        split at hh <;> omega
      · rcases hh with hh | ⟨_, hh⟩
        · cases hh
        · omega
    · exact ⟨fun _ => .inl rfl, fun _ => by simp⟩
end Go.Proofs.Ytdgjghflaaaflaa
