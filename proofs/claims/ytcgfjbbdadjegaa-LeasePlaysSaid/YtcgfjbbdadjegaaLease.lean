/- Contracts of package lease's small functions: held, right, New, own, Get. Condition: the board lies in blocks of the call's own. -/
import Derived.Test.YtcgfjbbdadjegaaName2
import Derived.Test.YtcgfjbbdadjegaaMap
namespace Go.Proofs.Ytcgfjbbdadjegaa
open Go.ChangeShapes Go.WideShapes Go.ChangeAt Go.RowKit Go.Deep Go.Maps

structure Lease where
  name : ByteArray
  holder : ByteArray
  till : Int
  turns : Int

def Lease.cells (l : Lease) : List Value := [.string l.name, .string l.holder, .int .i64 l.till, .int .i64 l.turns]
def Lease.val (l : Lease) : Value := .agg #[.string l.name, .string l.holder, .int .i64 l.till, .int .i64 l.turns]
def Lease.zero : Lease := ⟨⟨#[]⟩, ⟨#[]⟩, 0, 0⟩

theorem aggLease : AggOK Try.prog 34 4 := .mk' (by kernel_rfl) (by kernel_rfl)
theorem zeroLease (w : World) : (zeroValue 34).run Try.prog w = .ok Lease.zero.val w := by kernel_rfl
theorem strKeyed : Keyed Try.prog 9 := string_keyed Try.underlying9

/-- A board: how many leases, and which. -/
structure Bd where
  n : Nat
  f : List UInt8 → Option Lease

def Bd.put (b : Bd) (l : Lease) : Bd := ⟨if (b.f l.name.data.toList).isSome then b.n else b.n + 1, sset b.f l.name.data.toList l⟩

structure BoardAt (w : World) (bb bm : Nat) (b : Bd) : Prop where
  blk : w.heap[bb]? = some (.cells #[.map (some bm)] 46 (0, 0))
  map : StrMap Lease.val w Try.prog 9 bm b.n b.f

theorem BoardAt.ne {w : World} {bb bm : Nat} {b : Bd} (h : BoardAt w bb bm b) : bb ≠ bm := by
  intro e
  obtain ⟨D, ⟨es, clock, h1, _⟩, _⟩ := h.map
  rw [← e, h.blk] at h1
  cases h1

theorem BoardAt.fr {S : Nat → Prop} {w w' : World} {bb bm : Nat} {b : Bd} (h : BoardAt w bb bm b) (hf : Fr S w w') (h1 : ¬ S bb) (h2 : ¬ S bm) : BoardAt w' bb bm b :=
  ⟨hf.heap h.blk h1, MapIs.fr h.map hf h2⟩

theorem toList_inj {a b : ByteArray} : a.toList = b.toList ↔ a = b := by
  rw [Lib.toList_data, Lib.toList_data]
  exact ⟨bytes_inj, fun h => by rw [h]⟩

/-! ### what is answered -/

def rightOf (name holder : ByteArray) (now ticks : Int) : Int :=
  if nameOf name.data.toList = true ∧ nameOf holder.data.toList = true then (if now < 0 ∨ 4611686018427387904 < now ∨ ticks < 1 ∨ 1800 < ticks then 1 else 0) else 6

def ownOf (b : Bd) (name holder : ByteArray) (now : Int) : Lease × Int :=
  match b.f name.data.toList with
  | none => (.zero, 7)
  | some l => if l.holder = holder ∧ now < l.till then (l, 0) else (.zero, 12)

theorem held_any (l : Lease) (now : Int) (w : World) :
    Calls Try.prog 14 #[l.val, .int .i64 now] w fun e w' => e = .returned (.bool (decide (now < l.till))) ∧ Below w.heap.size w w' := by
  show Calls Try.prog 14 #[.agg #[.string l.name, .string l.holder, .int .i64 l.till, .int .i64 l.turns], .int .i64 now] w _
  go_enter Try.func14, Try.ntmps14
  go_wp2
  go_ret
  exact ⟨rfl, (Below.refl _ _).alloc (Nat.le_refl _) _⟩

theorem right_any (name holder : ByteArray) (now ticks : Int) (w : World) :
    Calls Try.prog 13 #[.string name, .string holder, .int .i64 now, .int .i64 ticks] w fun e w' => e = .returned (.int .i64 (rightOf name holder now ticks)) ∧ w = w' := by
  have HN : Hid (∀ (s : ByteArray) w1, Calls Try.prog 27 #[.string s] w1 fun e w' => e = .returned (.bool (nameOf s.data.toList)) ∧ w1 = w') := fun s w1 => name_any s w1
  cases h1 : nameOf name.data.toList
  · have H : Hid (rightOf name holder now ticks = 6) := by unfold rightOf; rw [h1]; exact if_neg (by simp)
    have H1 := Lib.hid h1
    clear h1
    go_enter Try.func13, Try.ntmps13
    go_wp2_with fail
    refine (HN.out _ _).mono ?_
    rintro e w1 ⟨he, rfl⟩
    rw [H1.out] at he
    subst he
    go_wp2_with fail
    go_ret
    exact ⟨ret_int H.out.symm, rfl⟩
  cases h2 : nameOf holder.data.toList
  · have H : Hid (rightOf name holder now ticks = 6) := by unfold rightOf; rw [h2]; exact if_neg (by simp)
    have H1 := Lib.hid h1
    have H2 := Lib.hid h2
    clear h1 h2
    go_enter Try.func13, Try.ntmps13
    go_wp2_with fail
    refine (HN.out _ _).mono ?_
    rintro e w1 ⟨he, rfl⟩
    rw [H1.out] at he
    subst he
    go_wp2_with fail
    refine (HN.out _ _).mono ?_
    rintro e w1 ⟨he, rfl⟩
    rw [H2.out] at he
    subst he
    go_wp2_with fail
    go_ret
    exact ⟨ret_int H.out.symm, rfl⟩
  have H1 := Lib.hid h1
  have H2 := Lib.hid h2
  clear h1 h2
  rcases (show now < 0 ∨ (0 ≤ now ∧ 4611686018427387904 < now) ∨ (0 ≤ now ∧ now ≤ 4611686018427387904 ∧ ticks < 1) ∨ (0 ≤ now ∧ now ≤ 4611686018427387904 ∧ 1 ≤ ticks ∧ 1800 < ticks) ∨ (0 ≤ now ∧ now ≤ 4611686018427387904 ∧ 1 ≤ ticks ∧ ticks ≤ 1800) by omega) with q | ⟨q1, q2⟩ | ⟨q1, q2, q3⟩ | ⟨q1, q2, q3, q4⟩ | ⟨q1, q2, q3, q4⟩
  all_goals
    have H : Hid (rightOf name holder now ticks = if now < 0 ∨ 4611686018427387904 < now ∨ ticks < 1 ∨ 1800 < ticks then 1 else 0) := by unfold rightOf; exact if_pos ⟨H1.out, H2.out⟩
    go_enter Try.func13, Try.ntmps13
    go_wp2_with fail
    refine (HN.out _ _).mono ?_
    rintro e w1 ⟨he, rfl⟩
    rw [H1.out] at he
    subst he
    go_wp2_with fail
    refine (HN.out _ _).mono ?_
    rintro e w1 ⟨he, rfl⟩
    rw [H2.out] at he
    subst he
    go_wp2_with fail
    go_ret
    exact ⟨ret_int (by rw [H.out]; split <;> omega), rfl⟩

theorem newBoard_any (w : World) : Calls Try.prog 5 #[] w fun e w' => e = .returned (.pointer (some ⟨w.heap.size + 1, 0, none⟩)) ∧ w' = (w.alloc (.map #[] 0)).alloc (.cells #[.map (some w.heap.size)] 46) := by
  have hmm := @run_makeMap Try.prog
  go_enter Try.func5, Try.ntmps5
  go_wp2
  go_ret
  exact ⟨rfl, rfl⟩
end Go.Proofs.Ytcgfjbbdadjegaa
