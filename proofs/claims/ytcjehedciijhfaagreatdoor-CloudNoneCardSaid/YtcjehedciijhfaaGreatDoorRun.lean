/- The executor at this program: its switches, and chapters' examples. No condition but the tables. -/
import Derived.Test.YtcjehedciijhfaaGreatDoorTabs
import Derived.Test.YtcjehedciijhfaaGreatDoorE39
namespace Go.Proofs.YtcjehedciijhfaaGreatDoor.E
open Go.ChangeShapes Go.WideShapes Go.ChangeAt Go.RowKit Go.Deep

theorem mixedP : Tryz.prog.follows .mixedOrders = true := by kernel_rfl
def cpX (f : Nat) : Bool := Nat.beq f 86
theorem cpX_ok : ∀ f, cpX f = true → ∃ fn, Tryz.prog.funcs[f]? = some fn ∧ (fn.name == "runtime.NumGoroutine") = false ∧ fn.body.isNone = true ∧ Extern.findNext fn = none ∧ Extern.find fn = some Extern.MapsClone.clone := by
  intro f h
  have h := Nat.eq_of_beq_eq_true h
  subst h
  exact ⟨_, Tryz.func86, by kernel_rfl, by kernel_rfl, by kernel_rfl, by kernel_rfl⟩
theorem tabs_in : ∀ x ∈ tabs, x.g < nG := by
  intro x hx
  simp only [tabs, List.mem_cons, List.not_mem_nil, or_false] at hx
  subst hx
  decide
/-- A chapter's example, its answer known. -/
def oneS (g : Nat) (f : Nat) : Option V :=
  match Nat.beq f g with
  | true => some (.bool true)
  | false => none
theorem oneS_ok {g : Nat} (h : ∀ w : World, Laid w nG tabs → Calls Tryz.prog g #[] w fun e w' => e = .returned (.bool true) ∧ Below w.heap.size w w') :
    ∀ f v, oneS g f = some v → ∀ w : World, Laid w nG tabs → Calls Tryz.prog f #[] w fun e w' => ∃ y, e = .returned y ∧ (∀ ι : I, VR ι v y) ∧ Below w.heap.size w w' := by
  intro f v hs w hL
  unfold oneS at hs
  split at hs
  · rename_i hf
    cases hs
    have hf := Nat.eq_of_beq_eq_true hf
    subst hf
    exact (h w hL).mono fun e w' ⟨h1, h2⟩ => ⟨_, h1, fun ι => by simp only [VR], h2⟩
  · cases hs
/-- A call without arguments that the executor has gone through. -/
theorem lives_of {n g : Nat} {I' : Nat → Bool} (h : says drK Tryz.prog n g nG noA noL I' noS cpX tabs [] true = true) : ∀ w : World, Laid w nG tabs → Calls Tryz.prog g #[] w fun e w' => e = .returned (.bool true) ∧ Below w.heap.size w w' := fun _ hL =>
  says_sound h (Cf.of_ok _ _ _ _ _ _ _ _ mixedP tabs_in cpX_ok (fun _ _ h => by cases h)) rfl rfl hL (fun _ => .bool true) (atoms_none _ _ _ _ _ _ fun _ => rfl) (VRs.nil_iff.2 rfl)
end Go.Proofs.YtcjehedciijhfaaGreatDoor.E
