/- The tied card of PlaneNone, out of its row: the listed tables are tied to the program's text by the given tie. No condition. -/
import Derived.Test.YtcjehedciijhfaaGreatDoorPlaneNone
import Derived.Test.YtcjehedciijhfaaGreatDoorTie
import Derived.Test.YtcjehedciijhfaaGreatDoorCards
import Derived.SevenTiedAt
namespace Go.Proofs.YtcjehedciijhfaaGreatDoor.cPlaneNone
open Go
set_option maxRecDepth 100000

theorem kWf : Rows.planeNoneRow.wfByText (OpenSpec.ofChange Rows.planeNoneSpec) = true := by kernel_rfl
theorem kMain : Tryz.prog.mainIs = some ((true, "f562b26e96790468abf97530cc1f60d04c5951a04483859132e57095ae3af560").1, (true, "f562b26e96790468abf97530cc1f60d04c5951a04483859132e57095ae3af560").2.toList) := by kernel_rfl
theorem kLooks : true = Tryz.prog.looks [] := by kernel_rfl
theorem kGoes : false = Rows.planeNoneRow.goesBy Tryz.prog := by kernel_rfl
theorem kWants82 : Tryz.prog.wantsStandIn 82 = false := by kernel_rfl
theorem kParams (j : Nat) (t : TypeId) (ht : Tryz.f5.params[j]? = some t) : Tryz.prog.wantsStandIn t = false := by
  rw [Tryz.params5] at ht
  rcases j with _ | j
  · have e : t = 82 := by simpa using ht.symm
    rw [e]; exact kWants82
  · simp at ht
end Go.Proofs.YtcjehedciijhfaaGreatDoor.cPlaneNone
namespace Go.Proofs.YtcjehedciijhfaaGreatDoor
open Go
theorem PlaneNone_holds : Rows.PlaneNoneCardSaid :=
  Claim7.holds_tied_plain_at .later [] [.data, .data, .data] true (true, "f562b26e96790468abf97530cc1f60d04c5951a04483859132e57095ae3af560") true
    PlaneNone_row (fun _ h => by cases h) cPlaneNone.kWf (fun _ h => by cases h) planeNone_row_tie rfl ⟨rfl, rfl⟩ cPlaneNone.kMain rfl
    (fun f fn hf hfn => by
      have hf' : Tryz.prog.funcNamed Rows.planeNoneRow.func = some f := hf
      have e1 : f = 5 := Option.some.inj (hf'.symm.trans lPlaneNone.fnNamed)
      subst e1
      have hfn' : Tryz.prog.funcs[5]? = some fn := hfn
      have e2 : fn = Tryz.f5 := Option.some.inj (hfn'.symm.trans Tryz.func5)
      subst e2
      exact ⟨cPlaneNone.kLooks, cPlaneNone.kParams⟩)
    cPlaneNone.kGoes
end Go.Proofs.YtcjehedciijhfaaGreatDoor
