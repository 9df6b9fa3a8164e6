/- The tied card of CloudNone, out of its row: the listed tables are tied to the program's text by the given tie. No condition. -/
import Derived.Test.YtcjehedciijhfaaGreatDoorCloudNone
import Derived.Test.YtcjehedciijhfaaGreatDoorTie
import Derived.Test.YtcjehedciijhfaaGreatDoorCards
import Derived.SevenTiedAt
namespace Go.Proofs.YtcjehedciijhfaaGreatDoor.cCloudNone
open Go
set_option maxRecDepth 100000

theorem kWf : Rows.cloudNoneRow.wfByText (OpenSpec.ofChange Rows.cloudNoneSpec) = true := by kernel_rfl
theorem kMain : Tryz.prog.mainIs = some ((true, "f562b26e96790468abf97530cc1f60d04c5951a04483859132e57095ae3af560").1, (true, "f562b26e96790468abf97530cc1f60d04c5951a04483859132e57095ae3af560").2.toList) := by kernel_rfl
theorem kLooks : true = Tryz.prog.looks [] := by kernel_rfl
theorem kGoes : false = Rows.cloudNoneRow.goesBy Tryz.prog := by kernel_rfl
theorem kWants2 : Tryz.prog.wantsStandIn 2 = false := by kernel_rfl
theorem kWants3 : Tryz.prog.wantsStandIn 3 = false := by kernel_rfl
theorem kWants9 : Tryz.prog.wantsStandIn 9 = false := by kernel_rfl
theorem kParams (j : Nat) (t : TypeId) (ht : Tryz.f3.params[j]? = some t) : Tryz.prog.wantsStandIn t = false := by
  rw [Tryz.params3] at ht
  rcases j with _ | _ | _ | j
  · have e : t = 9 := by simpa using ht.symm
    rw [e]; exact kWants9
  · have e : t = 3 := by simpa using ht.symm
    rw [e]; exact kWants3
  · have e : t = 2 := by simpa using ht.symm
    rw [e]; exact kWants2
  · simp at ht
end Go.Proofs.YtcjehedciijhfaaGreatDoor.cCloudNone
namespace Go.Proofs.YtcjehedciijhfaaGreatDoor
open Go
theorem CloudNone_holds : Rows.CloudNoneCardSaid :=
  Claim7.holds_tied_plain_at .later [] [.data, .data, .data] true (true, "f562b26e96790468abf97530cc1f60d04c5951a04483859132e57095ae3af560") true
    CloudNone_row (fun _ h => by cases h) cCloudNone.kWf (fun _ h => by cases h) cloudNone_row_tie rfl ⟨rfl, rfl⟩ cCloudNone.kMain rfl
    (fun f fn hf hfn => by
      have hf' : Tryz.prog.funcNamed Rows.cloudNoneRow.func = some f := hf
      have e1 : f = 3 := Option.some.inj (hf'.symm.trans lCloudNone.fnNamed)
      subst e1
      have hfn' : Tryz.prog.funcs[3]? = some fn := hfn
      have e2 : fn = Tryz.f3 := Option.some.inj (hfn'.symm.trans Tryz.func3)
      subst e2
      exact ⟨cCloudNone.kLooks, cCloudNone.kParams⟩)
    cCloudNone.kGoes
end Go.Proofs.YtcjehedciijhfaaGreatDoor
