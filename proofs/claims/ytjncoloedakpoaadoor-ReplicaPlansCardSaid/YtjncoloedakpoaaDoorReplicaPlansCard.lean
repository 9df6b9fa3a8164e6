/- The tied card of ReplicaPlans, out of its row: the listed tables are tied to the program's text by the given tie. No condition. -/
import Derived.Test.YtjncoloedakpoaaDoorReplicaPlansM
import Derived.Test.YtjncoloedakpoaaDoorTie
import Derived.Test.YtjncoloedakpoaaDoorCards
import Derived.SevenTiedAt
namespace Go.Proofs.YtjncoloedakpoaaDoor.cReplicaPlans
open Go
set_option maxRecDepth 100000

theorem kWf : Rows.replicaPlansRow.wfByText (OpenSpec.ofChange Rows.replicaPlansSpec) = true := by kernel_rfl
theorem kMain : Tryd.prog.mainIs = some ((true, "c6a7f7a2662e84c38177165550864d9628da6fdc0b1acc9e66a88ed025f74a09").1, (true, "c6a7f7a2662e84c38177165550864d9628da6fdc0b1acc9e66a88ed025f74a09").2.toList) := by kernel_rfl
theorem kLooks : false = Tryd.prog.looks [] := by kernel_rfl
theorem kGoes : false = Rows.replicaPlansRow.goesBy Tryd.prog := by kernel_rfl
theorem kWants44 : Tryd.prog.wantsStandIn 44 = false := by kernel_rfl
theorem kWants45 : Tryd.prog.wantsStandIn 45 = false := by kernel_rfl
theorem kParams (j : Nat) (t : TypeId) (ht : Tryd.f3.params[j]? = some t) : Tryd.prog.wantsStandIn t = false := by
  rw [Tryd.params3] at ht
  rcases j with _ | _ | j
  · have e : t = 44 := by simpa using ht.symm
    rw [e]; exact kWants44
  · have e : t = 45 := by simpa using ht.symm
    rw [e]; exact kWants45
  · simp at ht
end Go.Proofs.YtjncoloedakpoaaDoor.cReplicaPlans
namespace Go.Proofs.YtjncoloedakpoaaDoor
open Go
theorem ReplicaPlans_holds : Rows.ReplicaPlansCardSaid :=
  Claim7.holds_tied_plain_at .later [] [.data, .data, .data] true (true, "c6a7f7a2662e84c38177165550864d9628da6fdc0b1acc9e66a88ed025f74a09") false
    ReplicaPlans_row (fun _ h => by cases h) cReplicaPlans.kWf (fun _ h => by cases h) replicaPlans_row_tie rfl ⟨rfl, rfl⟩ cReplicaPlans.kMain rfl
    (fun f fn hf hfn => by
      have hf' : Tryd.prog.funcNamed Rows.replicaPlansRow.func = some f := hf
      have e1 : f = 3 := Option.some.inj (hf'.symm.trans lReplicaPlans.fnNamed)
      subst e1
      have hfn' : Tryd.prog.funcs[3]? = some fn := hfn
      have e2 : fn = Tryd.f3 := Option.some.inj (hfn'.symm.trans Tryd.func3)
      subst e2
      exact ⟨cReplicaPlans.kLooks, cReplicaPlans.kParams⟩)
    cReplicaPlans.kGoes
end Go.Proofs.YtjncoloedakpoaaDoor
