/- The tied card of CaNone, out of its row: the listed tables are tied to the program's text by the given tie. No condition. -/
import Derived.Test.YtcjehedciijhfaaGreatDoorCaNone
import Derived.Test.YtcjehedciijhfaaGreatDoorTie
import Derived.Test.YtcjehedciijhfaaGreatDoorCards
import Derived.SevenTiedAt
namespace Go.Proofs.YtcjehedciijhfaaGreatDoor.cCaNone
open Go
set_option maxRecDepth 100000

theorem kWf : Rows.caNoneRow.wfByText (OpenSpec.ofChange Rows.caNoneSpec) = true := by kernel_rfl
theorem kMain : Tryz.prog.mainIs = some ((true, "f562b26e96790468abf97530cc1f60d04c5951a04483859132e57095ae3af560").1, (true, "f562b26e96790468abf97530cc1f60d04c5951a04483859132e57095ae3af560").2.toList) := by kernel_rfl
theorem kLooks : true = Tryz.prog.looks [] := by kernel_rfl
theorem kGoes : false = Rows.caNoneRow.goesBy Tryz.prog := by kernel_rfl
theorem kWants2 : Tryz.prog.wantsStandIn 2 = false := by kernel_rfl
theorem kWants3 : Tryz.prog.wantsStandIn 3 = false := by kernel_rfl
theorem kWants44 : Tryz.prog.wantsStandIn 44 = false := by kernel_rfl
theorem kParams (j : Nat) (t : TypeId) (ht : Tryz.f4.params[j]? = some t) : Tryz.prog.wantsStandIn t = false := by
  rw [Tryz.params4] at ht
  rcases j with _ | _ | _ | j
  · have e : t = 2 := by simpa using ht.symm
    rw [e]; exact kWants2
  · have e : t = 44 := by simpa using ht.symm
    rw [e]; exact kWants44
  · have e : t = 3 := by simpa using ht.symm
    rw [e]; exact kWants3
  · simp at ht
end Go.Proofs.YtcjehedciijhfaaGreatDoor.cCaNone
namespace Go.Proofs.YtcjehedciijhfaaGreatDoor
open Go
theorem CaNone_holds : Rows.CaNoneCardSaid :=
  Claim7.holds_tied_plain_at .later [] [.data, .data, .data] true (true, "f562b26e96790468abf97530cc1f60d04c5951a04483859132e57095ae3af560") true
    CaNone_row (fun _ h => by cases h) cCaNone.kWf (fun _ h => by cases h) caNone_row_tie rfl ⟨rfl, rfl⟩ cCaNone.kMain rfl
    (fun f fn hf hfn => by
      have hf' : Tryz.prog.funcNamed Rows.caNoneRow.func = some f := hf
      have e1 : f = 4 := Option.some.inj (hf'.symm.trans lCaNone.fnNamed)
      subst e1
      have hfn' : Tryz.prog.funcs[4]? = some fn := hfn
      have e2 : fn = Tryz.f4 := Option.some.inj (hfn'.symm.trans Tryz.func4)
      subst e2
      exact ⟨cCaNone.kLooks, cCaNone.kParams⟩)
    cCaNone.kGoes
end Go.Proofs.YtcjehedciijhfaaGreatDoor
