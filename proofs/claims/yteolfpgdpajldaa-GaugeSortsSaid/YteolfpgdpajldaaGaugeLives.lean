/- The chapter's example of gauge. No condition. -/
import Derived.Test.YteolfpgdpajldaaGauge4
namespace Go.Proofs.Yteolfpgdpajldaa
open Go.ChangeShapes Go.WideShapes Go.ChangeAt Go.RowKit Go.Deep

theorem ex04a : refOf 4591870180066957722 = (100, 0) := by decide +kernel
theorem ex04b : refOf 4557750909289998844 = (1, 0) := by decide +kernel

theorem lives04 (w : World) : Calls Try.prog 4 #[] w fun e w' => e = .returned (.bool true) ∧ Below w.heap.size w w' := by
  have HA : Hid (∀ w1 : World, _) := fun w1 => read_any 4591870180066957722 w1 (by decide)
  have HB : Hid (∀ w1 : World, _) := fun w1 => read_any 4557750909289998844 w1 (by decide)
  rw [ex04a] at HA
  rw [ex04b] at HB
  go_enter Try.func4, Try.ntmps4
  go_wp2_with fail
  refine (HA.out w).mono ?_
  rintro e w1 ⟨rfl, hb1⟩
  have H1 := Lib.hid hb1
  clear hb1
  go_wp2_with fail
  refine (HB.out w1).mono ?_
  rintro e w2 ⟨rfl, hb2⟩
  have H2 := Lib.hid (H1.out.trans (hb2.mono H1.out.size))
  clear hb2
  go_wp2_with fail
  go_ret
  exact ⟨rfl, H2.out⟩
end Go.Proofs.Yteolfpgdpajldaa
