/- GaugeReads holds: for every input the law returns true. No condition. -/
import Derived.Test.YtjbmhmiaecakoaaGaugeReadsLift
import Derived.Test.YtjbmhmiaecakoaaGaugeLives
namespace Go.Proofs.Ytjbmhmiaecakoaa
open Go.ChangeShapes Go.WideShapes Go.ChangeAt Go.RowKit Go.Deep

set_option maxHeartbeats 1000000 in
theorem gaugeReads_core (x : Nat) (w : World) (hx : x < 18446744073709551616) :
    Calls Try.prog 3 #[.int .u64 x] w fun e w' => e = .returned (.bool true) ∧ Below w.heap.size w w' := by
  obtain ⟨m, hm⟩ : ∃ m, refOf x = m := ⟨_, rfl⟩
  have HR : Hid (∀ w1 : World, _) := fun w1 => read_any x w1 hx
  have HF : Hid (∀ w1 : World, _) := fun w1 => ref_any x w1 hx
  rw [hm] at HR HF
  clear hm
  obtain ⟨a, b⟩ := m
  dsimp only at HR HF
  go_enter Try.func3, Try.ntmps3
  go_wp2_with fail
  refine (lives04 w).mono ?_
  rintro e w1 ⟨rfl, hb1⟩
  have H1 := Lib.hid hb1
  clear hb1
  go_wp2_with fail
  refine (HR.out w1).mono ?_
  rintro e w2 ⟨rfl, hb2⟩
  have H2 := Lib.hid (H1.out.trans (hb2.mono H1.out.size))
  clear hb2
  go_wp2_with fail
  refine (HF.out w2).mono ?_
  rintro e w3 ⟨rfl, hb3⟩
  have H3 := Lib.hid (H2.out.trans (hb3.mono H2.out.size))
  clear hb3
  go_wp2_with fail
  go_ret
  exact ⟨by simp, H3.out⟩

theorem u64_of {w : World} {n : Int} (h : Rel (.int .u64) w [.int .u64 n]) : ∃ x : Nat, n = x ∧ x < 18446744073709551616 := by
  obtain ⟨m, hm, hw⟩ := h
  simp at hm
  subst hm
  simp [Lit.wf, IntKind.min, IntKind.max, IntKind.signed, IntKind.bits] at hw
  exact ⟨n.toNat, by omega, by omega⟩

theorem GaugeReads_holds : Rows.GaugeReadsSaid := lGaugeReads.over fun n w h => by
  obtain ⟨x, rfl, hx⟩ := u64_of (w := w) (n := n) h
  exact gaugeReads_core x w hx
end Go.Proofs.Ytjbmhmiaecakoaa
