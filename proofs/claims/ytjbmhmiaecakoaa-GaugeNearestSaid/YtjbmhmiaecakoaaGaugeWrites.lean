/- GaugeWrites holds: for every input the law returns true. No condition. -/
import Derived.Test.YtjbmhmiaecakoaaGaugeWritesLift
import Derived.Test.YtjbmhmiaecakoaaWrite3
namespace Go.Proofs.Ytjbmhmiaecakoaa
open Go.ChangeShapes Go.WideShapes Go.ChangeAt Go.RowKit Go.Deep

theorem milli_of {w : World} {n : Int} (h : Rel (.int .i64) w [.int .i64 n]) : -9223372036854775808 ≤ n ∧ n ≤ 9223372036854775807 := by
  obtain ⟨m, hm, hw⟩ := h
  simp at hm
  subst hm
  simp [Lit.wf, IntKind.min, IntKind.max, IntKind.signed, IntKind.bits] at hw
  omega

/-- Of each quantity there are bits, and what they read as. -/
theorem written (m : Nat) (h : m ≤ 9007199254740992) : ∃ x, Ieee.double.div (Ieee.double.nearest false m 0) 4652007308841189376 = some x ∧ x < 18446744073709551616 ∧ (m ≤ 1099511627776 → refOf x = (m, 0)) ∧ ((refOf x).2 = 0 ∨ (refOf x).2 = 3) := by
  by_cases h0 : m = 0
  · subst h0
    exact ⟨0, div_zero, by decide, fun _ => by decide +kernel, .inl (by decide +kernel)⟩
  · by_cases h1 : m = 9007199254740992
    · subst h1
      exact ⟨_, div_top, by decide, fun h => by omega, by decide +kernel⟩
    · obtain ⟨x, hx, ⟨W⟩⟩ := wrote (m := m) (by omega) (by omega)
      exact ⟨x, hx, by have := W.small; omega, W.again, W.errs⟩

set_option maxHeartbeats 2000000 in
theorem gaugeWrites_core (m : Int) (w : World) :
    Calls Try.prog 4 #[.int .i64 m] w fun e w' => e = .returned (.bool true) ∧ Below w.heap.size w w' := by
  by_cases hbad : m < 0 ∨ 9007199254740992 < m
  · have HW : Hid (∀ w1 : World, _) := fun w1 => write_bad m w1 hbad
    rcases (show m < 0 ∨ (0 ≤ m ∧ 9007199254740992 < m) by omega) with h | ⟨h, h'⟩
    all_goals
      clear hbad
      go_enter Try.func4, Try.ntmps4
      go_wp2_with fail
      refine (lives04 w).mono ?_
      rintro e w1 ⟨rfl, hb1⟩
      have H1 := Lib.hid hb1
      clear hb1
      go_wp2_with fail
      refine (HW.out w1).mono ?_
      rintro e w2 ⟨rfl, rfl⟩
      go_wp2_with fail
      go_ret
      exact ⟨rfl, H1.out⟩
  · obtain ⟨n, rfl⟩ : ∃ n : Nat, m = n := ⟨m.toNat, by omega⟩
    have hn : n ≤ 9007199254740992 := by omega
    obtain ⟨x, hx, hxl, ha, hb⟩ := written n hn
    have HW : Hid (∀ w1 : World, _) := fun w1 => write_good n x w1 hn hx
    have HR : Hid (∀ w1 : World, _) := fun w1 => read_any x w1 hxl
    clear hbad hx
    by_cases hs : n ≤ 1099511627776
    · rw [ha hs] at HR
      dsimp only at HR
      clear ha hb
      have hs2 : (n : Int) ≤ 1099511627776 := by omega
      go_enter Try.func4, Try.ntmps4
      go_wp2_with fail
      refine (lives04 w).mono ?_
      rintro e w1 ⟨rfl, hb1⟩
      have H1 := Lib.hid hb1
      clear hb1
      go_wp2_with fail
      refine (HW.out w1).mono ?_
      rintro e w2 ⟨rfl, rfl⟩
      go_wp2_with fail
      refine (HR.out w1).mono ?_
      rintro e w3 ⟨rfl, hb3⟩
      have H3 := Lib.hid (H1.out.trans (hb3.mono H1.out.size))
      clear hb3
      go_wp2_with fail
      go_ret
      exact ⟨by simp, H3.out⟩
    · obtain ⟨p, hp⟩ : ∃ p, refOf x = p := ⟨_, rfl⟩
      rw [hp] at HR hb
      obtain ⟨q, r⟩ := p
      dsimp only at HR hb
      clear ha hp
      have hs2 : ¬ (n : Int) ≤ 1099511627776 := by omega
      rcases hb with rfl | rfl
      all_goals
        go_enter Try.func4, Try.ntmps4
        go_wp2_with fail
        refine (lives04 w).mono ?_
        rintro e w1 ⟨rfl, hb1⟩
        have H1 := Lib.hid hb1
        clear hb1
        go_wp2_with fail
        refine (HW.out w1).mono ?_
        rintro e w2 ⟨rfl, rfl⟩
        go_wp2_with fail
        refine (HR.out w1).mono ?_
        rintro e w3 ⟨rfl, hb3⟩
        have H3 := Lib.hid (H1.out.trans (hb3.mono H1.out.size))
        clear hb3
        go_wp2_with fail
        go_ret
        exact ⟨rfl, H3.out⟩

theorem GaugeWrites_holds : Rows.GaugeWritesSaid := lGaugeWrites.over fun n w _ => gaugeWrites_core n w
end Go.Proofs.Ytjbmhmiaecakoaa
