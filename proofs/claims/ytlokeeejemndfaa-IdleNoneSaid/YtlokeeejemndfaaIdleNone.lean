/- IdleNone: timers that aren't there don't run. Conditions: none. -/
import Derived.Test.YtlokeeejemndfaaIdleNoneLift
import Derived.Test.YtlokeeejemndfaaIdleLives
namespace Go.Proofs.Ytlokeeejemndfaa
open Go.ChangeShapes Go.WideShapes Go.ChangeAt Go.RowKit Go.Deep Go.Maps Go.Sort

set_option maxRecDepth 100000 in
set_option maxHeartbeats 1600000 in
theorem idleNone_core (l : List SStr) (ao : Option Addr) (n cap : Nat) (now wait : Int) (w : World) (hA : SlR (Flat cS) 1 w ao n cap l) :
    Calls Try.prog 4 #[.int .i64 now, .slice ao n cap, .int .i64 wait] w fun e w' => e = .returned (.bool true) ∧ Below w.heap.size w w' := by
  have h1 := hA.hmax; have h2 := hA.hcap
  unfold maxLen at h1
  rcases (show 50 < n ∨ n ≤ 50 by omega) with g1 | g1
  · go_enter Try.func4, Try.ntmps4
    go_wp2_with fail
    refine (lives27 _).mono ?_
    rintro e w1 ⟨rfl, hb1⟩
    go_wp2_with fail
    refine (lives27 _).mono ?_
    rintro e w2 ⟨rfl, hb2⟩
    go_wp2
    go_ret
    exact ⟨rfl, hb1.trans (hb2.mono hb1.size)⟩
  have HA := Lib.hid hA
  clear hA
  rcases (show lookOf Tm.zero now ≠ 0 ∨ lookOf Tm.zero now = 0 from (Decidable.em _).symm) with hk | hk
  · have hk2 : now < 0 ∨ 4611686018427387904 < now := by
      apply Decidable.byContradiction
      intro hh
      apply hk
      unfold lookOf
      rw [if_neg hh]
      rfl
    have hk1 : lookOf Tm.zero now = 1 := by unfold lookOf; rw [if_pos hk2]
    have Hk := Lib.hid hk
    have Hk1 := Lib.hid hk1
    clear hk hk1
    rcases hk2 with hk2 | hk2
    all_goals
      go_enter Try.func4, Try.ntmps4
      go_wp2_with fail
      refine (lives27 _).mono ?_
      rintro e w1 ⟨rfl, hb1⟩
      have HB := Lib.hid hb1
      clear hb1
      go_wp2_with fail
      refine (resetNil_any _).mono ?_
      rintro e w2 ⟨rfl, rfl⟩
      go_wp2_with fail
      refine (sinceNil_any _ _).mono ?_
      rintro e w2 ⟨rfl, rfl⟩
      go_wp2_with fail
      refine (newTimers_any _).mono ?_
      rintro e w2 ⟨rfl, hw2⟩
      have hT : TimersAt w2 (w1.heap.size + 1) w1.heap.size 0 Tm.zero := by rw [hw2]; exact TimersAt.made w1
      have hb0 : Below w1.heap.size w1 w2 := by rw [hw2]; exact ((Below.refl _ _).alloc (Nat.le_refl _) _).alloc (by simp) _
      have HT := Lib.hid hT
      have HB2 := Lib.hid (HB.out.trans (hb0.mono HB.out.size))
      clear hw2 hT hb0
      go_wp2_with fail
      refine (lookErr_any _ _ _ _ now _ _ HT.out Hk.out).mono ?_
      rintro e w3 ⟨he, rfl⟩
      rw [Hk1.out] at he
      subst he
      go_wp2_with fail
      refine (lookNil_any _ _ _).mono ?_
      rintro e w3 ⟨rfl, rfl⟩
      go_wp2_with fail
      refine (ripeNil_any _ _ _).mono ?_
      rintro e w3 ⟨rfl, rfl⟩
      go_wp2_with fail
      refine (copyNil_any _).mono ?_
      rintro e w3 ⟨rfl, rfl⟩
      go_wp2_with fail
      all_goals
        go_ret
        exact ⟨ret_bool (by simp <;> omega), HB2.out⟩
  · have hk2 : 0 ≤ now ∧ now ≤ 4611686018427387904 := by
      unfold lookOf at hk
      split at hk
      · cases hk
      · omega
    obtain ⟨k1, k2⟩ := hk2
    have Hk := Lib.hid hk
    clear hk
    go_enter Try.func4, Try.ntmps4
    go_wp2_with fail
    refine (lives27 _).mono ?_
    rintro e w1 ⟨rfl, hb1⟩
    have HA2 := Lib.hid (HA.out.flatKeeps (Keeps.below hb1))
    have HB := Lib.hid hb1
    clear hb1 HA
    go_wp2_with fail
    refine (resetNil_any _).mono ?_
    rintro e w2 ⟨rfl, rfl⟩
    go_wp2_with fail
    refine (sinceNil_any _ _).mono ?_
    rintro e w2 ⟨rfl, rfl⟩
    go_wp2_with fail
    refine (newTimers_any _).mono ?_
    rintro e w2 ⟨rfl, hw2⟩
    have hT : TimersAt w2 (w1.heap.size + 1) w1.heap.size 0 Tm.zero := by rw [hw2]; exact TimersAt.made w1
    have hb0 : Below w1.heap.size w1 w2 := by rw [hw2]; exact ((Below.refl _ _).alloc (Nat.le_refl _) _).alloc (by simp) _
    have HT := Lib.hid hT
    have HA3 := Lib.hid (HA2.out.flatKeeps (Keeps.below hb0))
    have HB2 := Lib.hid (HB.out.trans (hb0.mono HB.out.size))
    have hz2 : w1.heap.size + 1 < w2.heap.size := HT.out.lt.1
    clear hw2 hT hb0 HA2
    go_wp2_with fail
    refine (look_any _ _ _ _ now l ao n cap _ HT.out HA3.out (by omega) Hk.out).mono ?_
    rintro e w3 ⟨rfl, _, hF⟩
    have hz1 := HB.out.size
    have HB3 := Lib.hid (HB2.out.trans (hF.below HB2.out.size (fun k hk => by omega)))
    clear hF
    go_wp2_with fail
    refine (lookNil_any _ _ _).mono ?_
    rintro e w4 ⟨rfl, rfl⟩
    go_wp2_with fail
    refine (ripeNil_any _ _ _).mono ?_
    rintro e w4 ⟨rfl, rfl⟩
    go_wp2_with fail
    refine (copyNil_any _).mono ?_
    rintro e w4 ⟨rfl, rfl⟩
    go_wp2_with fail
    all_goals
      go_ret
      exact ⟨ret_bool (by simp), HB3.out⟩

theorem IdleNone_holds : Rows.IdleNoneSaid := lIdleNone.over fun now ao n cap wait w _ h1 _ => by
  obtain ⟨_, _, _, ls, e0, hS⟩ := SlR.of_rel h1 (fun c hc => sS_of w c hc)
  simp [Value.cells] at e0
  obtain ⟨rfl, rfl, rfl⟩ := e0
  exact idleNone_core ls _ _ _ now wait w hS
end Go.Proofs.Ytlokeeejemndfaa
