/- GaugeNearest holds: for every input the law returns true. No condition. -/
import Derived.Test.YtjbmhmiaecakoaaGaugeNearestLift
import Derived.Test.YtjbmhmiaecakoaaGaugeWrites
import Derived.Test.YtjbmhmiaecakoaaGaugeNear
namespace Go.Proofs.Ytjbmhmiaecakoaa
open Go.ChangeShapes Go.WideShapes Go.ChangeAt Go.RowKit Go.Deep

theorem entersNear : Enters Try.prog 19 := fun args w => by kernel_rfl

/-- Of each quantity there are bits, and they are the nearest. -/
theorem nearest_bits (m : Nat) (h0 : 1 ≤ m) (h : m ≤ 9007199254740992) : ∃ x, Ieee.double.div (Ieee.double.nearest false m 0) 4652007308841189376 = some x ∧ 1 ≤ x ∧ x < 9223372036854775808 ∧ 1 ≤ x / 4503599627370496 ∧ x / 4503599627370496 < 2046 ∧ Near m x := by
  by_cases h1 : m = 9007199254740992
  · subst h1
    exact ⟨_, div_top, by decide, by decide, by decide, by decide, near_top⟩
  · obtain ⟨x, hx, ⟨W⟩⟩ := wrote (m := m) h0 (by omega)
    obtain ⟨h2, h3, h4⟩ := W.small
    unfold expo at h3 h4
    exact ⟨x, hx, by omega, h2, by omega, by omega, W.nearest⟩

theorem cmp_le {a b : Nat} (h : a ≤ b) : ∃ c, cmpN a b = c ∧ c ≤ 0 ∧ (a < b → c < 0) := by
  refine ⟨_, rfl, ?_, ?_⟩
  · unfold cmpN; rw [if_neg (by omega)]; split <;> decide
  · intro h1; unfold cmpN; rw [if_neg (by omega), if_pos h1]; decide

set_option maxRecDepth 100000 in
set_option maxHeartbeats 4000000 in
theorem gaugeNearest_core (m : Int) (w : World) :
    Calls Try.prog 5 #[.int .i64 m] w fun e w' => e = .returned (.bool true) ∧ Below w.heap.size w w' := by
  have hk : ∀ t, (w.alloc (.cells #[.int .i64 m] t)).cell? ⟨w.heap.size, 0, none⟩ = some (.int .i64 m) := fun t => cell_new w _ t 0
  have hb0 : Hid (∀ o, Below w.heap.size w (w.alloc o)) := fun o => (Below.refl _ _).alloc (Nat.le_refl _) _
  by_cases hbad : m < 1 ∨ 9007199254740992 < m
  · rcases (show m < 1 ∨ (1 ≤ m ∧ 9007199254740992 < m) by omega) with h | ⟨h, h'⟩
    all_goals
      clear hbad
      go_enter Try.func5, Try.ntmps5
      go_wp2_with fail
      refine (lives04 _).mono ?_
      rintro e w1 ⟨rfl, hb1⟩
      have k1 := Below.cell_some hb1 (hk _)
      have H1 := Lib.hid ((hb0.out _).trans (hb1.mono (hb0.out _).size))
      clear hb1
      go_wp2_with fail
      refine (lives04 _).mono ?_
      rintro e w2 ⟨rfl, hb2⟩
      have H2 := Lib.hid (H1.out.trans (hb2.mono H1.out.size))
      clear hb2
      go_wp2_with fail
      go_ret
      exact ⟨rfl, H2.out⟩
  · obtain ⟨n, rfl⟩ : ∃ n : Nat, m = n := ⟨m.toNat, by omega⟩
    have hn0 : 1 ≤ n := by omega
    have hn : n ≤ 9007199254740992 := by omega
    obtain ⟨x, hx, hx0, hx1, he0, he1, hnear⟩ := nearest_bits n hn0 hn
    have HW : Hid (∀ w1 : World, _) := fun w1 => write_good n x w1 hn hx
    obtain ⟨nr1, nr2, nr3⟩ := hnear
    obtain ⟨c1, hc1, l1, s1⟩ := cmp_le nr1
    obtain ⟨c2, hc2, l2, s2⟩ := cmp_le nr2
    have odd : x % 2 = 1 → c1 < 0 ∧ c2 < 0 := fun h => ⟨s1 (nr3 h).1, s2 (nr3 h).2⟩
    clear s1 s2 nr1 nr2 nr3
    obtain ⟨A0, hA0⟩ : ∃ A, distOf n x = A := ⟨_, rfl⟩
    obtain ⟨A1, hA1⟩ : ∃ A, distOf n (x - 1) = A := ⟨_, rfl⟩
    obtain ⟨A2, hA2⟩ : ∃ A, distOf n (x + 1) = A := ⟨_, rfl⟩
    have HO0 : Hid (∀ (w1 : World), w1.cell? ⟨w.heap.size, 0, none⟩ = some (.int .i64 (n : Int)) → _) := fun w1 h => off_any n x w.heap.size w1 (by omega) hn h
    have HO1 : Hid (∀ (w1 : World), w1.cell? ⟨w.heap.size, 0, none⟩ = some (.int .i64 (n : Int)) → _) := fun w1 h => off_any n (x - 1) w.heap.size w1 (by omega) hn h
    have HO2 : Hid (∀ (w1 : World), w1.cell? ⟨w.heap.size, 0, none⟩ = some (.int .i64 (n : Int)) → _) := fun w1 h => off_any n (x + 1) w.heap.size w1 (by omega) hn h
    have K0 := Lib.hid (dist_blen n x hn)
    have K1 := Lib.hid (dist_blen n (x - 1) hn)
    have K2 := Lib.hid (dist_blen n (x + 1) hn)
    rw [hA0] at HO0 K0 hc1 hc2
    rw [hA1] at HO1 K1 hc1
    rw [hA2] at HO2 K2 hc2
    rw [show ((x - 1 : Nat) : Int) = (x : Int) - 1 by omega] at HO1
    have HC1 : Hid (∀ v u w1, NumAt w1 v A0 → NumAt w1 u A1 → Calls Try.prog 23 #[v, u] w1 fun e w' => e = .returned (.int .i64 c1) ∧ w1 = w') := by
      intro v u w1 h1 h2
      have := cmp_num v u A0 A1 w1 h1 h2 (Nat.le_trans K0.out (by decide)) (Nat.le_trans K1.out (by decide))
      rw [hc1] at this
      exact this
    have HC2 : Hid (∀ v u w1, NumAt w1 v A0 → NumAt w1 u A2 → Calls Try.prog 23 #[v, u] w1 fun e w' => e = .returned (.int .i64 c2) ∧ w1 = w') := by
      intro v u w1 h1 h2
      have := cmp_num v u A0 A2 w1 h1 h2 (Nat.le_trans K0.out (by decide)) (Nat.le_trans K2.out (by decide))
      rw [hc2] at this
      exact this
    have hlow := and_low x 1 (by omega) (by decide)
    rw [show ((2 ^ 1 : Nat) : Int) - 1 = 1 from rfl, show (2 ^ 1 : Nat) = 2 from rfl] at hlow
    have e0 : ((x : Int) / 4503599627370496 == 0) = false := by rw [beq_eq_false_iff_ne]; omega
    have e1 : (x : Int) / 4503599627370496 < 2046 := by omega
    clear hc1 hc2 hA0 hA1 hA2 hx K0 K1 K2 hbad
    go_enter Try.func5, Try.ntmps5
    go_wp2_with fail
    refine (lives04 _).mono ?_
    rintro e w1 ⟨rfl, hb1⟩
    have k1 := Below.cell_some hb1 (hk _)
    have H1 := Lib.hid ((hb0.out _).trans (hb1.mono (hb0.out _).size))
    clear hb1
    go_wp2_with fail
    refine (HW.out w1).mono ?_
    rintro e w2 ⟨rfl, rfl⟩
    go_wp2_with fail
    refine (HO0.out w1 k1).mono ?_
    rintro e w2 ⟨⟨v0, rfl, n0⟩, b0⟩
    have k2 := Below.cell_some b0 k1
    have H2 := Lib.hid (H1.out.trans (b0.mono H1.out.size))
    have N0 := Lib.hid n0
    clear b0 n0 k1
    go_wp2_with fail
    refine (HO1.out w2 k2).mono ?_
    rintro e w3 ⟨⟨v1, rfl, n1⟩, b1⟩
    have k3 := Below.cell_some b1 k2
    have H3 := Lib.hid (H2.out.trans (b1.mono H2.out.size))
    have N1 := Lib.hid n1
    have N0' := Lib.hid (N0.out.below b1)
    clear b1 n1 k2
    go_wp2_with fail
    refine (HO2.out w3 k3).mono ?_
    rintro e w4 ⟨⟨v2, rfl, n2⟩, b2⟩
    have H4 := Lib.hid (H3.out.trans (b2.mono H3.out.size))
    have N2 := Lib.hid n2
    have N1' := Lib.hid (N1.out.below b2)
    have N0'' := Lib.hid (N0'.out.below b2)
    have G1 := Lib.hid (HC1.out v0 v1 w4 N0''.out N1'.out)
    have G2 := Lib.hid (HC2.out v0 v2 w4 N0''.out N2.out)
    clear b2 n2 k3
    by_cases hodd : x % 2 = 1
    · obtain ⟨o1, o2⟩ := odd hodd
      have q : (((x % 2 : Nat) : Int) == 0) = false := by rw [hodd]; rfl
      rw [hodd] at hlow
      clear odd hodd
      go_wp2_with fail
      refine G1.out.mono ?_
      rintro e w5 ⟨rfl, rfl⟩
      go_wp2_with fail
      refine G2.out.mono ?_
      rintro e w5 ⟨rfl, rfl⟩
      go_wp2_with fail
      refine G1.out.mono ?_
      rintro e w5 ⟨rfl, rfl⟩
      go_wp2_with fail
      refine G2.out.mono ?_
      rintro e w5 ⟨rfl, rfl⟩
      go_wp2_with fail
      go_ret
      exact ⟨rfl, H4.out⟩
    · have hev : x % 2 = 0 := by omega
      rw [hev] at hlow
      clear odd hodd hev
      go_wp2_with fail
      refine G1.out.mono ?_
      rintro e w5 ⟨rfl, rfl⟩
      go_wp2_with fail
      refine G2.out.mono ?_
      rintro e w5 ⟨rfl, rfl⟩
      go_wp2_with fail
      go_ret
      exact ⟨rfl, H4.out⟩

theorem GaugeNearest_holds : Rows.GaugeNearestSaid := lGaugeNearest.over fun n w _ => gaugeNearest_core n w
end Go.Proofs.Ytjbmhmiaecakoaa
