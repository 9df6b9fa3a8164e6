/- The contract of gauge.Read: it answers as the document's bits. Condition: the word is of 64 bits. -/
import Derived.Test.YtoamjihchmokcaaGauge3M
namespace Go.Proofs.Ytoamjihchmokcaa
open Go.ChangeShapes Go.WideShapes Go.ChangeAt Go.RowKit Go.Deep

theorem quoR_one (u : Nat) : quoR u 1 = u := by
  unfold quoR
  rw [if_neg (by omega), Nat.div_one]

theorem quoR_far {u n : Nat} (hu : u < 9223372036854775808) (hn : 63 < n) : quoR u (2 ^ n) = 0 := by
  have h : 2 ^ 64 ≤ 2 ^ n := Nat.pow_le_pow_right (by decide) hn
  have h2 : (2 : Nat) ^ 64 = 18446744073709551616 := by decide
  obtain ⟨t, ht⟩ : ∃ t, 2 ^ n = t := ⟨_, rfl⟩
  rw [ht] at h ⊢
  unfold quoR
  rw [Nat.div_eq_of_lt (by omega), Nat.mod_eq_of_lt (by omega), if_neg (by omega)]

theorem quoR_halved (u : Nat) {n : Nat} (hn : 1 ≤ n) : quoR u (2 ^ n) = halvedOf u n := by
  have h : 2 ^ n = 2 * 2 ^ (n - 1) := by
    rw [Nat.mul_comm, ← Nat.pow_succ]
    congr 1
    omega
  have hp := Nat.two_pow_pos (n - 1)
  unfold quoR halvedOf
  rw [h]
  obtain ⟨t, ht⟩ : ∃ t, 2 ^ (n - 1) = t := ⟨_, rfl⟩
  rw [ht] at hp ⊢
  by_cases hc : 2 * t < u % (2 * t) + u % (2 * t) ∨ (u % (2 * t) + u % (2 * t) = 2 * t ∧ u / (2 * t) % 2 = 1)
  · rw [if_pos hc, if_pos (by omega)]
  · rw [if_neg hc, if_neg (by omega)]

def digitsOf (x : Nat) : Nat := if expo x = 0 then frac x else frac x + 4503599627370496
def downOf (x : Nat) : Nat := 1075 - (if expo x = 0 then 1 else expo x)

theorem refOf_late {x : Nat} (hx : x < 9223372036854775808) (he : expo x < 2047) :
    refOf x = if 1075 ≤ expo x then (0, 3) else quoOf (if 63 < downOf x then 0 else halvedOf (digitsOf x * 1000) (downOf x)) := by
  have hf : frac x < 4503599627370496 := Nat.mod_lt _ (by decide)
  have hd : digitsOf x < 9007199254740992 := by unfold digitsOf; split <;> omega
  unfold refOf
  rw [if_neg (by omega), if_neg (by omega), if_neg (by omega)]
  by_cases h : expo x < 1075
  · rw [if_pos h, if_neg (show ¬ 1075 ≤ expo x by omega), ← digitsOf, ← downOf]
    have h1 : 1 ≤ downOf x := by unfold downOf; split <;> omega
    by_cases h2 : 63 < downOf x
    · rw [if_pos h2, quoR_far (by omega) h2]
    · rw [if_neg h2, quoR_halved _ h1]
  · rw [if_neg h, if_pos (by omega), quoR_one]
    unfold quoOf
    have hp := Nat.two_pow_pos (expo x - 1075)
    have : 4503599627370496 * 1000 * 1 ≤ (frac x + 4503599627370496) * 1000 * 2 ^ (expo x - 1075) := Nat.mul_le_mul (by omega) hp
    rw [if_pos (by omega)]

theorem parts_eq {x : Nat} (hx : x < 9223372036854775808) : partsOf x = (digitsOf x, if expo x = 0 then (-1074 : Int) else ((expo x : Nat) : Int) - 1075) := by
  have h : x / 4503599627370496 = expo x := by unfold expo; omega
  unfold partsOf digitsOf
  rw [h]
  by_cases h0 : expo x = 0
  · rw [if_pos h0, if_pos h0, if_pos h0]; rfl
  · rw [if_neg h0, if_neg h0, if_neg h0]; rfl

set_option maxRecDepth 100000 in
set_option maxHeartbeats 2000000 in
theorem read_late (x : Nat) (w : World) (hx : x ≤ 4845873199050653696) (hT : Tests x false false false false false) :
    Calls Try.prog 15 #[.int .u64 x] w fun e w' => e = .returned (.tuple #[.int .i64 (refOf x).1, .int .i64 (refOf x).2]) ∧ Below w.heap.size w w' := by
  have hex : expo x ≤ 1076 := by unfold expo; omega
  have hf : frac x < 4503599627370496 := Nat.mod_lt _ (by decide)
  have hd : digitsOf x < 9007199254740992 := by unfold digitsOf; split <;> omega
  have hR := refOf_late (x := x) (by omega) (by omega)
  have hF := run_frombits x
  have hN := isNaN_any x w
  rw [hT.nan] at hN
  have hI := isInf_any x w (by omega)
  rw [hT.inf] at hI
  have HN := Lib.hid hN
  have HI := Lib.hid hI
  have h3 := hT.neg
  have h4 := hT.top
  have h5 := hT.zero
  have hP := parts_any x w (by omega)
  rw [parts_eq (by omega)] at hP
  have hbig : 1075 ≤ expo x → 4503599627370496 ≤ digitsOf x := by intro h; unfold digitsOf; rw [if_neg (by omega)]; omega
  have hdn : downOf x = 1075 - (if expo x = 0 then 1 else expo x) := rfl
  obtain ⟨D, hD⟩ : ∃ D, digitsOf x = D := ⟨_, rfl⟩
  rw [hD] at hR hP hd hbig
  clear hN hI hT hD
  rcases (show expo x < 1075 ∨ expo x = 1075 ∨ expo x = 1076 by omega) with hE | hE | hE
  · have hR2 : Hid (refOf x = quoOf (if 63 < downOf x then 0 else halvedOf (D * 1000) (downOf x))) := hR.trans (if_neg (by omega))
    have he2 : (if expo x = 0 then (-1074 : Int) else ((expo x : Nat) : Int) - 1075) = -((downOf x : Nat) : Int) := by
      rw [hdn]; split <;> omega
    have hn1 : 1 ≤ downOf x ∧ downOf x ≤ 1074 := by rw [hdn]; split <;> omega
    rw [he2] at hP
    obtain ⟨n, hn⟩ : ∃ n, downOf x = n := ⟨_, rfl⟩
    rw [hn] at hP hR2 hn1
    have HP := Lib.hid hP
    clear hR hP hbig hdn he2 hn hE hex hf
    have hneg : -((n : Nat) : Int) < 0 := by omega
    by_cases hfar : 63 < n
    · have hR3 : Hid (refOf x = quoOf 0) := by have := hR2.out; rw [if_pos hfar] at this; exact this
      have HH := Lib.hid (halved_far (D * 1000) (n : Int) w (by omega))
      clear hR2 hfar
      go_enter Try.func15, Try.ntmps15
      go_wp2_with fail
      refine HN.out.mono ?_
      rintro e w1 ⟨rfl, rfl⟩
      go_wp2_with fail
      refine HI.out.mono ?_
      rintro e w1 ⟨rfl, rfl⟩
      go_wp2_with fail
      refine HP.out.mono ?_
      rintro e w1 ⟨rfl, rfl⟩
      go_wp2_with fail
      refine HH.out.mono ?_
      rintro e w1 ⟨rfl, hb1⟩
      have Hb1 := Lib.hid hb1
      clear hb1
      go_wp2_with fail
      go_ret2
      exact ⟨by rw [hR3.out]; rfl, Hb1.out⟩
    · have hR3 : Hid (refOf x = quoOf (halvedOf (D * 1000) n)) := by have := hR2.out; rw [if_neg hfar] at this; exact this
      have HH := Lib.hid (halved_any (D * 1000) n w (by omega) (by omega) (by omega))
      have hle : halvedOf (D * 1000) n ≤ D * 1000 + 1 := by
        unfold halvedOf
        have := Nat.div_le_self (D * 1000) (2 ^ n)
        split <;> omega
      obtain ⟨q, hq⟩ : ∃ q, halvedOf (D * 1000) n = q := ⟨_, rfl⟩
      rw [hq] at hR3 HH hle
      clear hR2 hfar hq
      by_cases hb : 9007199254740992 < q
      · have hR4 := Lib.hid (hR3.out.trans (if_pos hb))
        go_enter Try.func15, Try.ntmps15
        go_wp2_with fail
        refine HN.out.mono ?_
        rintro e w1 ⟨rfl, rfl⟩
        go_wp2_with fail
        refine HI.out.mono ?_
        rintro e w1 ⟨rfl, rfl⟩
        go_wp2_with fail
        refine HP.out.mono ?_
        rintro e w1 ⟨rfl, rfl⟩
        go_wp2_with fail
        refine HH.out.mono ?_
        rintro e w1 ⟨rfl, hb1⟩
        have Hb1 := Lib.hid hb1
        clear hb1
        go_wp2_with fail
        go_ret2
        exact ⟨by rw [hR4.out]; rfl, Hb1.out⟩
      · have hR4 := Lib.hid (hR3.out.trans (if_neg hb))
        go_enter Try.func15, Try.ntmps15
        go_wp2_with fail
        refine HN.out.mono ?_
        rintro e w1 ⟨rfl, rfl⟩
        go_wp2_with fail
        refine HI.out.mono ?_
        rintro e w1 ⟨rfl, rfl⟩
        go_wp2_with fail
        refine HP.out.mono ?_
        rintro e w1 ⟨rfl, rfl⟩
        go_wp2_with fail
        refine HH.out.mono ?_
        rintro e w1 ⟨rfl, hb1⟩
        have Hb1 := Lib.hid hb1
        clear hb1
        go_wp2_with fail
        go_ret2
        exact ⟨by rw [hR4.out]; rfl, Hb1.out⟩
  · have hR2 : Hid (refOf x = (0, 3)) := hR.trans (if_pos (by omega))
    have he2 : (if expo x = 0 then (-1074 : Int) else ((expo x : Nat) : Int) - 1075) = 0 := by rw [if_neg (by omega)]; omega
    rw [he2] at hP
    have HP := Lib.hid hP
    have hlo := hbig (by omega)
    have HW := Lib.hid (wideOf_one (D * 1000) w (by omega))
    clear hR hP hbig hdn he2 hE hex hf
    go_enter Try.func15, Try.ntmps15
    go_wp2_with fail
    refine HN.out.mono ?_
    rintro e w1 ⟨rfl, rfl⟩
    go_wp2_with fail
    refine HI.out.mono ?_
    rintro e w1 ⟨rfl, rfl⟩
    go_wp2_with fail
    refine HP.out.mono ?_
    rintro e w1 ⟨rfl, rfl⟩
    go_wp2_with fail
    refine HW.out.mono ?_
    rintro e w1 ⟨rfl, hb1⟩
    have Hb1 := Lib.hid (hb1.alloc hb1.size (.cells #[.int .u64 0, .int .u64 ((D : Int) * 1000)] 87))
    clear hb1
    go_wp2_with fail
    go_ret2
    exact ⟨by rw [hR2.out]; rfl, Hb1.out⟩
  · have hR2 : Hid (refOf x = (0, 3)) := hR.trans (if_pos (by omega))
    have he2 : (if expo x = 0 then (-1074 : Int) else ((expo x : Nat) : Int) - 1075) = 1 := by rw [if_neg (by omega)]; omega
    rw [he2] at hP
    have HP := Lib.hid hP
    have hlo := hbig (by omega)
    have HW := Lib.hid (wideOf_two (D * 1000) w (by omega))
    clear hR hP hbig hdn he2 hE hex hf
    go_enter Try.func15, Try.ntmps15
    go_wp2_with fail
    refine HN.out.mono ?_
    rintro e w1 ⟨rfl, rfl⟩
    go_wp2_with fail
    refine HI.out.mono ?_
    rintro e w1 ⟨rfl, rfl⟩
    go_wp2_with fail
    refine HP.out.mono ?_
    rintro e w1 ⟨rfl, rfl⟩
    go_wp2_with fail
    refine HW.out.mono ?_
    rintro e w1 ⟨rfl, hb1⟩
    have Hb1 := Lib.hid (hb1.alloc hb1.size (.cells #[.int .u64 0, .int .u64 ((D : Int) * 1000 * 2)] 87))
    clear hb1
    go_wp2_with fail
    go_ret2
    exact ⟨by rw [hR2.out]; rfl, Hb1.out⟩

theorem tests_nan {x : Nat} (hx : x < 18446744073709551616) (he : expo x = 2047) (hf : frac x ≠ 0) : ∃ b c d f, Tests x true b c d f := by
  obtain ⟨s, t, h⟩ := read_nan x hx he hf
  exact ⟨_, _, _, _, ⟨by rw [order_nan h]; rfl, rfl, rfl, rfl, rfl⟩⟩

theorem tests_inf {x : Nat} (hx : x < 18446744073709551616) (he : expo x = 2047) (hf : frac x = 0) : ∃ c d f, Tests x false true c d f := by
  refine ⟨_, _, _, ⟨by rw [order_self hx (.inr hf)]; rfl, ?_, rfl, rfl, rfl⟩⟩
  have h1 : x % 9223372036854775808 = 9218868437227405312 := by unfold expo at he; unfold frac at hf; omega
  rw [h1]
  rfl

theorem low_parts (x : Nat) : expo (x % 9223372036854775808) = expo x ∧ frac (x % 9223372036854775808) = frac x := by
  unfold expo frac
  omega

theorem tests_fin {x : Nat} (hx : x < 18446744073709551616) (he : expo x < 2047) : ∃ d, Tests x false false (decide (9223372036854775808 < x)) d (decide (x % 9223372036854775808 = 0)) ∧ (x < 9223372036854775808 → d = decide (4845873199050653696 < x)) ∧ (x = 9223372036854775808 → d = false) := by
  have hz := order_zero hx he
  refine ⟨_, ⟨by rw [order_self hx (.inl he)]; rfl, order_max (by rw [(low_parts x).1]; exact he) (Nat.mod_lt _ (by decide)), ?_, rfl, ?_⟩, fun h => order_top he h, fun h => by rw [h]; rfl⟩
  · show (Ieee.double.order x 0 == some .lt) = _
    rw [hz]
    by_cases h0 : x % 9223372036854775808 = 0
    · rw [if_pos h0, decide_eq_false (by omega)]; rfl
    · rw [if_neg h0]
      by_cases h1 : x < 9223372036854775808
      · rw [if_pos h1, decide_eq_false (by omega)]; rfl
      · rw [if_neg h1, decide_eq_true (by omega)]; rfl
  · show (Ieee.double.order x 0 == some .eq) = _
    rw [hz]
    by_cases h0 : x % 9223372036854775808 = 0
    · rw [if_pos h0, decide_eq_true h0]; rfl
    · rw [if_neg h0, decide_eq_false h0]
      by_cases h1 : x < 9223372036854775808
      · rw [if_pos h1]; rfl
      · rw [if_neg h1]; rfl

theorem read_any (x : Nat) (w : World) (hx : x < 18446744073709551616) :
    Calls Try.prog 15 #[.int .u64 x] w fun e w' => e = .returned (.tuple #[.int .i64 (refOf x).1, .int .i64 (refOf x).2]) ∧ Below w.heap.size w w' := by
  have hel : expo x < 2048 := Nat.mod_lt _ (by decide)
  have up : ∀ r : Int, refOf x = (0, r) → (Calls Try.prog 15 #[.int .u64 x] w fun e w' => e = .returned (.tuple #[.int .i64 0, .int .i64 r]) ∧ w = w') →
      Calls Try.prog 15 #[.int .u64 x] w fun e w' => e = .returned (.tuple #[.int .i64 (refOf x).1, .int .i64 (refOf x).2]) ∧ Below w.heap.size w w' := by
    intro r hr h
    refine h.mono fun e w' ⟨h1, h2⟩ => ⟨by rw [hr]; exact h1, by rw [← h2]; exact Below.refl _ _⟩
  by_cases he : expo x = 2047
  · by_cases hf : frac x = 0
    · obtain ⟨c, d, f, hT⟩ := tests_inf hx he hf
      have hne : x ≠ 9223372036854775808 := by intro e; rw [e] at he; revert he; decide
      exact up 3 (by unfold refOf; rw [if_neg (by omega), if_neg hne, if_pos (.inl he)]) (read_early x w hx _ _ _ _ _ 3 hT (.inr (.inl ⟨rfl, .inl rfl, rfl⟩)))
    · obtain ⟨b, c, d, f, hT⟩ := tests_nan hx he hf
      exact up 2 (by unfold refOf; rw [if_pos ⟨he, hf⟩]) (read_early x w hx _ _ _ _ _ 2 hT (.inl ⟨rfl, rfl⟩))
  · obtain ⟨d, hT, hd1, hd2⟩ := tests_fin hx (by omega)
    by_cases hneg : 9223372036854775808 < x
    · rw [decide_eq_true hneg] at hT
      exact up 3 (by unfold refOf; rw [if_neg (by omega), if_neg (by omega), if_pos (.inr (by omega))]) (read_early x w hx _ _ _ _ _ 3 hT (.inr (.inl ⟨rfl, .inr ⟨rfl, .inl rfl⟩, rfl⟩)))
    · rw [decide_eq_false hneg] at hT
      by_cases h0 : x % 9223372036854775808 = 0
      · rw [decide_eq_true h0] at hT
        have hd : d = false := by
          rcases (show x = 0 ∨ x = 9223372036854775808 by omega) with h | h
          · rw [hd1 (by omega), h]; rfl
          · exact hd2 h
        rw [hd] at hT
        refine up 0 ?_ (read_early x w hx _ _ _ _ _ 0 hT (.inr (.inr ⟨rfl, rfl, rfl, rfl, rfl, rfl⟩)))
        rcases (show x = 0 ∨ x = 9223372036854775808 by omega) with h | h
        · rw [h]; decide +kernel
        · rw [h]; decide +kernel
      · rw [decide_eq_false h0] at hT
        have hlt : x < 9223372036854775808 := by omega
        have hd := hd1 hlt
        by_cases htop : 4845873199050653696 < x
        · rw [hd, decide_eq_true htop] at hT
          refine up 3 ?_ (read_early x w hx _ _ _ _ _ 3 hT (.inr (.inl ⟨rfl, .inr ⟨rfl, .inr ⟨rfl, rfl⟩⟩, rfl⟩)))
          rw [refOf_late hlt (by omega), if_pos (by unfold expo; omega)]
        · rw [hd, decide_eq_false htop] at hT
          exact read_late x w (by omega) hT
end Go.Proofs.Ytoamjihchmokcaa
