/- The contract of the statements' own 'read': a sample's quantity, on bits. Condition: the sample is of 64 bits. -/
import Derived.Test.YteolfpgdpajldaaBits6
import Derived.Test.YteolfpgdpajldaaBits5
import Derived.Test.YteolfpgdpajldaaFloat
namespace Go.Proofs.Yteolfpgdpajldaa
open Go.ChangeShapes Go.WideShapes Go.ChangeAt Go.RowKit Go.Deep

/-- A quotient, to the nearest, of two to the even one. -/
def quoR (up down : Nat) : Nat := if down < up % down + up % down ∨ (up % down + up % down = down ∧ up / down % 2 = 1) then up / down + 1 else up / down

def quoOf (q : Nat) : Nat × Int := if 9007199254740992 < q then (0, 3) else (q, 0)

def refOf (x : Nat) : Nat × Int :=
  if expo x = 2047 ∧ frac x ≠ 0 then (0, 2) else if x = 9223372036854775808 then (0, 0) else if expo x = 2047 ∨ 9223372036854775808 ≤ x then (0, 3)
  else if expo x < 1075 then quoOf (quoR ((if expo x = 0 then frac x else frac x + 4503599627370496) * 1000) (2 ^ (1075 - (if expo x = 0 then 1 else expo x))))
  else quoOf (quoR ((frac x + 4503599627370496) * 1000 * 2 ^ (expo x - 1075)) 1)

set_option maxRecDepth 100000 in
set_option maxHeartbeats 1000000 in
/-- The ways without a reckoning. -/
theorem ref_early (x : Nat) (w : World) (hx : x < 18446744073709551616) (h : (expo x = 2047) ∨ 9223372036854775808 ≤ x) :
    Calls Try.prog 6 #[.int .u64 x] w fun e w' => e = .returned (.tuple #[.int .i64 (refOf x).1, .int .i64 (refOf x).2]) ∧ w = w' := by
  have hT : Hid (refOf x = if expo x = 2047 ∧ frac x ≠ 0 then (0, 2) else if x = 9223372036854775808 then (0, 0) else (0, 3)) := by
    show _ = _
    unfold refOf
    rw [if_pos h]
  have he : (x : Int) / 4503599627370496 % 2048 = (expo x : Int) := by unfold expo; omega
  have hf : (x : Int) % 4503599627370496 = (frac x : Int) := by unfold frac; omega
  have hfl : frac x < 4503599627370496 := Nat.mod_lt _ (by decide)
  have hel : expo x < 2048 := Nat.mod_lt _ (by decide)
  have hc : expo x = 2047 ∧ frac x ≠ 0 → x ≠ 9223372036854775808 := by unfold expo frac; omega
  obtain ⟨E, hE⟩ : ∃ E, expo x = E := ⟨_, rfl⟩
  obtain ⟨F, hF⟩ : ∃ F, frac x = F := ⟨_, rfl⟩
  rw [hE] at hT he hel h hc
  rw [hF] at hT hf hfl hc
  clear hE hF hc
  rcases (show (E = 2047 ∧ F ≠ 0) ∨ (¬ (E = 2047 ∧ F ≠ 0) ∧ x = 9223372036854775808) ∨ (E = 2047 ∧ F = 0 ∧ x ≠ 9223372036854775808) ∨ (E ≠ 2047 ∧ x ≠ 9223372036854775808 ∧ 9223372036854775808 ≤ x) by omega) with ⟨h1, h2⟩ | ⟨h1, h2⟩ | ⟨h1, h2, h3⟩ | ⟨h1, h2, h3⟩
  · have HT := Lib.hid (hT.out.trans (if_pos ⟨h1, h2⟩))
    have d1 : ((E : Int) == 2047) = true := by rw [h1]; rfl
    have d2 : ((F : Int) == 0) = false := by rw [beq_eq_false_iff_ne]; omega
    have d3 : ((F : Int) != 0) = true := by rw [bne_iff_ne]; omega
    clear hT h1 h2 h
    go_enter Try.func6, Try.ntmps6
    go_wp2_with fail
    go_ret2
    exact ⟨by rw [HT.out]; rfl, rfl⟩
  · have HT := Lib.hid (hT.out.trans ((if_neg h1).trans (if_pos h2)))
    subst h2
    by_cases hE : E = 2047
    · have hF0 : F = 0 := by omega
      have d1 : ((E : Int) == 2047) = true := by rw [hE]; rfl
      have d2 : ((F : Int) != 0) = false := by rw [hF0]; rfl
      clear hT h1 h hE hF0
      go_enter Try.func6, Try.ntmps6
      go_wp2_with fail
      go_ret2
      exact ⟨by rw [HT.out]; rfl, rfl⟩
    · have d1 : ((E : Int) == 2047) = false := by rw [beq_eq_false_iff_ne]; omega
      clear hT h1 h hE
      go_enter Try.func6, Try.ntmps6
      go_wp2_with fail
      go_ret2
      exact ⟨by rw [HT.out]; rfl, rfl⟩
  · have HT := Lib.hid (hT.out.trans ((if_neg (by omega)).trans (if_neg h3)))
    have d1 : ((E : Int) == 2047) = true := by rw [h1]; rfl
    have d2 : ((F : Int) != 0) = false := by rw [h2]; rfl
    have d3 : ((x : Int) == 9223372036854775808) = false := by rw [beq_eq_false_iff_ne]; omega
    clear hT h1 h2 h3 h
    go_enter Try.func6, Try.ntmps6
    go_wp2_with fail
    go_ret2
    exact ⟨by rw [HT.out]; rfl, rfl⟩
  · have HT := Lib.hid (hT.out.trans ((if_neg (by omega)).trans (if_neg h2)))
    have d1 : ((E : Int) == 2047) = false := by rw [beq_eq_false_iff_ne]; omega
    have d3 : ((x : Int) == 9223372036854775808) = false := by rw [beq_eq_false_iff_ne]; omega
    have d4 : (x : Int) / 9223372036854775808 = 1 := by omega
    clear hT h1 h2 h3 h
    go_enter Try.func6, Try.ntmps6
    go_wp2_with fail
    go_ret2
    exact ⟨by rw [HT.out]; rfl, rfl⟩

theorem bits_head {w : World} {v : Value} {q : Nat} (h : NumAt w v q) (h0 : 0 < q) : ∃ b off len cap, v = .slice (some ⟨b, off, none⟩) len cap ∧ 0 < len ∧ w.cell? ⟨b, off, none⟩ = some (.int .u8 ((q % 2 : Nat) : Int)) := by
  obtain ⟨a, len, cap, rfl, hB⟩ := h
  have hl := hB.read.hlen
  rw [bitsOf_pos h0] at hl
  simp at hl
  obtain ⟨b, off, hbo⟩ := hB.read.ptr (by decide) (by omega)
  obtain rfl := Option.some.inj hbo
  have := hB.cell (i := 0) (by omega)
  rw [bitsOf_pos h0] at this
  exact ⟨b, off, len, cap, rfl, by omega, this⟩

theorem bits_none {w : World} {v : Value} (h : NumAt w v 0) : ∃ a cap, v = .slice (some a) 0 cap := by
  obtain ⟨a, len, cap, rfl, hB⟩ := h
  have hl := hB.read.hlen
  rw [bitsOf_zero] at hl
  exact ⟨a, cap, by rw [← hl]; rfl⟩

set_option maxRecDepth 100000 in
set_option maxHeartbeats 4000000 in
/-- The reckoning. -/
theorem ref_late (x : Nat) (w : World) (hx : x < 9223372036854775808) (hex : expo x < 2047) :
    Calls Try.prog 6 #[.int .u64 x] w fun e w' => e = .returned (.tuple #[.int .i64 (refOf x).1, .int .i64 (refOf x).2]) ∧ Below w.heap.size w w' := by
  have he : (x : Int) / 4503599627370496 % 2048 = (expo x : Int) := by unfold expo; omega
  have hf : (x : Int) % 4503599627370496 = (frac x : Int) := by unfold frac; omega
  have hfl : frac x < 4503599627370496 := Nat.mod_lt _ (by decide)
  have hT : Hid (refOf x = if expo x < 1075 then quoOf (quoR ((if expo x = 0 then frac x else frac x + 4503599627370496) * 1000) (2 ^ (1075 - (if expo x = 0 then 1 else expo x))))
      else quoOf (quoR ((frac x + 4503599627370496) * 1000 * 2 ^ (expo x - 1075)) 1)) := by
    show _ = _
    unfold refOf
    rw [if_neg (by omega), if_neg (by omega), if_neg (by omega)]
  obtain ⟨E, hE⟩ : ∃ E, expo x = E := ⟨_, rfl⟩
  obtain ⟨F, hF⟩ : ∃ F, frac x = F := ⟨_, rfl⟩
  rw [hE] at hT he hex
  rw [hF] at hT hf hfl
  clear hE hF
  have d1 : ((E : Int) == 2047) = false := by rw [beq_eq_false_iff_ne]; omega
  have d3 : ((x : Int) == 9223372036854775808) = false := by rw [beq_eq_false_iff_ne]; omega
  have d4 : ((x : Int) / 9223372036854775808 == 1) = false := by rw [beq_eq_false_iff_ne]; omega
  obtain ⟨E1, hE1⟩ : ∃ E1, (if E = 0 then 1 else E) = E1 := ⟨_, rfl⟩
  obtain ⟨M, hM⟩ : ∃ M, (if E = 0 then F else F + 4503599627370496) = M := ⟨_, rfl⟩
  have hT2 : Hid (refOf x = if E1 < 1075 then quoOf (quoR (M * 1000) (2 ^ (1075 - E1))) else quoOf (quoR (M * 1000 * 2 ^ (E1 - 1075)) 1)) := by
    show _ = _
    rw [hT.out, hE1, hM]
    by_cases h0 : E = 0
    · rw [if_pos h0] at hE1
      rw [if_pos (by omega), if_pos (by omega)]
    · rw [if_neg h0] at hE1 hM
      rw [hE1, hM]
  have hE2 : 1 ≤ E1 ∧ E1 < 2047 := by rw [← hE1]; split <;> omega
  have hM2 : M < 9007199254740992 := by rw [← hM]; split <;> omega
  have HE1 := Lib.hid hE1
  have HM := Lib.hid hM
  have hMb : blen M ≤ 53 := blen_le (by simpa using hM2)
  clear hE1 hM hT
  go_enter Try.func6, Try.ntmps6
  go_upto_if 39 with (fail)
  go_cut [4, 5] (fun s4 s5 wx => s4 = .int .i64 E1 ∧ s5 = .int .u64 M ∧ w = wx)
  case first =>
    by_cases h0 : E = 0
    · have hE0 := h0
      have q1 : E1 = 1 := by rw [← HE1.out, if_pos h0]
      have q2 : M = F := by rw [← HM.out, if_pos h0]
      have Q1 := Lib.hid q1
      have Q2 := Lib.hid q2
      clear h0 q1 q2
      subst hE0
      go_wp2_with fail
      go_meet
      exact ⟨by rw [Q1.out]; rfl, by rw [Q2.out], rfl⟩
    · have q : 0 < E := by omega
      have q1 : E1 = E := by rw [← HE1.out, if_neg h0]
      have q2 : M = F + 4503599627370496 := by rw [← HM.out, if_neg h0]
      have Q1 := Lib.hid q1
      have Q2 := Lib.hid q2
      clear h0 q1 q2
      go_wp2_with fail
      go_meet
      exact ⟨by rw [Q1.out], by rw [Q2.out]; rfl, rfl⟩
  case rest =>
    obtain ⟨rfl, rfl, rfl⟩ := hcut
    go_wp2_with fail
    refine (of_any01 M w (by omega)).mono ?_
    rintro e w1 ⟨⟨v1, rfl, n1⟩, b1⟩
    have N1 := Lib.hid n1
    have B1 := Lib.hid b1
    clear n1 b1
    go_wp2_with fail
    refine (of_any01 1000 w1 (by decide)).mono ?_
    rintro e w2 ⟨⟨v2, rfl, n2⟩, b2⟩
    have HM1 := Lib.hid (mul_num v1 v2 M 1000 w2 (N1.out.below b2) n2 (by omega) (by have := blen_le (n := 1000) (k := 10) (by decide); omega))
    have B2 := Lib.hid (B1.out.trans (b2.mono B1.out.size))
    clear n2 b2
    go_wp2_with fail
    refine HM1.out.mono ?_
    rintro e w3 ⟨⟨v3, rfl, n3⟩, b3⟩
    have B3 := Lib.hid (B2.out.trans (b3.mono B2.out.size))
    have N3 := Lib.hid n3
    clear n3 b3
    go_wp2_with fail
    refine (of_any01 1 w3 (by decide)).mono ?_
    rintro e w4 ⟨⟨v4, rfl, n4⟩, b4⟩
    have B4 := Lib.hid (B3.out.trans (b4.mono B3.out.size))
    have N4 := Lib.hid n4
    have N5 := Lib.hid (N3.out.below b4)
    clear n4 b4
    go_upto_if 48 with (fail)
    go_cut [6, 7] (fun s6 s7 wx => Hid (NumAt wx s6 (M * 1000 * 2 ^ (E1 - 1075)) ∧ NumAt wx s7 (2 ^ (1075 - E1)) ∧ Below w.heap.size w wx))
    case first =>
      by_cases hge : 1075 ≤ E1
      · have HP : Hid (∀ wx, Calls Try.prog 21 #[.int .i64 ((E1 : Int) - 1075)] wx fun e w' => (∃ v, e = .returned v ∧ NumAt w' v (2 ^ (E1 - 1075))) ∧ Below wx.heap.size wx w') := by
          intro wx
          have := power_any (E1 - 1075) wx (by omega)
          rw [show (((E1 - 1075 : Nat)) : Int) = (E1 : Int) - 1075 from by omega] at this
          exact this
        go_wp2_with fail
        refine (HP.out _).mono ?_
        rintro e w5 ⟨⟨v5, rfl, n5⟩, b5⟩
        have HM2 := Lib.hid (mul_num v3 v5 (M * 1000) _ w5 (N5.out.below b5) n5 (by have := blen_mul M 1000; have := blen_le (n := 1000) (k := 10) (by decide); omega) (by
          have h1 : 2 ^ (E1 - 1075) < 2 ^ (E1 - 1075 + 1) := by rw [Nat.pow_succ]; have := Nat.two_pow_pos (E1 - 1075); omega
          have := blen_le h1; omega))
        have B5 := Lib.hid (B4.out.trans (b5.mono B4.out.size))
        have N4' := Lib.hid (N4.out.below b5)
        clear n5 b5
        go_wp2_with fail
        refine HM2.out.mono ?_
        rintro e w6 ⟨⟨v6, rfl, n6⟩, b6⟩
        have N6 := Lib.hid n6
        have N4'' := Lib.hid (N4'.out.below b6)
        have B6 := Lib.hid (B5.out.trans (b6.mono B5.out.size))
        clear n6 b6
        go_wp2_with fail
        go_meet
        exact ⟨N6.out, by rw [show 1075 - E1 = 0 from by omega]; exact N4''.out, B6.out⟩
      · have HP : Hid (∀ wx, Calls Try.prog 21 #[.int .i64 (1075 - (E1 : Int))] wx fun e w' => (∃ v, e = .returned v ∧ NumAt w' v (2 ^ (1075 - E1))) ∧ Below wx.heap.size wx w') := by
          intro wx
          have := power_any (1075 - E1) wx (by omega)
          rw [show (((1075 - E1 : Nat)) : Int) = 1075 - (E1 : Int) from by omega] at this
          exact this
        go_wp2_with fail
        refine (HP.out _).mono ?_
        rintro e w5 ⟨⟨v5, rfl, n5⟩, b5⟩
        have N6 := Lib.hid n5
        have N5' := Lib.hid (N5.out.below b5)
        have B5 := Lib.hid (B4.out.trans (b5.mono B4.out.size))
        clear n5 b5
        go_wp2_with fail
        go_meet
        exact ⟨by rw [show E1 - 1075 = 0 from by omega, Nat.pow_zero, Nat.mul_one]; exact N5'.out, N6.out, B5.out⟩
    case rest =>
      have hT3 : Hid (refOf x = quoOf (quoR (M * 1000 * 2 ^ (E1 - 1075)) (2 ^ (1075 - E1)))) := by
        show _ = _
        rw [hT2.out]
        by_cases h : E1 < 1075
        · rw [if_pos h, show E1 - 1075 = 0 from by omega, Nat.pow_zero, Nat.mul_one]
        · rw [if_neg h, show 1075 - E1 = 0 from by omega, Nat.pow_zero]
      have hup : blen (M * 1000 * 2 ^ (E1 - 1075)) ≤ 3000 := by
        have h1 : 2 ^ (E1 - 1075) < 2 ^ (E1 - 1075 + 1) := by rw [Nat.pow_succ]; have := Nat.two_pow_pos (E1 - 1075); omega
        have h2 := blen_le h1
        have h3 := blen_mul (M * 1000) (2 ^ (E1 - 1075))
        have h4 := blen_mul M 1000
        have h5 := blen_le (n := 1000) (k := 10) (by decide)
        omega
      have hdn : blen (2 ^ (1075 - E1)) ≤ 3000 := by
        have h1 : 2 ^ (1075 - E1) < 2 ^ (1075 - E1 + 1) := by rw [Nat.pow_succ]; have := Nat.two_pow_pos (1075 - E1); omega
        have := blen_le h1
        omega
      have hdp := Nat.two_pow_pos (1075 - E1)
      obtain ⟨up, hUP⟩ : ∃ up, M * 1000 * 2 ^ (E1 - 1075) = up := ⟨_, rfl⟩
      obtain ⟨dn, hDN⟩ : ∃ dn, 2 ^ (1075 - E1) = dn := ⟨_, rfl⟩
      rw [hUP, hDN] at hT3 hcut
      rw [hUP] at hup
      rw [hDN] at hdn hdp
      clear hUP hDN hT2 HE1 HM hMb N4 N5 B4 B3 N3 B2 B1 N1
      have HD := Lib.hid (div_num _ _ up dn wc hcut.out.1 hcut.out.2.1 (by omega) (by omega) hdp)
      have hqb : blen (up / dn) ≤ 3000 := Nat.le_trans (blen_mono (Nat.div_le_self up dn)) hup
      have hrb : blen (up % dn) ≤ 3000 := Nat.le_trans (blen_mono (Nat.le_of_lt (Nat.mod_lt up hdp))) hdn
      have hR : Hid (quoR up dn = if dn < up % dn + up % dn ∨ (up % dn + up % dn = dn ∧ up / dn % 2 = 1) then up / dn + 1 else up / dn) := rfl
      obtain ⟨q, hq⟩ : ∃ q, up / dn = q := ⟨_, rfl⟩
      obtain ⟨r, hr⟩ : ∃ r, up % dn = r := ⟨_, rfl⟩
      rw [hq] at HD hqb hR
      rw [hr] at HD hrb hR
      clear hq hr
      go_wp2_with fail
      refine HD.out.mono ?_
      rintro e w5 ⟨⟨vq, vr, rfl, nq, nr⟩, b5⟩
      have HA := Lib.hid (add_num vr vr r r w5 nr nr (by omega) (by omega))
      have B5 := Lib.hid (hcut.out.2.2.trans (b5.mono hcut.out.2.2.size))
      have ND := Lib.hid (hcut.out.2.1.below b5)
      have NQ := Lib.hid nq
      clear nq nr b5 HD
      go_wp2_with fail
      refine HA.out.mono ?_
      rintro e w6 ⟨⟨v6, rfl, n6⟩, b6⟩
      have HC := Lib.hid (cmp_num v6 _ (r + r) dn w6 n6 (ND.out.below b6) (by have := blen_add r r 3000 hrb hrb; omega) (by omega))
      have B6 := Lib.hid (B5.out.trans (b6.mono B5.out.size))
      have NQ6 := Lib.hid (NQ.out.below b6)
      clear n6 b6 HA
      go_wp2_with fail
      refine HC.out.mono ?_
      rintro e w7 ⟨rfl, rfl⟩
      obtain ⟨c, hc⟩ : ∃ c, cmpN (r + r) dn = c := ⟨_, rfl⟩
      rw [hc]
      have Hc := Lib.hid hc
      clear hc HC
      go_upto_region 18 with (fail)
      go_cut [11] (fun s wx => s = .bool (decide (q % 2 = 1)) ∧ w6 = wx)
      case first =>
        by_cases h0 : q = 0
        · subst h0
          obtain ⟨a0, cap0, rfl⟩ := bits_none NQ6.out
          go_wp2_with fail
          go_meet
          exact ⟨rfl, rfl⟩
        · obtain ⟨bq, oq, lq, cq, rfl, hlq, hcell⟩ := bits_head NQ6.out (by omega)
          have hlq2 : lq ≤ 9223372036854775807 := by
            obtain ⟨_, _, _, hv, hB⟩ := NQ6.out
            cases hv
            have h1 := hB.read.hmax; have h2 := hB.read.hcap
            unfold maxLen at h1
            omega
          obtain ⟨o, ho⟩ : ∃ o, q % 2 = o := ⟨_, rfl⟩
          rw [ho] at hcell
          have ho2 : o < 2 := by omega
          have Ho := Lib.hid ho
          clear ho h0
          rcases (show o = 0 ∨ o = 1 by omega) with rfl | rfl
          · go_wp2_with fail
            go_meet
            exact ⟨by rw [Ho.out]; rfl, rfl⟩
          · go_wp2_with fail
            go_meet
            exact ⟨by rw [Ho.out]; rfl, rfl⟩
      case rest =>
        obtain ⟨rfl, rfl⟩ := hcut
        obtain ⟨od, hod⟩ : ∃ od, decide (q % 2 = 1) = od := ⟨_, rfl⟩
        rw [hod]
        have Hod := Lib.hid hod
        clear hod
        have hcv : (c = 1 ∧ dn < r + r) ∨ (c = 0 ∧ r + r = dn) ∨ (c = -1 ∧ r + r < dn) := by
          have := Hc.out
          unfold cmpN at this
          by_cases h1 : dn < r + r
          · rw [if_pos h1] at this; exact .inl ⟨this.symm, h1⟩
          · rw [if_neg h1] at this
            by_cases h2 : r + r < dn
            · rw [if_pos h2] at this; exact .inr (.inr ⟨this.symm, h2⟩)
            · rw [if_neg h2] at this; exact .inr (.inl ⟨this.symm, by omega⟩)
        go_upto_region 19 with (fail)
        go_cut [85] (fun s wx => s = .bool (decide (dn < r + r ∨ (r + r = dn ∧ q % 2 = 1))) ∧ w6 = wx)
        case first =>
          rcases hcv with ⟨rfl, h1⟩ | ⟨rfl, h1⟩ | ⟨rfl, h1⟩
          · have hD : Hid (decide (dn < r + r ∨ (r + r = dn ∧ q % 2 = 1)) = true) := decide_eq_true (.inl h1)
            clear h1
            go_wp2_with fail
            go_meet
            exact ⟨by rw [hD.out], rfl⟩
          · cases od
            · have hD : Hid (decide (dn < r + r ∨ (r + r = dn ∧ q % 2 = 1)) = false) := by
                have := of_decide_eq_false Hod.out
                exact decide_eq_false (by omega)
              clear h1
              go_wp2_with fail
              go_meet
              exact ⟨by rw [hD.out], rfl⟩
            · have hD : Hid (decide (dn < r + r ∨ (r + r = dn ∧ q % 2 = 1)) = true) := by
                have := of_decide_eq_true Hod.out
                exact decide_eq_true (by omega)
              clear h1
              go_wp2_with fail
              go_meet
              exact ⟨by rw [hD.out], rfl⟩
          · have hD : Hid (decide (dn < r + r ∨ (r + r = dn ∧ q % 2 = 1)) = false) := decide_eq_false (by omega)
            clear h1
            go_wp2_with fail
            go_meet
            exact ⟨by rw [hD.out], rfl⟩
        case rest =>
          obtain ⟨rfl, rfl⟩ := hcut
          clear hcv Hod Hc
          obtain ⟨Q, hQ⟩ : ∃ Q, quoR up dn = Q := ⟨_, rfl⟩
          have hRQ : Hid (Q = if dn < r + r ∨ (r + r = dn ∧ q % 2 = 1) then q + 1 else q) := by rw [← hQ]; exact hR.out
          have hT4 : Hid (refOf x = quoOf Q) := by rw [← hQ]; exact hT3.out
          clear hQ hT3 hR
          go_upto_if 85 with (fail)
          go_cut [8] (fun s wx => Hid (NumAt wx s Q ∧ Below w.heap.size w wx))
          case first =>
            by_cases hc : dn < r + r ∨ (r + r = dn ∧ q % 2 = 1)
            · have hd := decide_eq_true hc
              have HQ := Lib.hid (hRQ.out.trans (if_pos hc))
              rw [hd]
              clear hd hc
              go_wp2_with fail
              refine (of_any01 1 w6 (by decide)).mono ?_
              rintro e w7 ⟨⟨v7, rfl, n7⟩, b7⟩
              have HA2 := Lib.hid (add_num _ v7 q 1 w7 (NQ6.out.below b7) n7 (by omega) (by have := blen_le (n := 1) (k := 1) (by decide); omega))
              have B7 := Lib.hid (B6.out.trans (b7.mono B6.out.size))
              clear n7 b7
              go_wp2_with fail
              refine HA2.out.mono ?_
              rintro e w8 ⟨⟨v8, rfl, n8⟩, b8⟩
              have N8 := Lib.hid n8
              have B8 := Lib.hid (B7.out.trans (b8.mono B7.out.size))
              clear n8 b8
              go_wp2_with fail
              go_meet
              exact ⟨by rw [HQ.out]; exact N8.out, B8.out⟩
            · have hd := decide_eq_false hc
              have HQ := Lib.hid (hRQ.out.trans (if_neg hc))
              rw [hd]
              clear hd hc
              go_wp2_with fail
              go_meet
              exact ⟨by rw [HQ.out]; exact NQ6.out, B6.out⟩
          case rest =>
            have hQb : blen Q ≤ 3001 := by
              rw [hRQ.out]
              split
              · have := blen_add q 1 3000 hqb (by have := blen_le (n := 1) (k := 1) (by decide); omega)
                exact this
              · omega
            clear hRQ NQ6 NQ ND B6 B5 hqb hrb hup hdn hdp
            go_wp2_with fail
            refine (of_any01 9007199254740992 wc (by decide)).mono ?_
            rintro e w7 ⟨⟨v7, rfl, n7⟩, b7⟩
            have HC := Lib.hid (cmp_num _ v7 Q 9007199254740992 w7 (hcut.out.1.below b7) n7 (by omega) (by have := blen_le (n := 9007199254740992) (k := 54) (by decide); omega))
            have B7 := Lib.hid (hcut.out.2.trans (b7.mono hcut.out.2.size))
            have NQ7 := Lib.hid (hcut.out.1.below b7)
            clear n7 b7
            go_wp2_with fail
            refine HC.out.mono ?_
            rintro e w8 ⟨he, rfl⟩
            by_cases hbig : 9007199254740992 < Q
            · have h1 : cmpN Q 9007199254740992 = 1 := by unfold cmpN; rw [if_pos hbig]
              rw [h1] at he
              subst he
              have hT5 := Lib.hid (hT4.out.trans (if_pos hbig))
              clear h1 hbig
              go_wp2_with fail
              go_ret2
              exact ⟨by rw [hT5.out]; rfl, B7.out⟩
            · have h1 : ∃ cc, cmpN Q 9007199254740992 = cc ∧ cc ≤ 0 := by
                unfold cmpN
                rw [if_neg hbig]
                split
                · exact ⟨_, rfl, by decide⟩
                · exact ⟨_, rfl, by decide⟩
              obtain ⟨cc, h1, h2⟩ := h1
              rw [h1] at he
              subst he
              have hT5 := Lib.hid (hT4.out.trans (if_neg hbig))
              have hsm : Q ≤ 9007199254740992 := by omega
              have HN := Lib.hid (number_num _ Q w7 NQ7.out (by omega))
              clear h1 hbig
              go_wp2_with fail
              refine HN.out.mono ?_
              rintro e w8 ⟨rfl, rfl⟩
              go_wp2_with fail
              go_ret2
              exact ⟨by rw [hT5.out]; rfl, B7.out⟩

theorem ref_any (x : Nat) (w : World) (hx : x < 18446744073709551616) :
    Calls Try.prog 6 #[.int .u64 x] w fun e w' => e = .returned (.tuple #[.int .i64 (refOf x).1, .int .i64 (refOf x).2]) ∧ Below w.heap.size w w' := by
  have hel : expo x < 2048 := Nat.mod_lt _ (by decide)
  by_cases h : expo x = 2047 ∨ 9223372036854775808 ≤ x
  · exact (ref_early x w hx h).mono fun e w' ⟨h1, h2⟩ => ⟨h1, by rw [← h2]; exact Below.refl _ _⟩
  · exact ref_late x w (by omega) (by omega)
end Go.Proofs.Yteolfpgdpajldaa
