/- The contract of the statements' own measure of how far a word is from a quantity. Condition: the word is of 64 bits, the quantity is at most 2^53. -/
import Derived.Test.YtjbmhmiaecakoaaMinus
import Derived.Test.YtjbmhmiaecakoaaNearest
import Derived.Test.YtjbmhmiaecakoaaGaugeRef
namespace Go.Proofs.Ytjbmhmiaecakoaa
open Go.ChangeShapes Go.WideShapes Go.ChangeAt Go.RowKit Go.Deep

theorem pow_blen (k : Nat) : blen (2 ^ k) ≤ k + 1 := blen_le (Nat.pow_lt_pow_right (by decide) (Nat.lt_succ_self k))

theorem up_blen (x : Nat) : blen ((frac x + 4503599627370496) * 1000) ≤ 63 ∧ blen (upOf x) ≤ 2200 := by
  have h5 : expo x < 2048 := Nat.mod_lt _ (by decide)
  have h7 : 63 + (expo x + 25 + 1) ≤ 2200 := by omega
  have h1 : blen (frac x + 4503599627370496) ≤ 53 := blen_le (by
    have : frac x < 4503599627370496 := Nat.mod_lt _ (by decide)
    have e : 2 ^ 53 = 9007199254740992 := by decide
    rw [e]; omega)
  have h3 : blen 1000 ≤ 10 := blen_le (by decide)
  have h8 := Nat.le_trans (blen_mul (frac x + 4503599627370496) 1000) (Nat.add_le_add h1 h3)
  exact ⟨h8, Nat.le_trans (blen_mul ((frac x + 4503599627370496) * 1000) (2 ^ (expo x + 25))) (Nat.le_trans (Nat.add_le_add h8 (pow_blen (expo x + 25))) h7)⟩

theorem mul_pow_blen {m a b : Nat} (k : Nat) (h : blen m ≤ a) (hk : a + (k + 1) ≤ b) : blen (m * 2 ^ k) ≤ b :=
  Nat.le_trans (blen_mul m (2 ^ k)) (Nat.le_trans (Nat.add_le_add h (pow_blen k)) hk)

theorem at_blen (m : Nat) (hm : m ≤ 9007199254740992) : blen m ≤ 54 ∧ blen (m * 2 ^ 1100) ≤ 1200 := by
  have h1 : blen m ≤ 54 := blen_le (by
    have e : 2 ^ 54 = 18014398509481984 := by decide
    rw [e]; omega)
  exact ⟨h1, mul_pow_blen 1100 h1 (by decide)⟩

theorem dist_blen (m x : Nat) (hm : m ≤ 9007199254740992) : blen (distOf m x) ≤ 2201 := by
  have h1 := (up_blen x).2
  have h2 := (at_blen m hm).2
  have h3 := blen_add (upOf x) (m * 2 ^ 1100) 2200 h1 (by omega)
  have h4 : distOf m x ≤ upOf x + m * 2 ^ 1100 := by
    unfold distOf
    obtain ⟨A, hA⟩ : ∃ A, upOf x = A := ⟨_, rfl⟩
    obtain ⟨B, hB⟩ : ∃ B, m * 2 ^ 1100 = B := ⟨_, rfl⟩
    rw [hA, hB]
    omega
  exact Nat.le_trans (blen_mono h4) h3

/-- What the walk needs of the numbers, with none of them in sight. -/
structure OffNums (m x : Nat) (M G T U Q B D : Nat) : Prop where
  hM : M = frac x + 4503599627370496
  hD : D = U - B + (B - U)
  ofM : ∀ wx, Calls Try.prog 21 #[.int .u64 ((frac x : Int) + 4503599627370496)] wx fun e w' => (∃ v, e = .returned v ∧ NumAt w' v M) ∧ Below wx.heap.size wx w'
  mulG : ∀ v u wx, NumAt wx v M → NumAt wx u 1000 → Calls Try.prog 20 #[v, u] wx fun e w' => (∃ r, e = .returned r ∧ NumAt w' r G) ∧ Below wx.heap.size wx w'
  powT : ∀ wx, Calls Try.prog 22 #[.int .i64 ((expo x : Int) + 25)] wx fun e w' => (∃ v, e = .returned v ∧ NumAt w' v T) ∧ Below wx.heap.size wx w'
  mulU : ∀ v u wx, NumAt wx v G → NumAt wx u T → Calls Try.prog 20 #[v, u] wx fun e w' => (∃ r, e = .returned r ∧ NumAt w' r U) ∧ Below wx.heap.size wx w'
  powQ : ∀ wx, Calls Try.prog 22 #[.int .i64 1100] wx fun e w' => (∃ v, e = .returned v ∧ NumAt w' v Q) ∧ Below wx.heap.size wx w'
  mulB : ∀ v u wx, NumAt wx v m → NumAt wx u Q → Calls Try.prog 20 #[v, u] wx fun e w' => (∃ r, e = .returned r ∧ NumAt w' r B) ∧ Below wx.heap.size wx w'
  cmp : ∀ v u wx, NumAt wx v U → NumAt wx u B → Calls Try.prog 23 #[v, u] wx fun e w' => e = .returned (.int .i64 (cmpN U B)) ∧ wx = w'
  minus1 : U < B → ∀ v u wx, NumAt wx v U → NumAt wx u B → Calls Try.prog 24 #[u, v] wx fun e w' => (∃ r, e = .returned r ∧ NumAt w' r D) ∧ Below wx.heap.size wx w'
  minus2 : ¬ U < B → ∀ v u wx, NumAt wx v U → NumAt wx u B → Calls Try.prog 24 #[v, u] wx fun e w' => (∃ r, e = .returned r ∧ NumAt w' r D) ∧ Below wx.heap.size wx w'

theorem offNums (m x : Nat) (hm : m ≤ 9007199254740992) : ∃ M G T U Q B, OffNums m x M G T U Q B (distOf m x) := by
  have hub := up_blen x
  have hbb := at_blen m hm
  have hpb := pow_blen (expo x + 25)
  have hqb := pow_blen 1100
  have hel : expo x < 2048 := Nat.mod_lt _ (by decide)
  have hfl : frac x < 4503599627370496 := Nat.mod_lt _ (by decide)
  have h53 : blen (frac x + 4503599627370496) ≤ 53 := blen_le (by
    have e : 2 ^ 53 = 9007199254740992 := by decide
    rw [e]; omega)
  have k4 : blen (2 ^ (expo x + 25)) ≤ 10000 := Nat.le_trans hpb (by clear hpb hub hbb hqb h53; omega)
  have k5 := Nat.le_trans hub.2 (show 2200 ≤ 100000 by decide)
  have k9 := Nat.le_trans hbb.2 (show 1200 ≤ 100000 by decide)
  refine ⟨frac x + 4503599627370496, (frac x + 4503599627370496) * 1000, 2 ^ (expo x + 25), upOf x, 2 ^ 1100, m * 2 ^ 1100, rfl, rfl, ?_, ?_, ?_, ?_, ?_, ?_, ?_, ?_, ?_⟩
  · exact fun wx => of_any01 (frac x + 4503599627370496) wx (by clear hub hbb hpb hqb h53 k4 k5 k9; omega)
  · exact fun v u wx h1 h2 => mul_num v u _ _ wx h1 h2 (Nat.le_trans h53 (by decide)) (Nat.le_trans (blen_le (n := 1000) (k := 10) (by decide)) (by decide))
  · exact fun wx => power_any (expo x + 25) wx (by clear hub hbb hpb hqb h53 k4 k5 k9; omega)
  · exact fun v u wx h1 h2 => mul_num v u _ _ wx h1 h2 (Nat.le_trans hub.1 (by decide)) k4
  · exact fun wx => power_any 1100 wx (by decide)
  · exact fun v u wx h1 h2 => mul_num v u _ _ wx h1 h2 (Nat.le_trans hbb.1 (by decide)) (Nat.le_trans hqb (by decide))
  · exact fun v u wx h1 h2 => cmp_num v u _ _ wx h1 h2 k5 k9
  · intro hlt v u wx h1 h2
    have := minus_num u v _ _ wx h2 h1 k9 (Nat.le_of_lt hlt)
    have e : m * 2 ^ 1100 - upOf x = distOf m x := by unfold distOf; rw [Nat.sub_eq_zero_of_le (Nat.le_of_lt hlt), Nat.zero_add]
    rw [e] at this
    exact this
  · intro hlt v u wx h1 h2
    have := minus_num v u _ _ wx h1 h2 k5 (Nat.le_of_not_lt hlt)
    have e : upOf x - m * 2 ^ 1100 = distOf m x := by unfold distOf; rw [Nat.sub_eq_zero_of_le (Nat.le_of_not_lt hlt), Nat.add_zero]
    rw [e] at this
    exact this

set_option maxRecDepth 100000 in
set_option maxHeartbeats 4000000 in
theorem off_any (m x tb : Nat) (w : World) (hx : x < 18446744073709551616) (hm : m ≤ 9007199254740992) (hk : w.cell? ⟨tb, 0, none⟩ = some (.int .i64 m)) :
    Calls Try.prog 19 #[.int .u64 x, .pointer (some ⟨tb, 0, none⟩)] w fun e w' => (∃ v, e = .returned v ∧ NumAt w' v (distOf m x)) ∧ Below w.heap.size w w' := by
  obtain ⟨M, G, T, U, Q, B, hN⟩ := offNums m x hm
  have he : (x : Int) / 4503599627370496 % 2048 = (expo x : Int) := by unfold expo; omega
  have hf : (x : Int) % 4503599627370496 = (frac x : Int) := by unfold frac; omega
  have hfl : frac x < 4503599627370496 := Nat.mod_lt _ (by decide)
  have hel : expo x < 2048 := Nat.mod_lt _ (by decide)
  have HN := Lib.hid hN
  have HO := Lib.hid hN.ofM
  have HP := Lib.hid hN.powT
  obtain ⟨D, hD⟩ : ∃ D, distOf m x = D := ⟨_, rfl⟩
  obtain ⟨E, hE⟩ : ∃ E, expo x = E := ⟨_, rfl⟩
  obtain ⟨F, hF⟩ : ∃ F, frac x = F := ⟨_, rfl⟩
  rw [hD] at HN ⊢
  rw [hE] at he hel HP
  rw [hF] at hf hfl HO
  clear hD hE hF hN
  go_enter Try.func19, Try.ntmps19
  go_wp2_with fail
  refine (HO.out w).mono ?_
  rintro e w1 ⟨⟨v1, rfl, n1⟩, b1⟩
  have N1 := Lib.hid n1
  have B1 := Lib.hid b1
  clear n1 b1
  go_wp2_with fail
  refine (of_any01 1000 w1 (by decide)).mono ?_
  rintro e w2 ⟨⟨v2, rfl, n2⟩, b2⟩
  have HM1 := Lib.hid (HN.out.mulG v1 v2 w2 (N1.out.below b2) n2)
  have B2 := Lib.hid (B1.out.trans (b2.mono B1.out.size))
  clear n2 b2
  go_wp2_with fail
  refine HM1.out.mono ?_
  rintro e w3 ⟨⟨v3, rfl, n3⟩, b3⟩
  have B3 := Lib.hid (B2.out.trans (b3.mono B2.out.size))
  have N3 := Lib.hid n3
  clear n3 b3 HM1
  go_wp2_with fail
  refine (HP.out w3).mono ?_
  rintro e w4 ⟨⟨v4, rfl, n4⟩, b4⟩
  have B4 := Lib.hid (B3.out.trans (b4.mono B3.out.size))
  have HM2 := Lib.hid (HN.out.mulU v3 v4 w4 (N3.out.below b4) n4)
  clear n4 b4
  go_wp2_with fail
  refine HM2.out.mono ?_
  rintro e w5 ⟨⟨v5, rfl, n5⟩, b5⟩
  have B5 := Lib.hid (B4.out.trans (b5.mono B4.out.size))
  have N5 := Lib.hid n5
  have c5 := Below.cell_some B5.out hk
  clear n5 b5 HM2
  go_wp2_with fail
  refine (of_any01 m w5 (by omega)).mono ?_
  rintro e w6 ⟨⟨v6, rfl, n6⟩, b6⟩
  have B6 := Lib.hid (B5.out.trans (b6.mono B5.out.size))
  have N6 := Lib.hid n6
  have N5' := Lib.hid (N5.out.below b6)
  clear n6 b6 c5
  go_wp2_with fail
  refine (HN.out.powQ w6).mono ?_
  rintro e w7 ⟨⟨v7, rfl, n7⟩, b7⟩
  have B7 := Lib.hid (B6.out.trans (b7.mono B6.out.size))
  have HM3 := Lib.hid (HN.out.mulB v6 v7 w7 (N6.out.below b7) n7)
  have N7 := Lib.hid (N5'.out.below b7)
  clear n7 b7
  go_wp2_with fail
  refine HM3.out.mono ?_
  rintro e w8 ⟨⟨v8, rfl, n8⟩, b8⟩
  have B8 := Lib.hid (B7.out.trans (b8.mono B7.out.size))
  have N8 := Lib.hid n8
  have N7' := Lib.hid (N7.out.below b8)
  have HC := Lib.hid (HN.out.cmp v5 v8 w8 N7'.out N8.out)
  clear n8 b8 HM3
  by_cases hlt : U < B
  · have hc : cmpN U B = -1 := by unfold cmpN; rw [if_neg (by omega), if_pos (by omega)]
    rw [hc] at HC
    have HF := Lib.hid (HN.out.minus1 hlt v5 v8 w8 N7'.out N8.out)
    clear hc hlt
    go_wp2_with fail
    refine HC.out.mono ?_
    rintro e w9 ⟨rfl, rfl⟩
    go_wp2_with fail
    refine HF.out.mono ?_
    rintro e w9 ⟨⟨v9, rfl, n9⟩, b9⟩
    have N9 := Lib.hid n9
    have B9 := Lib.hid (B8.out.trans (b9.mono B8.out.size))
    clear n9 b9
    go_wp2_with fail
    go_ret
    exact ⟨⟨_, rfl, N9.out⟩, B9.out⟩
  · have hc : ∃ c, cmpN U B = c ∧ 0 ≤ c := by
      unfold cmpN
      by_cases h : B < U
      · rw [if_pos h]; exact ⟨_, rfl, by decide⟩
      · rw [if_neg h, if_neg hlt]; exact ⟨_, rfl, by decide⟩
    obtain ⟨c, hc, hc0⟩ := hc
    rw [hc] at HC
    have HF := Lib.hid (HN.out.minus2 hlt v5 v8 w8 N7'.out N8.out)
    clear hc hlt
    go_wp2_with fail
    refine HC.out.mono ?_
    rintro e w9 ⟨rfl, rfl⟩
    go_wp2_with fail
    refine HF.out.mono ?_
    rintro e w9 ⟨⟨v9, rfl, n9⟩, b9⟩
    have N9 := Lib.hid n9
    have B9 := Lib.hid (B8.out.trans (b9.mono B8.out.size))
    clear n9 b9
    go_wp2_with fail
    go_ret
    exact ⟨⟨_, rfl, N9.out⟩, B9.out⟩
end Go.Proofs.Ytjbmhmiaecakoaa
