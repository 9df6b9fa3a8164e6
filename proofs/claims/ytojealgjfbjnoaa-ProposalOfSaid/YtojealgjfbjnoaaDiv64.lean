/- The contract of math/bits.Div64. Condition: the upper word is below the divisor; the words are of 64 bits. -/
import Derived.Test.YtojealgjfbjnoaaKnuthM
namespace Go.Proofs.Ytojealgjfbjnoaa
open Go.ChangeShapes Go.WideShapes Go.ChangeAt Go.RowKit Go.Deep

theorem bitLen_spec : ∀ (f x : Nat), x < 2 ^ f → 0 < x → x < 2 ^ 64 → 0 < Lib.bitLen x ∧ 2 ^ (Lib.bitLen x - 1) ≤ x ∧ x < 2 ^ Lib.bitLen x
  | 0, x, h, h0, _ => by simp at h; omega
  | f + 1, x, h, h0, h64 => by
    by_cases h1 : x = 1
    · subst h1
      exact ⟨by decide, by decide, by decide⟩
    · rw [Lib.bitLen_half x (by omega) h64]
      obtain ⟨q0, q1, q2⟩ := bitLen_spec f (x / 2) (by rw [Nat.pow_succ] at h; omega) (by omega) (by omega)
      obtain ⟨b, hb⟩ : ∃ b, Lib.bitLen (x / 2) = b + 1 := ⟨Lib.bitLen (x / 2) - 1, by omega⟩
      rw [hb] at q1 q2 ⊢
      rw [show 1 + (b + 1) - 1 = b + 1 from by omega, show 1 + (b + 1) = b + 1 + 1 from by omega]
      rw [show b + 1 - 1 = b from rfl] at q1
      rw [Nat.pow_succ] at q2 ⊢
      rw [Nat.pow_succ, Nat.pow_succ]
      refine ⟨by omega, by omega, by omega⟩

/-- What one digit's loop leaves. -/
def DigEnd (u d Y q : Nat) : Prop := q * Y ≤ u * 4294967296 + d ∧ u * 4294967296 + d < (q + 1) * Y

theorem u64w (n : Nat) (h : n < 18446744073709551616) : IntKind.u64.wrap (n : Int) = (n : Int) := IntWalk.u64_in _ (by omega)

theorem or_low (k a b : Nat) (hk : k ≤ 64) (ha : a * 2 ^ k < 18446744073709551616) (hb : b < 2 ^ k) : bits .or .u64 ((a * 2 ^ k : Nat) : Int) (b : Int) = ((a * 2 ^ k + b : Nat) : Int) := by
  have hp : a * 2 ^ k + b < 18446744073709551616 := by
    obtain ⟨m, hm⟩ : ∃ m, 64 = k + m := ⟨64 - k, by omega⟩
    have e : (18446744073709551616 : Nat) = 2 ^ m * 2 ^ k := by rw [← Nat.pow_add, Nat.add_comm m k, ← hm]
    rw [e] at ha ⊢
    have h1 : a < 2 ^ m := Nat.lt_of_mul_lt_mul_right ha
    have h2 := Nat.mul_le_mul (show a + 1 ≤ 2 ^ m from h1) (Nat.le_refl (2 ^ k))
    rw [Nat.succ_mul] at h2
    omega
  have h := u64_or_nat (a * 2 ^ k) b ha (by omega)
  have h2 := Nat.two_pow_add_eq_or_of_lt (i := k) (b := b) hb a
  rw [h, ← (show 2 ^ k * a + b = a * 2 ^ k ||| b by rw [h2, Nat.mul_comm]), Nat.mul_comm]

set_option maxRecDepth 100000 in
set_option maxHeartbeats 4000000 in
theorem div64_full (hi lo y : Nat) (w : World) (h0 : 0 < hi) (h1 : hi < y) (hl : lo < 18446744073709551616) (hy : y < 18446744073709551616) :
    Calls Try.prog 68 #[.int .u64 hi, .int .u64 lo, .int .u64 y] w fun e w' => e = .returned (.tuple #[.int .u64 (((hi * 18446744073709551616 + lo) / y : Nat) : Int), .int .u64 (((hi * 18446744073709551616 + lo) % y : Nat) : Int)]) ∧ Below w.heap.size w w' := by
  obtain ⟨L, hL⟩ : ∃ L, Lib.bitLen y = L := ⟨_, rfl⟩
  have hsp := bitLen_spec 64 y (by omega) (by omega) (by omega)
  rw [hL] at hsp
  have hL64 := Lib.bitLen_le y 64 (by omega) (by omega)
  rw [hL] at hL64
  have HZ := Lib.hid (lz64_any y w (by omega) (by omega))
  rw [Int.toNat_natCast, hL] at HZ
  obtain ⟨s, hs⟩ : ∃ s, L + s = 64 := ⟨64 - L, by omega⟩
  rw [show (64 : Int) - (L : Int) = (s : Int) from by omega] at HZ
  have htv : 2 ^ s * 2 ^ (64 - s) = 18446744073709551616 := by rw [← Nat.pow_add, show s + (64 - s) = 64 from by omega]
  have hY1 : 9223372036854775808 ≤ y * 2 ^ s := by
    have h2 := Nat.mul_le_mul hsp.2.1 (Nat.le_refl (2 ^ s))
    rw [← Nat.pow_add, show L - 1 + s = 63 from by omega] at h2
    exact h2
  have hY2 : y * 2 ^ s < 18446744073709551616 := by
    have h2 := Nat.mul_lt_mul_of_pos_right hsp.2.2 (Nat.two_pow_pos s)
    rw [← Nat.pow_add, hs] at h2
    exact h2
  have hs63 : s ≤ 63 := by omega
  have hUt := shifted_lt (lo := lo) htv h1 hl
  have hN := shifted (hi := hi) (lo := lo) htv
  have hH : hi * 2 ^ s < 18446744073709551616 := Nat.lt_of_le_of_lt (Nat.le_add_right _ _) (Nat.lt_trans hUt hY2)
  have hLq : lo / 2 ^ (64 - s) < 2 ^ s := by rw [Nat.div_lt_iff_lt_mul (Nat.two_pow_pos _), htv]; exact hl
  have hor := or_low s hi _ (by omega) hH hLq
  have ht0 := Nat.two_pow_pos s
  have hi1 : ((y : Int) * 2 ^ s) = ((y * 2 ^ s : Nat) : Int) := by simp
  have hi2 : ((hi : Int) * 2 ^ s) = ((hi * 2 ^ s : Nat) : Int) := by simp
  have hi3 : ((lo : Int) * 2 ^ s) = ((lo * 2 ^ s : Nat) : Int) := by simp
  have hi4 : ((lo : Int) / 2 ^ (64 - s)) = ((lo / 2 ^ (64 - s) : Nat) : Int) := by simp
  have hi5 : ∀ r : Nat, ((r : Int) / 2 ^ s) = ((r / 2 ^ s : Nat) : Int) := fun r => by simp
  obtain ⟨U, hU⟩ : ∃ U, hi * 2 ^ s + lo / 2 ^ (64 - s) = U := ⟨_, rfl⟩
  obtain ⟨V, hV⟩ : ∃ V, lo * 2 ^ s % 18446744073709551616 = V := ⟨_, rfl⟩
  obtain ⟨Y, hY⟩ : ∃ Y, y * 2 ^ s = Y := ⟨_, rfl⟩
  have w1 : IntKind.u64.wrap ((y : Int) * 2 ^ s) = (Y : Int) := by rw [hi1, hY]; exact u64w _ (by omega)
  have w2 : IntKind.u64.wrap ((hi : Int) * 2 ^ s) = ((hi * 2 ^ s : Nat) : Int) := by rw [hi2]; exact u64w _ hH
  have w3 : IntKind.u64.wrap ((lo : Int) * 2 ^ s) = (V : Int) := by rw [hi3, num_wrapM, hV]
  have w4 : bits .or .u64 (IntKind.u64.wrap ((hi : Int) * 2 ^ s)) ((lo : Int) / 2 ^ (64 - s)) = (U : Int) := by rw [w2, hi4, hor, hU]
  have hV1 : V < 18446744073709551616 := by rw [← hV]; exact Nat.mod_lt _ (by decide)
  have w5 := num_mask Y (by omega)
  have w6 := num_mask V hV1
  have w7 := num_div Y
  have w8 := num_div V
  have hYd : Y = Y / 4294967296 * 4294967296 + Y % 4294967296 := by omega
  rw [hV, hU] at hN
  rw [hU, hY] at hUt
  obtain ⟨y1, hy1⟩ : ∃ y1, Y / 4294967296 = y1 := ⟨_, rfl⟩
  obtain ⟨y0, hy0⟩ : ∃ y0, Y % 4294967296 = y0 := ⟨_, rfl⟩
  obtain ⟨u1, hu1⟩ : ∃ u1, V / 4294967296 = u1 := ⟨_, rfl⟩
  obtain ⟨u0, hu0⟩ : ∃ u0, V % 4294967296 = u0 := ⟨_, rfl⟩
  have b1 : 2147483648 ≤ y1 := by omega
  have b2 : y1 < 4294967296 := by omega
  have b3 : y0 < 4294967296 := by omega
  have b4 : u1 < 4294967296 := by omega
  have b5 : u0 < 4294967296 := by omega
  rw [hy0] at w5
  rw [hu0] at w6
  rw [hy1] at w7
  rw [hu1] at w8
  rw [hu1, hu0] at hN
  rw [hy1, hy0] at hYd
  have HYd := Lib.hid hYd
  have HUY := Lib.hid hUt
  have HN := Lib.hid hN
  have HYe := Lib.hid hY
  have HYb := Lib.hid (show Y < 18446744073709551616 by omega)
  have hUb : Hid (U < 18446744073709551616) := Nat.lt_trans hUt HYb.out
  have HUY0 := Lib.hid hUt
  have HY0 : Hid (U < y1 * 4294967296 + y0) := by rw [← hYd]; exact hUt
  have hy10 : ((y1 : Int) == 0) = false := by rw [beq_eq_false_iff_ne]; omega
  have hy11 : ¬ y1 = 0 := by omega
  have hy12 : ¬ (y1 : Int) = 0 := by omega
  have d1 : (U : Int).tdiv (y1 : Int) = ((U / y1 : Nat) : Int) := rfl
  have d5 : (U : Int) / (y1 : Int) = ((U / y1 : Nat) : Int) := by simp
  have ds := dig_start (u := U) (y1 := y1) (y0 := y0) b4 (by omega)
  have dm := Nat.div_add_mod U y1
  have dl := Nat.mod_lt U (show 0 < y1 by omega)
  have dn := hUb.out
  have dk := Nat.div_le_self U y1
  rw [Nat.mul_comm] at dm
  have HS0 : U / y1 ≤ 4294967297 := start_le b1 b3 (by rw [← HYd.out]; exact HUY0.out)
  obtain ⟨dq, dq'⟩ : ∃ q, U / y1 = q := ⟨_, rfl⟩
  obtain ⟨dr, dr'⟩ : ∃ r, U % y1 = r := ⟨_, rfl⟩
  rw [dq'] at d1 d5 ds dm dk HS0
  rw [dr'] at dm dl ds
  obtain ⟨dp, dp'⟩ : ∃ p, dq * y1 = p := ⟨_, rfl⟩
  have d2 : IntKind.u64.wrap (dq : Int) = (dq : Int) := u64w _ (by omega)
  have d3 : IntKind.u64.wrap ((dq : Int) * (y1 : Int)) = (dp : Int) := by rw [num_mul, dp']; exact u64w _ (by omega)
  have d4 : IntKind.u64.wrap ((U : Int) - (dp : Int)) = (dr : Int) := by
    rw [show (U : Int) - (dp : Int) = (dr : Int) from by omega]
    exact u64w _ (by omega)
  have d6 : IntKind.u64.wrap ((U : Int).tdiv (y1 : Int)) = (dq : Int) := by rw [d1, d2]
  have dS := Lib.hid ds
  have dL : dr < 4294967296 := by omega
  clear dm dl dn dk dq' dr' dp' ds d1
  have e1 : ((y : Int) == 0) = false := by rw [beq_eq_false_iff_ne]; omega
  have e2 : ((hi : Int) == 0) = false := by rw [beq_eq_false_iff_ne]; omega
  have e3 : ¬ y ≤ hi := by omega
  have e3d : decide (y ≤ hi) = false := decide_eq_false e3
  have Ht0 := Lib.hid ht0
  have Hi5 := Lib.hid hi5
  clear hsp hL hL64 hs htv hY1 hY2 hUt hN hH hLq hor ht0 hi1 hi2 hi3 hi4 hi5 hU hV hY w2 hV1 hYd hy1 hy0 hu1 hu0 h0 h1 hl hy
  go_enter Try.func68, Try.ntmps68

  go_upto_block 0 with (go_at_call 73; refine HZ.out.mono ?_; rintro e w1 ⟨rfl, rfl⟩)
  go_cut [15, 16] from 67 to 85 (fun a b wx => (∃ q rh : Nat, a = .int .u64 q ∧ b = .int .u64 rh ∧ Hid (DigEnd U u1 Y q)) ∧ w1 = wx)
  case first =>
    go_wp2_with fail
    go_loopw [15, 16] (fun a b wr => ∃ q rh : Nat, a = .int .u64 q ∧ b = .int .u64 rh ∧ w1 = wr ∧ rh < 4294967296 ∧ q ≤ 4294967297 ∧ Hid (Dig U u1 y1 y0 q rh)) (fun a _ _ => (intOf a).toNat)
    case atStart => exact ⟨_, _, rfl, rfl, rfl, by omega, by omega, dS.out⟩
    case round =>
      obtain ⟨q, rh, rfl, rfl, rfl, hrh, hq, D⟩ := hrel
      have ha : IntKind.u64.wrap ((rh : Int) + (y1 : Int)) = ((rh + y1 : Nat) : Int) := u64w _ (by omega)
      obtain ⟨r2, hr2⟩ : ∃ r2, rh + y1 = r2 := ⟨_, rfl⟩
      rw [hr2] at ha
      by_cases hq2 : 4294967296 ≤ q
      · have hb : IntKind.u64.wrap ((q : Int) - 1) = ((q - 1 : Nat) : Int) := by
          rw [show (q : Int) - 1 = ((q - 1 : Nat) : Int) from by omega]
          exact u64w _ (by omega)
        have D2 : Hid (Dig U u1 y1 y0 (q - 1) (rh + y1)) := dig_down1 D.out b4 HY0.out hq2
        rw [hr2] at D2
        obtain ⟨q2, hq2'⟩ : ∃ q2, q - 1 = q2 := ⟨_, rfl⟩
        rw [hq2'] at D2 hb
        have hm : q2 < q ∧ q2 ≤ 4294967296 := by omega
        have hqa : decide ((4294967296 : Int) ≤ (q : Int)) = true := decide_eq_true (by omega)
        have Hm := Lib.hid hm
        have Hrh := Lib.hid hrh
        have Hq := Lib.hid hq
        clear hq2' hr2 hq2 hm hrh hq
        by_cases hr3 : 4294967296 ≤ r2
        · have hra : decide ((4294967296 : Int) ≤ (r2 : Int)) = true := decide_eq_true (by omega)
          have E2 : Hid (DigEnd U u1 Y q2) := ⟨by rw [HYd.out]; exact dig_end2 D2.out Hm.out.2 b3 hr3, by rw [HYd.out]; exact D2.out.up⟩
          clear hr3
          go_wp2_with fail
          go_meet
          case rel => exact ⟨⟨_, _, rfl, rfl, E2⟩, rfl⟩
        · have hra : decide ((4294967296 : Int) ≤ (r2 : Int)) = false := decide_eq_false (by omega)
          have Hr3 := Lib.hid hr3
          clear hr3
          go_wp2_with fail
          go_roundw
          case rel => exact ⟨q2, r2, rfl, rfl, trivial, by have := Hr3.out; omega, by have := Hm.out; omega, D2⟩
          case measure =>
            have := Hm.out
            simp [intOf]; omega
      · have hp1 : q * y0 < 18446744073709551616 := by
          have := Nat.mul_le_mul (show q ≤ 4294967295 by omega) (show y0 ≤ 4294967295 by omega)
          omega
        have hp : IntKind.u64.wrap ((q : Int) * (y0 : Int)) = ((q * y0 : Nat) : Int) := by rw [num_mul]; exact u64w _ hp1
        have hr : IntKind.u64.wrap (4294967296 * (rh : Int)) = ((4294967296 * rh : Nat) : Int) := by
          rw [show 4294967296 * (rh : Int) = ((4294967296 * rh : Nat) : Int) from by omega]
          exact u64w _ (by omega)
        have hs : IntKind.u64.wrap (((4294967296 * rh : Nat) : Int) + (u1 : Int)) = ((4294967296 * rh + u1 : Nat) : Int) := by rw [num_add]; exact u64w _ (by omega)
        obtain ⟨R, hR⟩ : ∃ R, 4294967296 * rh = R := ⟨_, rfl⟩
        rw [hR] at hr hs
        obtain ⟨R2, hR2⟩ : ∃ R2, R + u1 = R2 := ⟨_, rfl⟩
        rw [hR2] at hs
        obtain ⟨p, hpe⟩ : ∃ p, q * y0 = p := ⟨_, rfl⟩
        rw [hpe] at hp hp1
        have hpd : Hid (q * y0 = p) := hpe
        clear hpe
        by_cases hc : R2 < p
        · obtain ⟨D2', hq1⟩ := dig_down2 D.out (show 4294967296 * rh + u1 < q * y0 by rw [hpd.out, hR, hR2]; exact hc)
          have D2 := Lib.hid D2'
          rw [hr2] at D2
          have hb : IntKind.u64.wrap ((q : Int) - 1) = ((q - 1 : Nat) : Int) := by
            rw [show (q : Int) - 1 = ((q - 1 : Nat) : Int) from by omega]
            exact u64w _ (by omega)
          obtain ⟨q2, hq2'⟩ : ∃ q2, q - 1 = q2 := ⟨_, rfl⟩
          rw [hq2'] at D2 hb
          have hm : q2 < q ∧ q2 ≤ 4294967296 := by omega
          have hqa : decide ((4294967296 : Int) ≤ (q : Int)) = false := decide_eq_false (by omega)
          have hca : decide (R2 < p) = true := decide_eq_true hc
          have Hm := Lib.hid hm
          clear hq2' hr2 hR hR2 D2' hp1 hq2 hm hrh hq
          by_cases hr3 : 4294967296 ≤ r2
          · have hra : decide ((4294967296 : Int) ≤ (r2 : Int)) = true := decide_eq_true (by omega)
            have E2 : Hid (DigEnd U u1 Y q2) := ⟨by rw [HYd.out]; exact dig_end2 D2.out Hm.out.2 b3 hr3, by rw [HYd.out]; exact D2.out.up⟩
            clear hr3
            go_wp2_with fail
            go_meet
            case rel => exact ⟨⟨_, _, rfl, rfl, E2⟩, rfl⟩
          · have hra : decide ((4294967296 : Int) ≤ (r2 : Int)) = false := decide_eq_false (by omega)
            have Hr3 := Lib.hid hr3
            clear hr3
            go_wp2_with fail
            go_roundw
            case rel => exact ⟨q2, r2, rfl, rfl, trivial, by have := Hr3.out; omega, by have := Hm.out; omega, D2⟩
            case measure =>
              have := Hm.out
              simp [intOf]; omega
        · have E2 : Hid (DigEnd U u1 Y q) := ⟨by rw [HYd.out]; exact dig_end1 D.out (by rw [hpd.out, hR, hR2]; omega), by rw [HYd.out]; exact D.out.up⟩
          have hqa : decide ((4294967296 : Int) ≤ (q : Int)) = false := decide_eq_false (by omega)
          have hca : decide (R2 < p) = false := decide_eq_false hc
          clear hr2 hR hR2 hp1 hq2 hrh hq
          go_wp2_with fail
          go_meet
          case rel => exact ⟨⟨_, _, rfl, rfl, E2⟩, rfl⟩
  case rest =>
    obtain ⟨⟨q, rh, rfl, rfl, E⟩, rfl⟩ := hcut
    have pa : q * Y < 18446744073709551616 * 4294967296 := Nat.lt_of_le_of_lt E.out.1 (by have := hUb.out; omega)
    obtain ⟨r1, pr⟩ : ∃ r1, U * 4294967296 + u1 = q * Y + r1 := ⟨U * 4294967296 + u1 - q * Y, by have := E.out.1; omega⟩
    have pl : r1 < Y := by
      have h2 := E.out.2
      rw [Nat.succ_mul] at h2
      omega
    have pw : IntKind.u64.wrap (IntKind.u64.wrap (IntKind.u64.wrap ((U : Int) * 4294967296) + (u1 : Int)) - IntKind.u64.wrap ((q : Int) * (Y : Int))) = (r1 : Int) := by
      rw [IntKind.wrap_u64, IntKind.wrap_u64, IntKind.wrap_u64, IntKind.wrap_u64, num_mul q Y]
      have := HYb.out
      generalize q * Y = T at pr
      omega
    have pR : Hid (U * 4294967296 + u1 = q * Y + r1) := pr
    have pL : Hid (r1 < Y) := pl
    have pq : q < 4294967296 := dig_lt (y1 := y1) (y0 := y0) (u := U) (d := u1) (by omega) (by rw [← HYd.out]; exact HUY.out) (by rw [← HYd.out]; exact E.out.1)
    clear pa pr pl
    have HrY := Lib.hid (Nat.lt_trans pL.out HYb.out)
    have HUY2 := pL
    have HY2 : Hid (r1 < y1 * 4294967296 + y0) := by rw [← HYd.out]; exact pL.out
    have f1 : (r1 : Int).tdiv (y1 : Int) = ((r1 / y1 : Nat) : Int) := rfl
    have f5 : (r1 : Int) / (y1 : Int) = ((r1 / y1 : Nat) : Int) := by simp
    have fs := dig_start (u := r1) (y1 := y1) (y0 := y0) b5 (by omega)
    have fm := Nat.div_add_mod r1 y1
    have fl := Nat.mod_lt r1 (show 0 < y1 by omega)
    have fn := HrY.out
    have fk := Nat.div_le_self r1 y1
    rw [Nat.mul_comm] at fm
    have HS2 : r1 / y1 ≤ 4294967297 := start_le b1 b3 (by rw [← HYd.out]; exact HUY2.out)
    obtain ⟨fq, fq'⟩ : ∃ q, r1 / y1 = q := ⟨_, rfl⟩
    obtain ⟨fr, fr'⟩ : ∃ r, r1 % y1 = r := ⟨_, rfl⟩
    rw [fq'] at f1 f5 fs fm fk HS2
    rw [fr'] at fm fl fs
    obtain ⟨fp, fp'⟩ : ∃ p, fq * y1 = p := ⟨_, rfl⟩
    have f2 : IntKind.u64.wrap (fq : Int) = (fq : Int) := u64w _ (by omega)
    have f3 : IntKind.u64.wrap ((fq : Int) * (y1 : Int)) = (fp : Int) := by rw [num_mul, fp']; exact u64w _ (by omega)
    have f4 : IntKind.u64.wrap ((r1 : Int) - (fp : Int)) = (fr : Int) := by
      rw [show (r1 : Int) - (fp : Int) = (fr : Int) from by omega]
      exact u64w _ (by omega)
    have f6 : IntKind.u64.wrap ((r1 : Int).tdiv (y1 : Int)) = (fq : Int) := by rw [f1, f2]
    have fS := Lib.hid fs
    have fL : fr < 4294967296 := by omega
    clear fm fl fn fk fq' fr' fp' fs f1
    go_upto_block 2 with fail
    go_cut [18, 16] from 102 to 120 (fun a b wx => (∃ q rh : Nat, a = .int .u64 q ∧ b = .int .u64 rh ∧ Hid (DigEnd r1 u0 Y q)) ∧ w1 = wx)
    case first =>
      go_wp2_with fail
      go_loopw [18, 16] (fun a b wr => ∃ q rh : Nat, a = .int .u64 q ∧ b = .int .u64 rh ∧ w1 = wr ∧ rh < 4294967296 ∧ q ≤ 4294967297 ∧ Hid (Dig r1 u0 y1 y0 q rh)) (fun a _ _ => (intOf a).toNat)
      case atStart => exact ⟨_, _, rfl, rfl, rfl, by omega, by omega, fS.out⟩
      case round =>
        obtain ⟨q, rh, rfl, rfl, rfl, hrh, hq, D⟩ := hrel
        have ha : IntKind.u64.wrap ((rh : Int) + (y1 : Int)) = ((rh + y1 : Nat) : Int) := u64w _ (by omega)
        obtain ⟨r2, hr2⟩ : ∃ r2, rh + y1 = r2 := ⟨_, rfl⟩
        rw [hr2] at ha
        by_cases hq2 : 4294967296 ≤ q
        · have hb : IntKind.u64.wrap ((q : Int) - 1) = ((q - 1 : Nat) : Int) := by
            rw [show (q : Int) - 1 = ((q - 1 : Nat) : Int) from by omega]
            exact u64w _ (by omega)
          have D2 : Hid (Dig r1 u0 y1 y0 (q - 1) (rh + y1)) := dig_down1 D.out b5 HY2.out hq2
          rw [hr2] at D2
          obtain ⟨q2, hq2'⟩ : ∃ q2, q - 1 = q2 := ⟨_, rfl⟩
          rw [hq2'] at D2 hb
          have hm : q2 < q ∧ q2 ≤ 4294967296 := by omega
          have hqa : decide ((4294967296 : Int) ≤ (q : Int)) = true := decide_eq_true (by omega)
          have Hm := Lib.hid hm
          have Hrh := Lib.hid hrh
          have Hq := Lib.hid hq
          clear hq2' hr2 hq2 hm hrh hq
          by_cases hr3 : 4294967296 ≤ r2
          · have hra : decide ((4294967296 : Int) ≤ (r2 : Int)) = true := decide_eq_true (by omega)
            have E2 : Hid (DigEnd r1 u0 Y q2) := ⟨by rw [HYd.out]; exact dig_end2 D2.out Hm.out.2 b3 hr3, by rw [HYd.out]; exact D2.out.up⟩
            clear hr3
            go_wp2_with fail
            go_meet
            case rel => exact ⟨⟨_, _, rfl, rfl, E2⟩, rfl⟩
          · have hra : decide ((4294967296 : Int) ≤ (r2 : Int)) = false := decide_eq_false (by omega)
            have Hr3 := Lib.hid hr3
            clear hr3
            go_wp2_with fail
            go_roundw
            case rel => exact ⟨q2, r2, rfl, rfl, trivial, by have := Hr3.out; omega, by have := Hm.out; omega, D2⟩
            case measure =>
              have := Hm.out
              simp [intOf]; omega
        · have hp1 : q * y0 < 18446744073709551616 := by
            have := Nat.mul_le_mul (show q ≤ 4294967295 by omega) (show y0 ≤ 4294967295 by omega)
            omega
          have hp : IntKind.u64.wrap ((q : Int) * (y0 : Int)) = ((q * y0 : Nat) : Int) := by rw [num_mul]; exact u64w _ hp1
          have hr : IntKind.u64.wrap (4294967296 * (rh : Int)) = ((4294967296 * rh : Nat) : Int) := by
            rw [show 4294967296 * (rh : Int) = ((4294967296 * rh : Nat) : Int) from by omega]
            exact u64w _ (by omega)
          have hs : IntKind.u64.wrap (((4294967296 * rh : Nat) : Int) + (u0 : Int)) = ((4294967296 * rh + u0 : Nat) : Int) := by rw [num_add]; exact u64w _ (by omega)
          obtain ⟨R, hR⟩ : ∃ R, 4294967296 * rh = R := ⟨_, rfl⟩
          rw [hR] at hr hs
          obtain ⟨R2, hR2⟩ : ∃ R2, R + u0 = R2 := ⟨_, rfl⟩
          rw [hR2] at hs
          obtain ⟨p, hpe⟩ : ∃ p, q * y0 = p := ⟨_, rfl⟩
          rw [hpe] at hp hp1
          have hpd : Hid (q * y0 = p) := hpe
          clear hpe
          by_cases hc : R2 < p
          · obtain ⟨D2', hq1⟩ := dig_down2 D.out (show 4294967296 * rh + u0 < q * y0 by rw [hpd.out, hR, hR2]; exact hc)
            have D2 := Lib.hid D2'
            rw [hr2] at D2
            have hb : IntKind.u64.wrap ((q : Int) - 1) = ((q - 1 : Nat) : Int) := by
              rw [show (q : Int) - 1 = ((q - 1 : Nat) : Int) from by omega]
              exact u64w _ (by omega)
            obtain ⟨q2, hq2'⟩ : ∃ q2, q - 1 = q2 := ⟨_, rfl⟩
            rw [hq2'] at D2 hb
            have hm : q2 < q ∧ q2 ≤ 4294967296 := by omega
            have hqa : decide ((4294967296 : Int) ≤ (q : Int)) = false := decide_eq_false (by omega)
            have hca : decide (R2 < p) = true := decide_eq_true hc
            have Hm := Lib.hid hm
            clear hq2' hr2 hR hR2 D2' hp1 hq2 hm hrh hq
            by_cases hr3 : 4294967296 ≤ r2
            · have hra : decide ((4294967296 : Int) ≤ (r2 : Int)) = true := decide_eq_true (by omega)
              have E2 : Hid (DigEnd r1 u0 Y q2) := ⟨by rw [HYd.out]; exact dig_end2 D2.out Hm.out.2 b3 hr3, by rw [HYd.out]; exact D2.out.up⟩
              clear hr3
              go_wp2_with fail
              go_meet
              case rel => exact ⟨⟨_, _, rfl, rfl, E2⟩, rfl⟩
            · have hra : decide ((4294967296 : Int) ≤ (r2 : Int)) = false := decide_eq_false (by omega)
              have Hr3 := Lib.hid hr3
              clear hr3
              go_wp2_with fail
              go_roundw
              case rel => exact ⟨q2, r2, rfl, rfl, trivial, by have := Hr3.out; omega, by have := Hm.out; omega, D2⟩
              case measure =>
                have := Hm.out
                simp [intOf]; omega
          · have E2 : Hid (DigEnd r1 u0 Y q) := ⟨by rw [HYd.out]; exact dig_end1 D.out (by rw [hpd.out, hR, hR2]; omega), by rw [HYd.out]; exact D.out.up⟩
            have hqa : decide ((4294967296 : Int) ≤ (q : Int)) = false := decide_eq_false (by omega)
            have hca : decide (R2 < p) = false := decide_eq_false hc
            clear hr2 hR hR2 hp1 hq2 hrh hq
            go_wp2_with fail
            go_meet
            case rel => exact ⟨⟨_, _, rfl, rfl, E2⟩, rfl⟩
    case rest =>
      obtain ⟨⟨q0, rh0, rfl, rfl, E0⟩, rfl⟩ := hcut
      have ga : q0 * Y < 18446744073709551616 * 4294967296 := Nat.lt_of_le_of_lt E0.out.1 (by have := HrY.out; omega)
      obtain ⟨r0, gr⟩ : ∃ r0, r1 * 4294967296 + u0 = q0 * Y + r0 := ⟨r1 * 4294967296 + u0 - q0 * Y, by have := E0.out.1; omega⟩
      have gl : r0 < Y := by
        have h2 := E0.out.2
        rw [Nat.succ_mul] at h2
        omega
      have gw : IntKind.u64.wrap (IntKind.u64.wrap (IntKind.u64.wrap ((r1 : Int) * 4294967296) + (u0 : Int)) - IntKind.u64.wrap ((q0 : Int) * (Y : Int))) = (r0 : Int) := by
        rw [IntKind.wrap_u64, IntKind.wrap_u64, IntKind.wrap_u64, IntKind.wrap_u64, num_mul q0 Y]
        have := HYb.out
        generalize q0 * Y = T at gr
        omega
      have gR : Hid (r1 * 4294967296 + u0 = q0 * Y + r0) := gr
      have gL : Hid (r0 < Y) := gl
      have gq : q0 < 4294967296 := dig_lt (y1 := y1) (y0 := y0) (u := r1) (d := u0) (by omega) (by rw [← HYd.out]; exact pL.out) (by rw [← HYd.out]; exact E0.out.1)
      clear ga gr gl
      obtain ⟨qq, hqq⟩ : ∃ qq, q * 4294967296 = qq := ⟨_, rfl⟩
      obtain ⟨Q, hQ⟩ : ∃ Q, qq + q0 = Q := ⟨_, rfl⟩
      have k1 : IntKind.u64.wrap ((q : Int) * 4294967296) = (qq : Int) := by
        rw [show (q : Int) * 4294967296 = (qq : Int) from by omega]
        exact u64w _ (by omega)
      have k2 : IntKind.u64.wrap ((qq : Int) + (q0 : Int)) = (Q : Int) := by
        rw [show (qq : Int) + (q0 : Int) = (Q : Int) from by omega]
        exact u64w _ (by omega)
      have k3 : (r0 : Int) / 2 ^ s = ((r0 / 2 ^ s : Nat) : Int) := Hi5.out r0
      obtain ⟨r, hr⟩ : ∃ r, r0 / 2 ^ s = r := ⟨_, rfl⟩
      have hf := two_digits (N := hi * 18446744073709551616 + lo) (y := y) Ht0.out HN.out (by rw [HYe.out]; exact pR.out) (by rw [HYe.out]; exact gR.out) (by rw [HYe.out]; exact gL.out)
      rw [hr] at k3 hf
      rw [hqq, hQ] at hf
      have Hf := Lib.hid hf
      clear hf hQ hr hqq
      go_wp2_with fail
      go_ret2
      exact ⟨by rw [Hf.out.1, Hf.out.2]; rfl, Below.refl _ _⟩
end Go.Proofs.Ytojealgjfbjnoaa
