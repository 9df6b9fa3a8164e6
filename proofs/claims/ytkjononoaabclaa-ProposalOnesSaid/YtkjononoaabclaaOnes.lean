/- The contracts of the document's answer for one value, and on the average, and of the program's. Condition: the numbers are of 64 bits. -/
import Derived.Test.YtkjononoaabclaaProp5
import Derived.Test.YtkjononoaabclaaBits6
namespace Go.Proofs.Ytkjononoaabclaa
open Go.ChangeShapes Go.WideShapes Go.ChangeAt Go.RowKit Go.Deep

theorem okQ_and (m : Int) : okQ m = (decide (0 ≤ m) && decide (m ≤ 9007199254740992)) := by
  unfold okQ
  rw [Bool.decide_and]

set_option maxRecDepth 100000 in
set_option maxHeartbeats 3200000 in
theorem rwhole_any (m : Int) (w : World)  :
    Calls Try.prog 27 #[.int .i64 m] w fun e w' => e = .returned (.bool (okQ m)) ∧ Below w.heap.size w w' := by
  have Hb : Hid (Below w.heap.size w w) := Below.refl _ _
  have HE : Hid ((okQ m) = (decide (0 ≤ m) && decide (m ≤ 9007199254740992))) := by
    show _ = _
    exact okQ_and m
  obtain ⟨b1, h_b1⟩ : ∃ b, (decide (0 ≤ m)) = b := ⟨_, rfl⟩
  rw [h_b1] at HE
  obtain ⟨b2, h_b2⟩ : ∃ b, (decide (m ≤ 9007199254740992)) = b := ⟨_, rfl⟩
  rw [h_b2] at HE
  rcases b1 with _ | _
  · go_enter Try.func27, Try.ntmps27
    go_wp2_with fail
    go_ret
    exact ⟨ret_bool HE.out.symm, Hb.out⟩
  · go_enter Try.func27, Try.ntmps27
    go_wp2_with fail
    go_ret
    exact ⟨ret_bool HE.out.symm, Hb.out⟩

set_option maxRecDepth 100000 in
set_option maxHeartbeats 3200000 in
theorem rright_any (kind target rep tol : Int) (nm : ByteArray) (w : World)  :
    Calls Try.prog 26 #[.agg #[.int .i64 kind, .string nm, .int .i64 target], .int .i64 rep, .int .i64 tol] w fun e w' => e = .returned (.bool (rightP target rep tol)) ∧ Below w.heap.size w w' := by
  have Hb : Hid (Below w.heap.size w (w.alloc (.cells #[.int .i64 kind, .string nm, .int .i64 target] 24))) := (Below.refl w.heap.size w).alloc (Nat.le_refl _) _
  have k0 : (w.alloc (.cells #[.int .i64 kind, .string nm, .int .i64 target] 24)).cell? ⟨w.heap.size, 0, none⟩ = some (.int .i64 kind) := cell_new w _ _ 0
  have k1 : (w.alloc (.cells #[.int .i64 kind, .string nm, .int .i64 target] 24)).cell? ⟨w.heap.size, 1, none⟩ = some (.string nm) := cell_new w _ _ 1
  have k2 : (w.alloc (.cells #[.int .i64 kind, .string nm, .int .i64 target] 24)).cell? ⟨w.heap.size, 2, none⟩ = some (.int .i64 target) := cell_new w _ _ 2
  have HE : Hid ((rightP target rep tol) = (decide (0 ≤ rep) && (decide (rep ≤ 1000000) && (decide (0 ≤ tol) && (decide (tol ≤ 1000) && (okQ target && (target != 0))))))) := by
    show _ = _
    unfold rightP
    have e : (okQ target && decide (0 < target)) = (okQ target && (target != 0)) := by
      cases h : okQ target
      · rfl
      · have h := of_decide_eq_true h
        rw [Bool.true_and, Bool.true_and, bne, Bool.eq_iff_iff]
        simp
        omega
    rw [e]
  have H_b5 : Hid (∀ w1, Below w.heap.size w w1 → Calls Try.prog 27 #[.int .i64 target] w1 fun e w' => e = .returned (.bool (okQ target)) ∧ Below w1.heap.size w1 w') := fun w1 hb => rwhole_any target w1
  obtain ⟨b1, h_b1⟩ : ∃ b, (decide (0 ≤ rep)) = b := ⟨_, rfl⟩
  rw [h_b1] at HE
  obtain ⟨b2, h_b2⟩ : ∃ b, (decide (rep ≤ 1000000)) = b := ⟨_, rfl⟩
  rw [h_b2] at HE
  obtain ⟨b3, h_b3⟩ : ∃ b, (decide (0 ≤ tol)) = b := ⟨_, rfl⟩
  rw [h_b3] at HE
  obtain ⟨b4, h_b4⟩ : ∃ b, (decide (tol ≤ 1000)) = b := ⟨_, rfl⟩
  rw [h_b4] at HE
  obtain ⟨b5, h_b5⟩ : ∃ b, (okQ target) = b := ⟨_, rfl⟩
  rw [h_b5] at HE H_b5
  obtain ⟨b6, h_b6⟩ : ∃ b, ((target != 0)) = b := ⟨_, rfl⟩
  rw [h_b6] at HE
  clear h_b5
  rcases b1 with _ | _
  · go_enter Try.func26, Try.ntmps26
    go_wp2_with fail
    go_ret
    exact ⟨ret_bool HE.out.symm, Hb.out⟩
  · rcases b2 with _ | _
    · go_enter Try.func26, Try.ntmps26
      go_wp2_with fail
      go_ret
      exact ⟨ret_bool HE.out.symm, Hb.out⟩
    · rcases b3 with _ | _
      · go_enter Try.func26, Try.ntmps26
        go_wp2_with fail
        go_ret
        exact ⟨ret_bool HE.out.symm, Hb.out⟩
      · rcases b4 with _ | _
        · go_enter Try.func26, Try.ntmps26
          go_wp2_with fail
          go_ret
          exact ⟨ret_bool HE.out.symm, Hb.out⟩
        · rcases b5 with _ | _
          · go_enter Try.func26, Try.ntmps26
            go_wp2_with fail
            refine (H_b5.out _ Hb.out).mono ?_
            rintro e wb5 ⟨rfl, hb⟩
            replace k0 := Below.cell_some hb k0
            replace k1 := Below.cell_some hb k1
            replace k2 := Below.cell_some hb k2
            replace Hb := Lib.hid (Hb.out.trans (hb.mono Hb.out.size))
            clear hb
            go_wp2_with fail
            go_ret
            exact ⟨ret_bool HE.out.symm, Hb.out⟩
          · go_enter Try.func26, Try.ntmps26
            go_wp2_with fail
            refine (H_b5.out _ Hb.out).mono ?_
            rintro e wb5 ⟨rfl, hb⟩
            replace k0 := Below.cell_some hb k0
            replace k1 := Below.cell_some hb k1
            replace k2 := Below.cell_some hb k2
            replace Hb := Lib.hid (Hb.out.trans (hb.mono Hb.out.size))
            clear hb
            go_wp2_with fail
            go_ret
            exact ⟨ret_bool HE.out.symm, Hb.out⟩


theorem small_blen {n : Nat} (h : n < 18446744073709551616) : blen n ≤ 64 := blen_le (by simpa using h)

theorem cmpN_le (a b : Nat) : cmpN a b ≤ 0 ↔ a ≤ b := by
  unfold cmpN
  repeat' split
  all_goals omega

set_option maxRecDepth 100000 in
set_option maxHeartbeats 1000000 in
theorem rnear03_any (u g t : Nat) (w : World) (hu : u ≤ 9007199254740992) (hg : g ≤ 9007199254740992) (ht : t ≤ 1000) :
    Calls Try.prog 28 #[.int .u64 u, .int .u64 g, .int .u64 t] w fun e w' => e = .returned (.bool (decide (nearI u g t))) ∧ Below w.heap.size w w' := by
  obtain ⟨a, ha⟩ : ∃ a : Nat, a = max u g - min u g := ⟨_, rfl⟩
  have ha2 : a < 18446744073709551616 := by omega
  have HA := Lib.hid (fun w1 => of_any01 a w1 ha2)
  have HK : Hid (∀ w1 : World, Calls Try.prog 39 #[.int .u64 1000] w1 fun e w' => (∃ v, e = .returned v ∧ NumAt w' v 1000) ∧ Below w1.heap.size w1 w') := fun w1 => of_any01 1000 w1 (by decide)
  have HG := Lib.hid (fun w1 => of_any01 g w1 (by omega))
  have HT := Lib.hid (fun w1 => of_any01 t w1 (by omega))
  have b1 := small_blen ha2
  have b2 := small_blen (n := 1000) (by decide)
  have b3 := small_blen (n := g) (by omega)
  have b4 := small_blen (n := t) (by omega)
  have HM1 := Lib.hid (fun (v1 v2 : Value) (w1 : World) (h1 : NumAt w1 v1 a) (h2 : NumAt w1 v2 1000) => mul_num v1 v2 a 1000 w1 h1 h2 (by omega) (by omega))
  have HM2 := Lib.hid (fun (v1 v2 : Value) (w1 : World) (h1 : NumAt w1 v1 g) (h2 : NumAt w1 v2 t) => mul_num v1 v2 g t w1 h1 h2 (by omega) (by omega))
  have c1 := blen_mul a 1000
  have c2 := blen_mul g t
  have HC := Lib.hid (fun (v1 v2 : Value) (w1 : World) (h1 : NumAt w1 v1 (a * 1000)) (h2 : NumAt w1 v2 (g * t)) => cmp_num v1 v2 (a * 1000) (g * t) w1 h1 h2 (by omega) (by omega))
  have HN : Hid (decide (nearI (u : Int) g t) = decide (cmpN (a * 1000) (g * t) ≤ 0)) := by
    show _ = _
    rw [decide_eq_decide, cmpN_le]
    unfold nearI
    have h1 : max (u : Int) g - min (u : Int) g = (a : Int) := by omega
    rw [h1, ← Int.natCast_mul t g, Nat.mul_comm t g]
    omega
  obtain ⟨P, hP⟩ : ∃ P, a * 1000 = P := ⟨_, rfl⟩
  obtain ⟨Q, hQ⟩ : ∃ Q, g * t = Q := ⟨_, rfl⟩
  rw [hP] at HM1 HC HN
  rw [hQ] at HM2 HC HN
  obtain ⟨c, hc⟩ : ∃ c, cmpN P Q = c := ⟨_, rfl⟩
  rw [hc] at HC HN
  obtain ⟨b, hb⟩ : ∃ b, decide (nearI (u : Int) g t) = b := ⟨_, rfl⟩
  rw [hb] at HN ⊢
  have Ha := Lib.hid ha
  clear hP hQ hc hb b1 b2 b3 b4 c1 c2 ha2 ha
  go_enter Try.func28, Try.ntmps28
  by_cases hug : u < g
  · have hd : decide (u < g) = true := decide_eq_true hug
    have w1 : IntKind.u64.wrap ((g : Int) - (u : Int)) = (a : Int) := by
      have := Ha.out
      rw [show (g : Int) - (u : Int) = (a : Int) from by omega]
      exact u64w _ (by omega)
    clear hu hg
    go_wp2_with fail
    refine (HA.out _).mono ?_
    rintro e w2 ⟨⟨v1, rfl, n1⟩, hb2⟩
    have N1 := Lib.hid n1
    have B2 := Lib.hid hb2
    clear n1 hb2
    go_wp2_with fail
    refine (HK.out _).mono ?_
    rintro e w3 ⟨⟨v2, rfl, n2⟩, hb3⟩
    have HM := Lib.hid (HM1.out v1 v2 w3 (N1.out.below hb3) n2)
    have B3 := Lib.hid (B2.out.trans (hb3.mono B2.out.size))
    clear n2 hb3
    go_wp2_with fail
    refine HM.out.mono ?_
    rintro e w4 ⟨⟨v3, rfl, n3⟩, hb4⟩
    have N3 := Lib.hid n3
    have B4 := Lib.hid (B3.out.trans (hb4.mono B3.out.size))
    clear n3 hb4
    go_wp2_with fail
    refine (HG.out _).mono ?_
    rintro e w5 ⟨⟨v4, rfl, n4⟩, hb5⟩
    have N4 := Lib.hid n4
    have N3' := Lib.hid (N3.out.below hb5)
    have B5 := Lib.hid (B4.out.trans (hb5.mono B4.out.size))
    clear n4 hb5
    go_wp2_with fail
    refine (HT.out _).mono ?_
    rintro e w6 ⟨⟨v5, rfl, n5⟩, hb6⟩
    have HMm := Lib.hid (HM2.out v4 v5 w6 (N4.out.below hb6) n5)
    have N3q := Lib.hid (N3'.out.below hb6)
    have B6 := Lib.hid (B5.out.trans (hb6.mono B5.out.size))
    clear n5 hb6
    go_wp2_with fail
    refine HMm.out.mono ?_
    rintro e w7 ⟨⟨v6, rfl, n6⟩, hb7⟩
    have HCc := Lib.hid (HC.out v3 v6 w7 (N3q.out.below hb7) n6)
    have B7 := Lib.hid (B6.out.trans (hb7.mono B6.out.size))
    clear n6 hb7
    go_wp2_with fail
    refine HCc.out.mono ?_
    rintro e w8 ⟨rfl, rfl⟩
    go_wp2_with fail
    go_ret
    exact ⟨ret_bool HN.out.symm, B7.out⟩
  · have hd : decide (u < g) = false := decide_eq_false hug
    have w1 : IntKind.u64.wrap ((u : Int) - (g : Int)) = (a : Int) := by
      have := Ha.out
      rw [show (u : Int) - (g : Int) = (a : Int) from by omega]
      exact u64w _ (by omega)
    clear hu hg
    go_wp2_with fail
    refine (HA.out _).mono ?_
    rintro e w2 ⟨⟨v1, rfl, n1⟩, hb2⟩
    have N1 := Lib.hid n1
    have B2 := Lib.hid hb2
    clear n1 hb2
    go_wp2_with fail
    refine (HK.out _).mono ?_
    rintro e w3 ⟨⟨v2, rfl, n2⟩, hb3⟩
    have HM := Lib.hid (HM1.out v1 v2 w3 (N1.out.below hb3) n2)
    have B3 := Lib.hid (B2.out.trans (hb3.mono B2.out.size))
    clear n2 hb3
    go_wp2_with fail
    refine HM.out.mono ?_
    rintro e w4 ⟨⟨v3, rfl, n3⟩, hb4⟩
    have N3 := Lib.hid n3
    have B4 := Lib.hid (B3.out.trans (hb4.mono B3.out.size))
    clear n3 hb4
    go_wp2_with fail
    refine (HG.out _).mono ?_
    rintro e w5 ⟨⟨v4, rfl, n4⟩, hb5⟩
    have N4 := Lib.hid n4
    have N3' := Lib.hid (N3.out.below hb5)
    have B5 := Lib.hid (B4.out.trans (hb5.mono B4.out.size))
    clear n4 hb5
    go_wp2_with fail
    refine (HT.out _).mono ?_
    rintro e w6 ⟨⟨v5, rfl, n5⟩, hb6⟩
    have HMm := Lib.hid (HM2.out v4 v5 w6 (N4.out.below hb6) n5)
    have N3q := Lib.hid (N3'.out.below hb6)
    have B6 := Lib.hid (B5.out.trans (hb6.mono B5.out.size))
    clear n5 hb6
    go_wp2_with fail
    refine HMm.out.mono ?_
    rintro e w7 ⟨⟨v6, rfl, n6⟩, hb7⟩
    have HCc := Lib.hid (HC.out v3 v6 w7 (N3q.out.below hb7) n6)
    have B7 := Lib.hid (B6.out.trans (hb7.mono B6.out.size))
    clear n6 hb7
    go_wp2_with fail
    refine HCc.out.mono ?_
    rintro e w8 ⟨rfl, rfl⟩
    go_wp2_with fail
    go_ret
    exact ⟨ret_bool HN.out.symm, B7.out⟩


theorem num_len {w : World} {v : Value} {n : Nat} (h : NumAt w v n) : ∃ a len cap, v = .slice (some a) len cap ∧ (len = 0 ↔ n = 0) := by
  obtain ⟨a, len, cap, rfl, hB⟩ := h
  refine ⟨a, len, cap, rfl, ?_⟩
  have e : blen n = len := hB.read.hlen
  have h2 := lt_blen n
  constructor
  · intro h0
    rw [e, h0] at h2
    simpa using h2
  · rintro rfl
    have := blen_le (n := 0) (k := 0) (by decide)
    omega

set_option maxRecDepth 100000 in
set_option maxHeartbeats 2000000 in
theorem rceil03_any (a b y most : Nat) (w : World) (ha : a < 18446744073709551616) (hb : b < 18446744073709551616) (hy : 0 < y) (hy2 : y < 18446744073709551616) (hm : most < 18446744073709551616) :
    Calls Try.prog 29 #[.int .u64 a, .int .u64 b, .int .u64 y, .int .u64 most] w fun e w' => e = .returned (.int .u64 (min (mdOf (a * b) y true) most : Nat)) ∧ Below w.heap.size w w' := by
  have HA := Lib.hid (fun w1 => of_any01 a w1 ha)
  have HB := Lib.hid (fun w1 => of_any01 b w1 hb)
  have HY := Lib.hid (fun w1 => of_any01 y w1 hy2)
  have HO : Hid (∀ w1 : World, Calls Try.prog 39 #[.int .u64 1] w1 fun e w' => (∃ v, e = .returned v ∧ NumAt w' v 1) ∧ Below w1.heap.size w1 w') := fun w1 => of_any01 1 w1 (by decide)
  have HT := Lib.hid (fun w1 => of_any01 most w1 hm)
  have b1 := small_blen ha
  have b2 := small_blen hb
  have b3 := small_blen hy2
  have b4 := small_blen hm
  have b5 := small_blen (n := 1) (by decide)
  have HM1 := Lib.hid (fun (v1 v2 : Value) (w1 : World) (h1 : NumAt w1 v1 a) (h2 : NumAt w1 v2 b) => mul_num v1 v2 a b w1 h1 h2 (by omega) (by omega))
  have c1 := blen_mul a b
  have c2 : blen (a * b / y) ≤ 128 := Nat.le_trans (blen_mono (Nat.div_le_self _ _)) (by omega)
  have HD := Lib.hid (fun (v1 v2 : Value) (w1 : World) (h1 : NumAt w1 v1 (a * b)) (h2 : NumAt w1 v2 y) => div_num v1 v2 (a * b) y w1 h1 h2 (by omega) (by omega) hy)
  have HP := Lib.hid (fun (v1 v2 : Value) (w1 : World) (h1 : NumAt w1 v1 (a * b / y)) (h2 : NumAt w1 v2 1) => add_num v1 v2 (a * b / y) 1 w1 h1 h2 (by omega) (by omega))
  have c3 := blen_add (a * b / y) 1 128 c2 (by omega)
  have HMd : Hid (mdOf (a * b) y true = if true = true ∧ 0 < a * b % y then a * b / y + 1 else a * b / y) := rfl
  have HC := Lib.hid (fun (x : Nat) (hx : blen x ≤ 129) (v1 v2 : Value) (w1 : World) (h1 : NumAt w1 v1 x) (h2 : NumAt w1 v2 most) => cmp_num v1 v2 x most w1 h1 h2 (by omega) (by omega))
  have HN := Lib.hid (fun (x : Nat) (hx : x < 18446744073709551616) (v : Value) (w1 : World) (h1 : NumAt w1 v x) => number_num v x w1 h1 hx)
  obtain ⟨P, hP⟩ : ∃ P, a * b = P := ⟨_, rfl⟩
  rw [hP] at HM1 HD HP HMd c2 c3 ⊢
  obtain ⟨q, hq⟩ : ∃ q, P / y = q := ⟨_, rfl⟩
  obtain ⟨r, hr⟩ : ∃ r, P % y = r := ⟨_, rfl⟩
  rw [hq] at HD HP HMd c2 c3
  rw [hr] at HD HMd
  obtain ⟨m, hmd⟩ : ∃ m, mdOf P y true = m := ⟨_, rfl⟩
  rw [hmd] at HMd ⊢
  obtain ⟨mm, hmm⟩ : ∃ mm, min m most = mm := ⟨_, rfl⟩
  rw [hmm]
  have HMn := Lib.hid hmm
  have C2 := Lib.hid c2
  have C3 := Lib.hid c3
  have Hm := Lib.hid hm
  clear hmm hP hq hr hmd b1 b2 b3 b4 b5 c1 c2 c3 ha hb hy hy2 hm
  go_enter Try.func29, Try.ntmps29
  go_wp2_with fail
  refine (HA.out _).mono ?_
  rintro e w2 ⟨⟨v1, rfl, n1⟩, hb2⟩
  have N1 := Lib.hid n1
  have B2 := Lib.hid hb2
  clear n1 hb2
  go_wp2_with fail
  refine (HB.out _).mono ?_
  rintro e w3 ⟨⟨v2, rfl, n2⟩, hb3⟩
  have HM := Lib.hid (HM1.out v1 v2 w3 (N1.out.below hb3) n2)
  have B3 := Lib.hid (B2.out.trans (hb3.mono B2.out.size))
  clear n2 hb3
  go_wp2_with fail
  refine HM.out.mono ?_
  rintro e w4 ⟨⟨v3, rfl, n3⟩, hb4⟩
  have N3 := Lib.hid n3
  have B4 := Lib.hid (B3.out.trans (hb4.mono B3.out.size))
  clear n3 hb4
  go_wp2_with fail
  refine (HY.out _).mono ?_
  rintro e w5 ⟨⟨v4, rfl, n4⟩, hb5⟩
  have HDd := Lib.hid (HD.out v3 v4 w5 (N3.out.below hb5) n4)
  have B5 := Lib.hid (B4.out.trans (hb5.mono B4.out.size))
  clear n4 hb5
  go_wp2_with fail
  refine HDd.out.mono ?_
  rintro e w6 ⟨⟨vq, vr, rfl, nq, nr⟩, hb6⟩
  obtain ⟨ar, lr, cr, rfl, hlr⟩ := num_len nr
  have Nq := Lib.hid nq
  have B6 := Lib.hid (B5.out.trans (hb6.mono B5.out.size))
  clear nq nr hb6
  by_cases hr0 : r = 0
  · obtain rfl : lr = 0 := hlr.2 hr0
    have HX : Hid (m = q) := HMd.out.trans (if_neg (fun h => by omega))
    obtain rfl : m = q := HX.out
    clear hlr hr0
    go_wp2_with fail
    refine (HT.out _).mono ?_
    rintro e w9 ⟨⟨v9, rfl, n9⟩, hb9⟩
    have N9 := Lib.hid (Nq.out.below hb9)
    have HCc := Lib.hid (HC.out m (by have := C2.out; omega) _ v9 w9 N9.out n9)
    have B9 := Lib.hid (B6.out.trans (hb9.mono B6.out.size))
    clear n9 hb9
    have hcl := cmpN_le m most
    obtain ⟨cc, hcc⟩ : ∃ cc, cmpN m most = cc := ⟨_, rfl⟩
    rw [hcc] at HCc hcl
    clear hcc
    go_wp2_with fail
    refine HCc.out.mono ?_
    rintro e w10 ⟨rfl, rfl⟩
    by_cases hle : m ≤ most
    · have HMi := Lib.hid (HMn.out.symm.trans (Nat.min_eq_left hle))
      have hcd : decide (0 < cc) = false := decide_eq_false (by have := hcl.2 hle; omega)
      have HNn := Lib.hid (HN.out m (by have := Hm.out; omega) _ w9 N9.out)
      clear hcl hle
      go_wp2_with fail
      refine HNn.out.mono ?_
      rintro e w11 ⟨rfl, rfl⟩
      go_wp2_with fail
      go_ret
      exact ⟨by rw [HMi.out] <;> rfl, B9.out⟩
    · have HMi := Lib.hid (HMn.out.symm.trans (Nat.min_eq_right (by omega)))
      have hcd : decide (0 < cc) = true := decide_eq_true (by have := fun h => hle (hcl.1 h); omega)
      clear hcl hle
      go_wp2_with fail
      go_ret
      exact ⟨by rw [HMi.out] <;> rfl, B9.out⟩
  · have hl0 : 0 < lr := Nat.pos_of_ne_zero fun h => hr0 (hlr.1 h)
    have hld : decide ((0 : Int) < (lr : Int)) = true := decide_eq_true (by omega)
    have hld2 : decide (0 < lr) = true := decide_eq_true hl0
    have HX : Hid (m = q + 1) := HMd.out.trans (if_pos (And.intro (by trivial) (by omega)))
    have hmq := HX.out
    clear hlr hr0
    go_wp2_with fail
    refine (HO.out _).mono ?_
    rintro e w7 ⟨⟨v7, rfl, n7⟩, hb7⟩
    have HPp := Lib.hid (HP.out vq v7 w7 (Nq.out.below hb7) n7)
    have B7 := Lib.hid (B6.out.trans (hb7.mono B6.out.size))
    clear n7 hb7
    rw [← hmq] at HPp C3
    clear hmq HX
    go_wp2_with fail
    refine HPp.out.mono ?_
    rintro e w8 ⟨⟨v8, rfl, n8⟩, hb8⟩
    have N8 := Lib.hid n8
    have B8 := Lib.hid (B7.out.trans (hb8.mono B7.out.size))
    clear n8 hb8
    go_wp2_with fail
    refine (HT.out _).mono ?_
    rintro e w9 ⟨⟨v9, rfl, n9⟩, hb9⟩
    have N9 := Lib.hid (N8.out.below hb9)
    have HCc := Lib.hid (HC.out m (by have := C3.out; omega) _ v9 w9 N9.out n9)
    have B9 := Lib.hid (B8.out.trans (hb9.mono B8.out.size))
    clear n9 hb9
    have hcl := cmpN_le m most
    obtain ⟨cc, hcc⟩ : ∃ cc, cmpN m most = cc := ⟨_, rfl⟩
    rw [hcc] at HCc hcl
    clear hcc
    go_wp2_with fail
    refine HCc.out.mono ?_
    rintro e w10 ⟨rfl, rfl⟩
    by_cases hle : m ≤ most
    · have HMi := Lib.hid (HMn.out.symm.trans (Nat.min_eq_left hle))
      have hcd : decide (0 < cc) = false := decide_eq_false (by have := hcl.2 hle; omega)
      have HNn := Lib.hid (HN.out m (by have := Hm.out; omega) _ w9 N9.out)
      clear hcl hle
      go_wp2_with fail
      refine HNn.out.mono ?_
      rintro e w11 ⟨rfl, rfl⟩
      go_wp2_with fail
      go_ret
      exact ⟨by rw [HMi.out] <;> rfl, B9.out⟩
    · have HMi := Lib.hid (HMn.out.symm.trans (Nat.min_eq_right (by omega)))
      have hcd : decide (0 < cc) = true := decide_eq_true (by have := fun h => hle (hcl.1 h); omega)
      clear hcl hle
      go_wp2_with fail
      go_ret
      exact ⟨by rw [HMi.out] <;> rfl, B9.out⟩

end Go.Proofs.Ytkjononoaabclaa
