/- Contracts of package ratio: some, capped, Need, Whole, Near. Condition: the quantities are right. -/
import Derived.Test.YtojealgjfbjnoaaQuantM
import Derived.Test.YtojealgjfbjnoaaPropPlain
namespace Go.Proofs.Ytojealgjfbjnoaa
open Go.ChangeShapes Go.WideShapes Go.ChangeAt Go.RowKit Go.Deep

theorem some_any (n : Nat) (w : World) (h : n ≤ 1000000) : Calls Try.prog 41 #[.int .i64 n] w fun e w' => e = .returned (.bool true) ∧ w' = w := by
  have h0 : decide ((n : Int) ≤ 1000000) = true := decide_eq_true (by omega)
  go_enter Try.func41, Try.ntmps41
  go_wp2
  go_ret
  exact ⟨ret_bool (by simp), rfl⟩

theorem ceil_md (P g : Nat) (hg : 0 < g) : mdOf P g true = (P + g - 1) / g := by
  unfold mdOf
  have e := Nat.div_add_mod P g
  have hm := Nat.mod_lt P hg
  obtain ⟨q, hq⟩ : ∃ q, P / g = q := ⟨_, rfl⟩
  obtain ⟨r, hr⟩ : ∃ r, P % g = r := ⟨_, rfl⟩
  rw [hq, hr] at e
  rw [hr] at hm
  rw [hq, hr]
  by_cases h : 0 < r
  · rw [if_pos ⟨rfl, h⟩, ← e, show g * q + r + g - 1 = g * (q + 1) + (r - 1) from by rw [Nat.mul_add]; omega, Nat.mul_add_div hg, Nat.div_eq_of_lt (by omega), Nat.add_zero]
  · rw [if_neg (fun h2 => h h2.2), ← e, show g * q + r + g - 1 = g * q + (g - 1) from by omega, Nat.mul_add_div hg, Nat.div_eq_of_lt (by omega), Nat.add_zero]

/-- A number of replicas that are needed. -/
def needN (n u g : Nat) : Nat := min (mdOf (n * u) g true) 1000000

theorem needN_eq (n u g : Nat) (hg : 0 < g) : (needN n u g : Int) = needI n u g := by
  unfold needN needI
  rw [ceil_md _ _ hg]
  have : (((n * u + g - 1) / g : Nat) : Int) = ((n : Int) * u + g - 1) / g := by
    rw [Int.natCast_ediv]
    congr 1
    have : 1 ≤ n * u + g := by omega
    rw [Int.natCast_sub this]
    simp
  omega

set_option maxRecDepth 100000 in
set_option maxHeartbeats 1000000 in
theorem capped_any (n u g : Nat) (w : World) (hn : n < 18446744073709551616) (hu : u < 18446744073709551616) (hg : 0 < g) (hg2 : g < 18446744073709551616) :
    Calls Try.prog 42 #[.int .u64 n, .int .u64 u, .int .u64 g] w fun e w' => e = .returned (.tuple #[.int .i64 (needN n u g), .int .i64 0]) ∧ Below w.heap.size w w' := by
  have HM := Lib.hid (muldiv_any n u g true w hn hu hg hg2)
  have hN : needN n u g = min (mdOf (n * u) g true) 1000000 := rfl
  obtain ⟨q, hq⟩ : ∃ q, mdOf (n * u) g true = q := ⟨_, rfl⟩
  rw [hq] at HM hN
  obtain ⟨m, hm⟩ : ∃ m, needN n u g = m := ⟨_, rfl⟩
  rw [hm] at hN ⊢
  clear hm hq hn hu hg hg2
  by_cases hb : q < 18446744073709551616
  · rw [if_pos hb] at HM
    have w3 : IntKind.i64.wrap (m : Int) = (m : Int) := IntWalk.i64_in _ (by omega)
    by_cases hc : 1000000 < q
    · have hd : decide (1000000 < q) = true := decide_eq_true hc
      obtain rfl : m = 1000000 := by omega
      clear hb hN w3
      go_enter Try.func42, Try.ntmps42
      go_wp2_with (refine HM.out.mono ?_; rintro e w1 ⟨rfl, hb1⟩; have Hb1 := Lib.hid hb1; clear hb1)
      go_ret2
      exact ⟨rfl, Hb1.out⟩
    · have hd : decide (1000000 < q) = false := decide_eq_false hc
      obtain rfl : m = q := by omega
      have w4 : wrap64 (m : Int) = (m : Int) := IntWalk.wrap64_in _ (by omega)
      clear hb hN
      go_enter Try.func42, Try.ntmps42
      go_wp2_with (refine HM.out.mono ?_; rintro e w1 ⟨rfl, hb1⟩; have Hb1 := Lib.hid hb1; clear hb1)
      go_ret2
      exact ⟨rfl, Hb1.out⟩
  · rw [if_neg hb] at HM
    obtain rfl : m = 1000000 := by omega
    clear hb hN
    go_enter Try.func42, Try.ntmps42
    go_wp2_with (refine HM.out.mono ?_; rintro e w1 ⟨rfl, hb1⟩; have Hb1 := Lib.hid hb1; clear hb1)
    go_ret2
    exact ⟨rfl, Hb1.out⟩

theorem qyes (a : Nat) (ha : a ≤ 9007199254740992) (w : World) : Calls Try.prog 17 #[.int .i64 a] w fun e w' => e = .returned (.bool true) ∧ w' = w :=
  (show okQ a = true from decide_eq_true (by omega)) ▸ qright_any a w

set_option maxRecDepth 100000 in
theorem need_any (n u g : Nat) (w : World) (hn : n ≤ 1000000) (hu : u ≤ 9007199254740992) (hg : 0 < g) (hg2 : g ≤ 9007199254740992) :
    Calls Try.prog 25 #[.int .i64 n, .int .i64 u, .int .i64 g] w fun e w' => e = .returned (.tuple #[.int .i64 (needI n u g), .int .i64 0]) ∧ Below w.heap.size w w' := by
  rw [← needN_eq n u g hg]
  have HS : Hid (∀ w1, _) := fun w1 => some_any n w1 hn
  have HU : Hid (∀ w1, _) := fun w1 => qyes u hu w1
  have HG : Hid (∀ w1, _) := fun w1 => qyes g hg2 w1
  have HC := Lib.hid (capped_any n u g w (by omega) (by omega) hg (by omega))
  have w1 : IntKind.u64.wrap (n : Int) = (n : Int) := u64w _ (by omega)
  have w2 : IntKind.u64.wrap (u : Int) = (u : Int) := u64w _ (by omega)
  have w3 : IntKind.u64.wrap (g : Int) = (g : Int) := u64w _ (by omega)
  obtain ⟨m, hm⟩ : ∃ m, needN n u g = m := ⟨_, rfl⟩
  rw [hm] at HC ⊢
  clear hm hn hu hg hg2
  go_enter Try.func25, Try.ntmps25
  go_wp2_with fail
  refine (HS.out _).mono ?_
  rintro e w1 ⟨rfl, rfl⟩
  go_wp2_with fail
  refine (HU.out _).mono ?_
  rintro e w1 ⟨rfl, rfl⟩
  go_wp2_with fail
  refine (HG.out _).mono ?_
  rintro e w1 ⟨rfl, rfl⟩
  go_wp2_with fail
  refine HC.out.mono ?_
  rintro e w1 ⟨rfl, hb1⟩
  have Hb1 := Lib.hid hb1
  clear hb1
  go_wp2_with fail
  go_ret2
  exact ⟨rfl, Hb1.out⟩

set_option maxRecDepth 100000 in
theorem whole_any (u g : Nat) (w : World) (hu : u ≤ 9007199254740992) (hg : 0 < g) (hg2 : g ≤ 9007199254740992) :
    Calls Try.prog 32 #[.int .i64 u, .int .i64 g] w fun e w' => e = .returned (.tuple #[.int .i64 (needI 1 u g), .int .i64 0]) ∧ Below w.heap.size w w' := by
  have HN : Hid (Calls Try.prog 25 #[.int .i64 1, .int .i64 u, .int .i64 g] w fun e w' => e = .returned (.tuple #[.int .i64 (needI 1 u g), .int .i64 0]) ∧ Below w.heap.size w w') := need_any 1 u g w (by omega) hu hg hg2
  obtain ⟨m, hm⟩ : ∃ m, needI 1 u g = m := ⟨_, rfl⟩
  rw [hm] at HN ⊢
  clear hm hu hg hg2
  go_enter Try.func32, Try.ntmps32
  go_wp2_with fail
  refine HN.out.mono ?_
  rintro e w1 ⟨rfl, hb1⟩
  have Hb1 := Lib.hid hb1
  clear hb1
  go_wp2_with fail
  go_ret2
  exact ⟨rfl, Hb1.out⟩

set_option maxRecDepth 100000 in
theorem rnear_none (u t : Nat) (w : World) (hu : u ≤ 9007199254740992) (ht : t ≤ 1000) :
    Calls Try.prog 40 #[.int .i64 u, .int .i64 0, .int .i64 t] w fun e w' => e = .returned (.tuple #[.bool false, .int .i64 5]) ∧ Below w.heap.size w w' := by
  have HU : Hid (∀ w1, _) := fun w1 => qyes u hu w1
  have HG : Hid (∀ w1, Calls Try.prog 17 #[.int .i64 0] w1 fun e w' => e = .returned (.bool true) ∧ w' = w1) := fun w1 => qyes 0 (by omega) w1
  have d1 : decide ((t : Int) < 0) = false := decide_eq_false (by omega)
  have d2 : decide ((1000 : Int) < (t : Int)) = false := decide_eq_false (by omega)
  clear hu
  go_enter Try.func40, Try.ntmps40
  go_wp2_with fail
  refine (HU.out _).mono ?_
  rintro e w1 ⟨rfl, rfl⟩
  go_wp2_with fail
  refine (HG.out _).mono ?_
  rintro e w1 ⟨rfl, rfl⟩
  go_wp2_with fail
  go_ret2
  exact ⟨rfl, Below.refl _ _⟩

set_option maxRecDepth 100000 in
set_option maxHeartbeats 1000000 in
theorem rnear_any (u g t : Nat) (w : World) (hu : u ≤ 9007199254740992) (hg0 : 0 < g) (hg : g ≤ 9007199254740992) (ht : t ≤ 1000) :
    Calls Try.prog 40 #[.int .i64 u, .int .i64 g, .int .i64 t] w fun e w' => e = .returned (.tuple #[.bool (decide (nearI u g t)), .int .i64 0]) ∧ Below w.heap.size w w' := by
  have HU : Hid (∀ w1, _) := fun w1 => qyes u hu w1
  have HG : Hid (∀ w1, _) := fun w1 => qyes g hg w1
  have d1 : decide ((t : Int) < 0) = false := decide_eq_false (by omega)
  have d2 : decide ((1000 : Int) < (t : Int)) = false := decide_eq_false (by omega)
  have d3 : ((g : Int) == 0) = false := by rw [beq_eq_false_iff_ne]; omega
  obtain ⟨a, ha⟩ : ∃ a : Nat, (a : Int) = max (u : Int) (g : Int) - min (u : Int) (g : Int) := ⟨(max (u : Int) (g : Int) - min (u : Int) (g : Int)).toNat, by omega⟩
  have HR := Lib.hid (ratio_any a g t 1000 w (by omega) (by omega) (by omega) (by omega) hg0 (by omega))
  have HN : Hid (nearI u g t ↔ a * 1000 ≤ t * g) := by
    unfold nearI
    rw [← ha]
    show (a : Int) * 1000 ≤ (t : Int) * (g : Int) ↔ _
    rw [← Int.natCast_mul]
    omega
  have HW : Hid (IntKind.u64.wrap (wrap64 (max (u : Int) (g : Int) - min (u : Int) (g : Int))) = (a : Int)) := by rw [← ha, IntWalk.wrap64_in _ (by omega)]; exact u64w _ (by omega)
  have w3 : IntKind.u64.wrap (g : Int) = (g : Int) := u64w _ (by omega)
  have w4 : IntKind.u64.wrap (t : Int) = (t : Int) := u64w _ (by omega)
  obtain ⟨b, hb⟩ : ∃ b, decide (nearI u g t) = b := ⟨_, rfl⟩
  have HB := Lib.hid hb
  rw [hb]
  clear hb hu hg0 hg ha
  go_enter Try.func40, Try.ntmps40
  go_wp2_with fail
  refine (HU.out _).mono ?_
  rintro e w1 ⟨rfl, rfl⟩
  go_wp2_with fail
  refine (HG.out _).mono ?_
  rintro e w1 ⟨rfl, rfl⟩
  go_wp2_with fail
  rw [HW.out]
  refine HR.out.mono ?_
  rintro e w1 ⟨⟨v, rfl, hv⟩, hb1⟩
  have Hb1 := Lib.hid hb1
  have HV := Lib.hid hv
  clear hb1 hv
  cases b
  · have hn : ¬ v ≤ 0 := fun h => of_decide_eq_false HB.out (HN.out.2 (HV.out.1 h))
    have hd : decide (v ≤ 0) = false := decide_eq_false hn
    go_wp2_with fail
    go_ret2
    exact ⟨rfl, Hb1.out⟩
  · have hn : v ≤ 0 := HV.out.2 (HN.out.1 (of_decide_eq_true HB.out))
    have hd : decide (v ≤ 0) = true := decide_eq_true hn
    go_wp2_with fail
    go_ret2
    exact ⟨rfl, Hb1.out⟩

theorem near_any (u g t : Nat) (w : World) (hu : u ≤ 9007199254740992) (hg : g ≤ 9007199254740992) (ht : t ≤ 1000) :
    Calls Try.prog 24 #[.int .i64 u, .int .i64 g, .int .i64 t] w fun e w' => e = .returned (.bool (decide (0 < g ∧ nearI u g t))) ∧ Below w.heap.size w w' := by
  by_cases h0 : g = 0
  · subst h0
    have HR : Hid (Calls Try.prog 40 #[.int .i64 u, .int .i64 0, .int .i64 t] w fun e w' => e = .returned (.tuple #[.bool false, .int .i64 5]) ∧ Below w.heap.size w w') := rnear_none u t w hu ht
    rw [decide_eq_false (show ¬ (0 < 0 ∧ nearI (u : Int) ((0 : Nat) : Int) t) from fun h => Nat.lt_irrefl _ h.1)]
    show Calls Try.prog 24 #[.int .i64 u, .int .i64 0, .int .i64 t] w _
    clear hu hg
    go_enter Try.func24, Try.ntmps24
    go_wp2_with fail
    refine HR.out.mono ?_
    rintro e w1 ⟨rfl, hb1⟩
    have Hb1 := Lib.hid hb1
    clear hb1
    go_wp2_with fail
    go_ret
    exact ⟨rfl, Hb1.out⟩
  · have HR := Lib.hid (rnear_any u g t w hu (by omega) hg ht)
    have e : decide (0 < g ∧ nearI (u : Int) g t) = decide (nearI (u : Int) g t) := by
      rw [decide_eq_decide]
      exact ⟨fun h => h.2, fun h => ⟨by omega, h⟩⟩
    rw [e]
    obtain ⟨b, hb⟩ : ∃ b, decide (nearI (u : Int) g t) = b := ⟨_, rfl⟩
    rw [hb] at HR ⊢
    clear hb hu hg h0 e
    go_enter Try.func24, Try.ntmps24
    go_wp2_with fail
    refine HR.out.mono ?_
    rintro e w1 ⟨rfl, hb1⟩
    have Hb1 := Lib.hid hb1
    clear hb1
    cases b
    · go_wp2_with fail
      go_ret
      exact ⟨rfl, Hb1.out⟩
    · go_wp2_with fail
      go_ret
      exact ⟨rfl, Hb1.out⟩
end Go.Proofs.Ytojealgjfbjnoaa
