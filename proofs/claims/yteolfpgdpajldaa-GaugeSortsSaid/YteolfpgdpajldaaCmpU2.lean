/- The contract of gauge.Sort's comparison, at samples that have a quantity, joined. No condition. -/
import Derived.Test.YteolfpgdpajldaaCmpU
namespace Go.Proofs.Yteolfpgdpajldaa
open Go.ChangeShapes Go.WideShapes Go.ChangeAt Go.RowKit Go.Deep

def sideOf (x y : Nat) : Int := if x % 9223372036854775808 = 0 ∧ y % 9223372036854775808 = 0 then 1 else 0

theorem wrap2 (x : Nat) : IntKind.u64.wrap ((x : Int) * 2) = (x : Int) * 2 % 18446744073709551616 := by
  first | rfl | simp [IntKind.wrap]

theorem side_any (x y : Nat) (w : World) :
    Calls Try.prog 18 #[.int .u64 (x : Nat), .int .u64 (y : Nat)] w fun e w' => e = .returned (.int .i64 (sideOf x y)) ∧ w' = w := by
  by_cases h1 : x % 9223372036854775808 = 0
  · have e1 : (IntKind.u64.wrap ((x : Int) * 2) == 0) = true := by rw [beq_iff_eq, wrap2]; omega
    have e1' : IntKind.u64.wrap ((x : Int) * 2) = 0 := by rw [wrap2]; omega
    by_cases h2 : y % 9223372036854775808 = 0
    · have hs : Hid (sideOf x y = 1) := if_pos ⟨h1, h2⟩
      have e2 : (IntKind.u64.wrap ((y : Int) * 2) == 0) = true := by rw [beq_iff_eq, wrap2]; omega
      have e2' : IntKind.u64.wrap ((y : Int) * 2) = 0 := by rw [wrap2]; omega
      clear h1 h2
      go_enter Try.func18, Try.ntmps18
      go_wp2_with fail
      go_ret
      exact ⟨by rw [hs.out] <;> rfl, rfl⟩
    · have hs : Hid (sideOf x y = 0) := if_neg (fun h => h2 h.2)
      have e2 : (IntKind.u64.wrap ((y : Int) * 2) == 0) = false := by rw [beq_eq_false_iff_ne, wrap2]; omega
      have e2' : ¬ IntKind.u64.wrap ((y : Int) * 2) = 0 := by rw [wrap2]; omega
      clear h1 h2
      go_enter Try.func18, Try.ntmps18
      go_wp2_with fail
      go_ret
      exact ⟨by rw [hs.out] <;> rfl, rfl⟩
  · have hs : Hid (sideOf x y = 0) := if_neg (fun h => h1 h.1)
    have e1 : (IntKind.u64.wrap ((x : Int) * 2) == 0) = false := by rw [beq_eq_false_iff_ne, wrap2]; omega
    have e1' : ¬ IntKind.u64.wrap ((x : Int) * 2) = 0 := by rw [wrap2]; omega
    clear h1
    go_enter Try.func18, Try.ntmps18
    go_wp2_with fail
    go_ret
    exact ⟨by rw [hs.out] <;> rfl, rfl⟩

def secOf (x y : Nat) : Int := cfI (64 - (Lib.bitLen x : Int)) (64 - (Lib.bitLen y : Int)) * sideOf x y

theorem cf_join (x y : TU) : (if cfF x.1.1 y.1.1 = 0 then secOf x.1.1 y.1.1 else cfF x.1.1 y.1.1) = cfU x y := by
  obtain ⟨⟨x, hx⟩, i⟩ := x
  obtain ⟨⟨y, hy⟩, j⟩ := y
  unfold cfU keyU
  dsimp only
  unfold cfF
  by_cases h1 : x = 9223372036854775808
  · subst h1
    have v1 : valW 9223372036854775808 = 0 := if_pos rfl
    rw [v1, if_pos rfl]
    by_cases h2 : y = 9223372036854775808
    · subst h2
      rw [v1, if_pos rfl]
      simp [secOf, cfI]
    · have v2 : valW y = y := if_neg h2
      rw [v2, if_neg h2]
      by_cases h0 : y = 0
      · subst h0
        have s1 : sideOf 9223372036854775808 0 = 1 := by unfold sideOf; rw [if_pos ⟨by decide, by decide⟩]
        have b0 : Lib.bitLen 0 = 0 := by decide
        have b1 : Lib.bitLen 9223372036854775808 = 64 := by kernel_rfl
        simp [secOf, s1, b0, b1, cfI]
      · rw [if_pos (show 0 < y by omega), if_neg (by decide), if_pos (show (-1 : Int) < (y : Int) by omega)]
  · have v1 : valW x = x := if_neg h1
    rw [v1, if_neg h1]
    by_cases h2 : y = 9223372036854775808
    · subst h2
      have v2 : valW 9223372036854775808 = 0 := if_pos rfl
      rw [v2, if_pos rfl]
      by_cases h0 : x = 0
      · subst h0
        have s1 : sideOf 0 9223372036854775808 = 1 := by unfold sideOf; rw [if_pos ⟨by decide, by decide⟩]
        have b0 : Lib.bitLen 0 = 0 := by decide
        have b1 : Lib.bitLen 9223372036854775808 = 64 := by kernel_rfl
        simp [secOf, s1, b0, b1, cfI]
      · rw [if_neg (show ¬ x < 0 by omega), if_pos (show 0 < x by omega), if_neg (by decide), if_neg (show ¬ (x : Int) < -1 by omega), if_pos (show (-1 : Int) < (x : Int) by omega)]
    · have v2 : valW y = y := if_neg h2
      rw [v2, if_neg h2]
      rcases Nat.lt_trichotomy x y with h | h | h
      · rw [if_pos h, if_neg (by decide), if_pos (show (x : Int) < (y : Int) by omega)]
      · subst h
        simp [secOf, cfI]
      · rw [if_neg (show ¬ x < y by omega), if_pos h, if_neg (by decide), if_neg (show ¬ (x : Int) < (y : Int) by omega), if_pos (show (y : Int) < (x : Int) by omega)]

theorem good_lt {x : Nat} (h : GoodW x) : x < 18446744073709551616 := by unfold GoodW at h; omega

theorem sec_small (x y : Nat) : -1 ≤ secOf x y ∧ secOf x y ≤ 1 := by
  unfold secOf cfI sideOf
  split <;> split <;> (try split) <;> simp

theorem run_frombits' (n : Nat) (w : World) : (callFunc 15 #[.int .u64 n]).run Try.prog w = .ok (.value (.float .f64 n)) w := by kernel_rfl

theorem twoInts (a b : Int) (w : World) : (Instr.buildSlice 63 2 [(0, .int .i64 a), (1, .int .i64 b)].toArray).run Try.prog w = .ok (.slice (some ⟨w.heap.size, 0, none⟩) 2 2) (w.alloc (.cells #[.int .i64 a, .int .i64 b] 3)) := by kernel_rfl

set_option maxRecDepth 100000 in
theorem cmpU : CmpU := fun x y w => by
  have hx := good_lt x.1.2
  have hy := good_lt y.1.2
  have HF := Lib.hid (fun w1 => compareF x.1.1 y.1.1 w1 x.1.2 y.1.2)
  have HX := Lib.hid (fun w1 => lz64_any (x.1.1 : Nat) w1 (by omega) (by omega))
  have HY := Lib.hid (fun w1 => lz64_any (y.1.1 : Nat) w1 (by omega) (by omega))
  have HI := Lib.hid (fun w1 => compareI (64 - (Lib.bitLen x.1.1 : Int)) (64 - (Lib.bitLen y.1.1 : Int)) w1)
  have HS := Lib.hid (fun w1 => side_any x.1.1 y.1.1 w1)
  have hjoin := cf_join x y
  obtain ⟨hs1, hs2⟩ := sec_small x.1.1 y.1.1
  unfold secOf at hjoin hs1 hs2
  simp only [Int.toNat_natCast] at HX HY
  obtain ⟨r, hr⟩ : ∃ r, cfU x y = r := ⟨_, rfl⟩
  rw [hr] at hjoin ⊢
  obtain ⟨xv, hxv⟩ : ∃ xv, x.1.1 = xv := ⟨_, rfl⟩
  obtain ⟨yv, hyv⟩ : ∃ yv, y.1.1 = yv := ⟨_, rfl⟩
  rw [hxv, hyv] at HF HI HS hjoin hs1 hs2 ⊢
  rw [hxv] at HX
  rw [hyv] at HY
  obtain ⟨cf, hcf⟩ : ∃ c, cfF xv yv = c := ⟨_, rfl⟩
  rw [hcf] at HF hjoin
  obtain ⟨ci, hci⟩ : ∃ c, cfI (64 - (Lib.bitLen xv : Int)) (64 - (Lib.bitLen yv : Int)) = c := ⟨_, rfl⟩
  rw [hci] at HI hjoin hs1 hs2
  obtain ⟨so, hso⟩ : ∃ c, sideOf xv yv = c := ⟨_, rfl⟩
  rw [hso] at HS hjoin hs1 hs2
  obtain ⟨pr, hpr⟩ : ∃ c, ci * so = c := ⟨_, rfl⟩
  rw [hpr] at hjoin hs1 hs2
  have w9 : wrap64 pr = pr := IntWalk.wrap64_in _ (by omega)
  have HO : Hid (∀ (k : Nat) (w1 : World), _) := fun k w1 => or_two cf (wrap64 pr) k w1
  have hj2 : (if cf = 0 then wrap64 pr else cf) = r := by rw [w9]; exact hjoin
  rw [hj2] at HO
  have q1 := run_frombits' xv
  have q2 := run_frombits' yv
  clear hx hy hjoin hj2 w9 hs1 hs2 hr hxv hyv hcf hci hso
  go_enter Try.func12, Try.ntmps12
  go_wp2_with fail
  refine (HF.out _).mono ?_
  rintro e w1 ⟨rfl, rfl⟩
  go_wp2_with fail
  refine (HX.out _).mono ?_
  rintro e w1 ⟨rfl, rfl⟩
  go_wp2_with fail
  refine (HY.out _).mono ?_
  rintro e w1 ⟨rfl, rfl⟩
  go_wp2_with fail
  refine (HI.out _).mono ?_
  rintro e w1 ⟨rfl, rfl⟩
  go_wp2_with fail
  refine (HS.out _).mono ?_
  rintro e w1 ⟨rfl, rfl⟩
  go_wp2_with ((with_reducible refine at_slot 19 ?_); go_must (refine wpList_buildSlice rfl 63 2 _ rfl [(0, .int .i64 cf), (1, .int .i64 (wrap64 pr))] rfl _ _ (twoInts cf (wrap64 pr)) ?_))
  refine (HO.out _ _ (cell_new _ _ _ 0) (cell_new _ _ _ 1)).mono ?_
  rintro e w2 ⟨rfl, rfl⟩
  go_wp2_with fail
  go_ret
  exact ⟨rfl, (Below.refl _ _).alloc (Nat.le_refl _) _⟩
end Go.Proofs.Yteolfpgdpajldaa
