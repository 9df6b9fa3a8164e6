/- Contracts of wide.MulDiv, Cmp and Ratio. Condition: the words are of 64 bits. -/
import Derived.Test.YtkjononoaabclaaWide
namespace Go.Proofs.Ytkjononoaabclaa
open Go.ChangeShapes Go.WideShapes Go.ChangeAt Go.RowKit Go.Deep

/-- A product's part, rounded up or down. -/
def mdOf (P y : Nat) (up : Bool) : Nat := if up = true ∧ 0 < P % y then P / y + 1 else P / y

set_option maxRecDepth 100000 in
theorem muldiv_none (a b : Nat) (up : Bool) (w : World) (ha : a < 18446744073709551616) (hb : b < 18446744073709551616) :
    Calls Try.prog 43 #[.int .u64 a, .int .u64 b, .int .u64 0, .bool up] w fun e w' => e = .returned (.tuple #[.int .u64 0, .int .i64 5]) ∧ Below w.heap.size w w' := by
  have HO := Lib.hid (wof_any a b ha hb w)
  clear ha hb
  go_enter Try.func43, Try.ntmps43
  go_wp2_with fail
  refine HO.out.mono ?_
  rintro e w1 ⟨rfl, hb1⟩
  have Hb1 := Lib.hid hb1
  clear hb1
  go_wp2_with fail
  refine (wdiv_none _ _ _).mono ?_
  rintro e w2 ⟨rfl, hb2⟩
  have Hb2 := Lib.hid (Hb1.out.trans (hb2.mono Hb1.out.size))
  clear hb2
  go_wp2_with fail
  go_ret2
  exact ⟨rfl, Hb2.out.alloc Hb2.out.size _⟩

set_option maxRecDepth 100000 in
set_option maxHeartbeats 1000000 in
theorem muldiv_any (a b y : Nat) (up : Bool) (w : World) (ha : a < 18446744073709551616) (hb : b < 18446744073709551616) (hy : 0 < y) (hy2 : y < 18446744073709551616) :
    Calls Try.prog 43 #[.int .u64 a, .int .u64 b, .int .u64 y, .bool up] w fun e w' =>
      e = .returned (if mdOf (a * b) y up < 18446744073709551616 then .tuple #[.int .u64 (mdOf (a * b) y up : Nat), .int .i64 0] else .tuple #[.int .u64 0, .int .i64 4]) ∧ Below w.heap.size w w' := by
  have HO := Lib.hid (wof_any a b ha hb w)
  have hP : a * b ≤ 18446744073709551615 * 18446744073709551615 := Nat.mul_le_mul (by omega) (by omega)
  have hM : Hid (mdOf (a * b) y up = if up = true ∧ 0 < a * b % y then a * b / y + 1 else a * b / y) := rfl
  obtain ⟨P, hPe⟩ : ∃ P, a * b = P := ⟨_, rfl⟩
  rw [hPe] at HO hP hM ⊢
  have HD : Hid (∀ w1 : World, _) := fun w1 => wdiv_any P y w1 (by omega) hy hy2
  have hql := Nat.div_le_self P y
  obtain ⟨q, hq⟩ : ∃ q, P / y = q := ⟨_, rfl⟩
  obtain ⟨r, hr⟩ : ∃ r, P % y = r := ⟨_, rfl⟩
  rw [hq] at HD hM hql
  rw [hr] at HD hM
  have HQ : Hid (∀ w1 : World, _) := fun w1 => wadd_one q w1 (by omega)
  obtain ⟨h, hh⟩ : ∃ h, q / 18446744073709551616 = h := ⟨_, rfl⟩
  obtain ⟨l, hl⟩ : ∃ l, q % 18446744073709551616 = l := ⟨_, rfl⟩
  rw [hh, hl] at HD HQ
  obtain ⟨h', hh'⟩ : ∃ h, (q + 1) / 18446744073709551616 = h := ⟨_, rfl⟩
  obtain ⟨l', hl'⟩ : ∃ l, (q + 1) % 18446744073709551616 = l := ⟨_, rfl⟩
  rw [hh', hl'] at HQ
  have G1 : Hid (∀ m, m = q → (h = 0 → m < 18446744073709551616 ∧ m = l) ∧ (0 < h → ¬ m < 18446744073709551616)) := fun m hm => by omega
  have G2 : Hid (∀ m, m = q + 1 → (h' = 0 → m < 18446744073709551616 ∧ m = l') ∧ (0 < h' → ¬ m < 18446744073709551616)) := fun m hm => by omega
  obtain ⟨V, hV⟩ : ∃ V : Value, (if mdOf P y up < 18446744073709551616 then .tuple #[.int .u64 (mdOf P y up : Nat), .int .i64 0] else .tuple #[.int .u64 0, .int .i64 4]) = V := ⟨_, rfl⟩
  rw [hV]
  have HV := Lib.hid hV
  clear hPe hP hql hq hr hh hl hh' hl' ha hb hy hy2 hV
  go_enter Try.func43, Try.ntmps43
  go_wp2_with fail
  refine HO.out.mono ?_
  rintro e w1 ⟨rfl, hb1⟩
  have Hb1 := Lib.hid hb1
  clear hb1
  go_wp2_with fail
  refine (HD.out _).mono ?_
  rintro e w2 ⟨rfl, hb2⟩
  have Hb2 := Lib.hid (Hb1.out.trans (hb2.mono Hb1.out.size))
  clear hb2
  by_cases hc : up = true ∧ 0 < r
  · obtain ⟨rfl, hr⟩ := hc
    have HM := Lib.hid (hM.out.trans (if_pos ⟨rfl, hr⟩))
    have hrd : decide (0 < r) = true := decide_eq_true hr
    go_wp2_with fail
    refine (HQ.out _).mono ?_
    rintro e w3 ⟨rfl, hb3⟩
    have hr3 := (hb3.block w2.heap.size (by simp)).trans (heap_alloc_new w2 _)
    have k0 := cell_of_row w3 _ 0 _ _ _ hr3
    have k1 := cell_of_row w3 _ 1 _ _ _ hr3
    have z1 := row_free hr3
    have Hr3 := Lib.hid hr3
    have hz := hb3.size
    simp only [World.size_alloc] at hz
    have Hb3 := Lib.hid ((Hb2.out.alloc Hb2.out.size (.cells #[.int .u64 h, .int .u64 l] 68)).trans (hb3.mono (by have := Hb2.out.size; simp; omega)))
    clear hr3 hb3
    by_cases h0 : h' = 0
    · subst h0
      have G3 := Lib.hid ((G2.out _ HM.out).1 rfl)
      go_wp2_with fail
      go_ret2
      refine ⟨?_, (Hb3.out.setCell Hb2.out.size _).setCell Hb2.out.size _⟩
      rw [← HV.out, if_pos G3.out.1, G3.out.2]
      rfl
    · have G3 := Lib.hid ((G2.out _ HM.out).2 (by omega))
      have hd : decide (0 < h') = true := decide_eq_true (by omega)
      go_wp2_with fail
      go_ret2
      refine ⟨?_, (Hb3.out.setCell Hb2.out.size _).setCell Hb2.out.size _⟩
      rw [← HV.out, if_neg G3.out]
      rfl
  · have HM := Lib.hid (hM.out.trans (if_neg hc))
    have hc2 : up = false ∨ (up = true ∧ r = 0) := by
      rcases up with _ | _
      · exact .inl rfl
      · exact .inr ⟨rfl, Nat.eq_zero_of_not_pos fun h => hc ⟨rfl, h⟩⟩
    clear hc
    by_cases h0 : h = 0
    · subst h0
      have G3 := Lib.hid ((G1.out _ HM.out).1 rfl)
      rcases hc2 with rfl | ⟨rfl, rfl⟩ <;>
      · go_wp2_with fail
        go_ret2
        refine ⟨?_, Hb2.out.alloc Hb2.out.size _⟩
        rw [← HV.out, if_pos G3.out.1, G3.out.2]
        rfl
    · have G3 := Lib.hid ((G1.out _ HM.out).2 (by omega))
      have hd : decide (0 < h) = true := decide_eq_true (by omega)
      rcases hc2 with rfl | ⟨rfl, rfl⟩ <;>
      · go_wp2_with fail
        go_ret2
        refine ⟨?_, Hb2.out.alloc Hb2.out.size _⟩
        rw [← HV.out, if_neg G3.out]
        rfl
end Go.Proofs.Ytkjononoaabclaa
