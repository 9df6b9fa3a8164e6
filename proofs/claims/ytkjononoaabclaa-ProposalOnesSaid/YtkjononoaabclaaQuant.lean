/- Contracts of quant.Right, Add and Times. Condition: the quantities are right. -/
import Derived.Test.YtkjononoaabclaaRows
import Derived.Test.YtkjononoaabclaaWide3
namespace Go.Proofs.Ytkjononoaabclaa
open Go.ChangeShapes Go.WideShapes Go.ChangeAt Go.RowKit Go.Deep

def okQ (m : Int) : Bool := decide (0 ≤ m ∧ m ≤ 9007199254740992)

theorem qright_any (m : Int) (w : World) : Calls Try.prog 15 #[.int .i64 m] w fun e w' => e = .returned (.bool (okQ m)) ∧ w' = w := by
  unfold okQ
  by_cases h1 : 0 ≤ m
  · by_cases h2 : m ≤ 9007199254740992
    all_goals
      go_enter Try.func15, Try.ntmps15
      go_wp2
      go_ret
      exact ⟨ret_bool (by simp [h1, h2]), rfl⟩
  · go_enter Try.func15, Try.ntmps15
    go_wp2
    go_ret
    exact ⟨ret_bool (by simp; omega), rfl⟩

def qaddOf (a b : Int) : Int × Int := if a + b ≤ 9007199254740992 then (a + b, 0) else (0, 3)

set_option maxRecDepth 100000 in
theorem qadd_any (a b : Int) (w : World) (ha : okQ a = true) (hb : okQ b = true) : Calls Try.prog 32 #[.int .i64 a, .int .i64 b] w fun e w' => e = .returned (.tuple #[.int .i64 (qaddOf a b).1, .int .i64 (qaddOf a b).2]) ∧ w' = w := by
  have ha' := ha
  have hb' := hb
  unfold okQ at ha' hb'
  have ha' := of_decide_eq_true ha'
  have hb' := of_decide_eq_true hb'
  have hw : IntKind.i64.wrap (a + b) = a + b := IntWalk.i64_in _ (by omega)
  have h3 : okQ (a + b) = decide (a + b ≤ 9007199254740992) := by unfold okQ; rw [decide_eq_decide]; omega
  have HA : Hid (∀ w1, Calls Try.prog 15 #[.int .i64 a] w1 fun e w' => e = .returned (.bool true) ∧ w' = w1) := fun w1 => ha ▸ qright_any a w1
  have HB : Hid (∀ w1, Calls Try.prog 15 #[.int .i64 b] w1 fun e w' => e = .returned (.bool true) ∧ w' = w1) := fun w1 => hb ▸ qright_any b w1
  have HC : Hid (∀ w1, Calls Try.prog 15 #[.int .i64 (a + b)] w1 fun e w' => e = .returned (.bool (okQ (a + b))) ∧ w' = w1) := fun w1 => qright_any (a + b) w1
  rw [h3] at HC
  clear ha hb h3
  unfold qaddOf
  by_cases h : a + b ≤ 9007199254740992
  · rw [if_pos h]
    rw [decide_eq_true h] at HC
    clear h
    go_enter Try.func32, Try.ntmps32
    go_wp2_with fail
    refine (HA.out _).mono ?_
    rintro e w1 ⟨rfl, rfl⟩
    go_wp2_with fail
    refine (HB.out _).mono ?_
    rintro e w2 ⟨rfl, rfl⟩
    go_wp2_with fail
    refine (HC.out _).mono ?_
    rintro e w3 ⟨rfl, rfl⟩
    go_wp2
    go_ret2
    exact ⟨rfl, rfl⟩
  · rw [if_neg h]
    rw [decide_eq_false h] at HC
    clear h
    go_enter Try.func32, Try.ntmps32
    go_wp2_with fail
    refine (HA.out _).mono ?_
    rintro e w1 ⟨rfl, rfl⟩
    go_wp2_with fail
    refine (HB.out _).mono ?_
    rintro e w2 ⟨rfl, rfl⟩
    go_wp2_with fail
    refine (HC.out _).mono ?_
    rintro e w3 ⟨rfl, rfl⟩
    go_wp2
    go_ret2
    exact ⟨rfl, rfl⟩
set_option maxRecDepth 100000 in
/-- So many times one: the product, or that it is out of range. -/
theorem qtimes_any (a n : Nat) (w : World) (ha : a ≤ 9007199254740992) (hn : n ≤ 1000000) :
    Calls Try.prog 24 #[.int .i64 a, .int .i64 n] w fun e w' => e = .returned (if a * n ≤ 9007199254740992 then .tuple #[.int .i64 ((a * n : Nat) : Int), .int .i64 0] else .tuple #[.int .i64 0, .int .i64 3]) ∧ Below w.heap.size w w' := by
  have HA : Hid (∀ w1, Calls Try.prog 15 #[.int .i64 a] w1 fun e w' => e = .returned (.bool true) ∧ w' = w1) := fun w1 => (show okQ a = true from decide_eq_true (by omega)) ▸ qright_any a w1
  have HO := Lib.hid (wof_any a n (by omega) (by omega) w)
  have w1 : IntKind.u64.wrap (a : Int) = (a : Int) := u64w _ (by omega)
  have w2 : IntKind.u64.wrap (n : Int) = (n : Int) := u64w _ (by omega)
  have hP : a * n ≤ 9007199254740992 * 1000000 := Nat.mul_le_mul ha hn
  obtain ⟨P, hPe⟩ : ∃ P, a * n = P := ⟨_, rfl⟩
  rw [hPe] at HO hP ⊢
  obtain ⟨V, hV⟩ : ∃ V : Value, (if P ≤ 9007199254740992 then .tuple #[.int .i64 (P : Int), .int .i64 0] else .tuple #[.int .i64 0, .int .i64 3]) = V := ⟨_, rfl⟩
  rw [hV]
  obtain ⟨h, hh⟩ : ∃ h, P / 18446744073709551616 = h := ⟨_, rfl⟩
  obtain ⟨l, hl⟩ : ∃ l, P % 18446744073709551616 = l := ⟨_, rfl⟩
  rw [hh, hl] at HO
  have hn0 : ¬ ((n : Int) < 0) := by omega
  have hn1 : decide ((n : Int) < 0) = false := decide_eq_false hn0
  by_cases hc : P ≤ 9007199254740992
  · rw [if_pos hc] at hV
    obtain rfl : h = 0 := by omega
    obtain rfl : l = P := by omega
    have HV := Lib.hid hV
    have hd : decide ((9007199254740992 : Int) < (l : Int)) = false := decide_eq_false (by omega)
    have w3 : IntKind.i64.wrap (l : Int) = (l : Int) := IntWalk.i64_in _ (by omega)
    have w4 : wrap64 (l : Int) = (l : Int) := IntWalk.wrap64_in _ (by omega)
    clear hh hl hV hP hPe ha hn
    have Hc := Lib.hid hc
    clear hc
    go_enter Try.func24, Try.ntmps24
    go_wp2_with (first | (go_at_call 15; refine (HA.out _).mono ?_; rintro e w' ⟨rfl, rfl⟩) | (go_at_call 36; refine HO.out.mono ?_; rintro e w3 ⟨rfl, hb3⟩; have Hb3 := Lib.hid hb3; clear hb3))
    go_ret2
    exact ⟨by rw [← HV.out]; rfl, Hb3.out.alloc Hb3.out.size _⟩
  · rw [if_neg hc] at hV
    have HV := Lib.hid hV
    have Hc := Lib.hid hc
    by_cases h0 : h = 0
    · subst h0
      have hd : decide ((9007199254740992 : Int) < (l : Int)) = true := decide_eq_true (by omega)
      clear hh hl hV hP hPe hc ha hn
      go_enter Try.func24, Try.ntmps24
      go_wp2_with (first | (go_at_call 15; refine (HA.out _).mono ?_; rintro e w' ⟨rfl, rfl⟩) | (go_at_call 36; refine HO.out.mono ?_; rintro e w3 ⟨rfl, hb3⟩; have Hb3 := Lib.hid hb3; clear hb3))
      go_ret2
      exact ⟨by rw [← HV.out]; rfl, Hb3.out.alloc Hb3.out.size _⟩
    · have hd : decide (0 < h) = true := decide_eq_true (by omega)
      clear hh hl hV hP hPe hc ha hn
      go_enter Try.func24, Try.ntmps24
      go_wp2_with (first | (go_at_call 15; refine (HA.out _).mono ?_; rintro e w' ⟨rfl, rfl⟩) | (go_at_call 36; refine HO.out.mono ?_; rintro e w3 ⟨rfl, hb3⟩; have Hb3 := Lib.hid hb3; clear hb3))
      go_ret2
      exact ⟨by rw [← HV.out]; rfl, Hb3.out.alloc Hb3.out.size _⟩
end Go.Proofs.Ytkjononoaabclaa
