/- Contracts of package rate's and quant's small functions. Condition: the slice reads. -/
import Derived.Test.YtbhhjlnjhlagdaaBase
import Derived.Test.YtbhhjlnjhlagdaaList
import Derived.Test.YtbhhjlnjhlagdaaRows
import Derived.BigRegion
namespace Go.Proofs.Ytbhhjlnjhlagdaa
open Go.ChangeShapes Go.WideShapes Go.ChangeAt Go.RowKit Go.Deep

structure Smp where
  at_ : Int
  v : Int
deriving Inhabited

def Smp.cells (x : Smp) : List Value := [.int .i64 x.at_, .int .i64 x.v]

def okQ (m : Int) : Bool := decide (0 ≤ m ∧ m ≤ 9007199254740992)

theorem qright_any (m : Int) (w : World) : Calls Try.prog 87 #[.int .i64 m] w fun e w' => e = .returned (.bool (okQ m)) ∧ w' = w := by
  unfold okQ
  by_cases h1 : 0 ≤ m
  · by_cases h2 : m ≤ 9007199254740992
    all_goals
      go_enter Try.func87, Try.ntmps87
      go_wp2
      go_ret
      exact ⟨ret_bool (by simp [h1, h2]), rfl⟩
  · go_enter Try.func87, Try.ntmps87
    go_wp2
    go_ret
    exact ⟨ret_bool (by simp; omega), rfl⟩

def stepOf (a b : Int) : Int := if b < a then b else b - a

theorem step_any (a b : Int) (w : World) (ha : okQ a = true) (hb : okQ b = true) : Calls Try.prog 67 #[.int .i64 a, .int .i64 b] w fun e w' => e = .returned (.int .i64 (stepOf a b)) ∧ w' = w := by
  unfold okQ at ha hb
  have ha := of_decide_eq_true ha
  have hb := of_decide_eq_true hb
  have hw : IntKind.i64.wrap (b - a) = b - a := IntWalk.i64_in _ (by omega)
  unfold stepOf
  by_cases h : b < a
  all_goals
    go_enter Try.func67, Try.ntmps67
    go_wp2
    go_ret
    exact ⟨ret_int (by simp), rfl⟩

def addOf (a b : Int) : Int × Int := if a + b ≤ 9007199254740992 then (a + b, 0) else (0, 3)

set_option maxRecDepth 100000 in
theorem add_any (a b : Int) (w : World) (ha : okQ a = true) (hb : okQ b = true) : Calls Try.prog 88 #[.int .i64 a, .int .i64 b] w fun e w' => e = .returned (.tuple #[.int .i64 (addOf a b).1, .int .i64 (addOf a b).2]) ∧ w' = w := by
  have ha' := ha
  have hb' := hb
  unfold okQ at ha' hb'
  have ha' := of_decide_eq_true ha'
  have hb' := of_decide_eq_true hb'
  have hw : IntKind.i64.wrap (a + b) = a + b := IntWalk.i64_in _ (by omega)
  have h3 : okQ (a + b) = decide (a + b ≤ 9007199254740992) := by unfold okQ; rw [decide_eq_decide]; omega
  have HA : Hid (∀ w1, Calls Try.prog 87 #[.int .i64 a] w1 fun e w' => e = .returned (.bool true) ∧ w' = w1) := fun w1 => ha ▸ qright_any a w1
  have HB : Hid (∀ w1, Calls Try.prog 87 #[.int .i64 b] w1 fun e w' => e = .returned (.bool true) ∧ w' = w1) := fun w1 => hb ▸ qright_any b w1
  have HC : Hid (∀ w1, Calls Try.prog 87 #[.int .i64 (a + b)] w1 fun e w' => e = .returned (.bool (okQ (a + b))) ∧ w' = w1) := fun w1 => qright_any (a + b) w1
  rw [h3] at HC
  clear ha hb h3
  unfold addOf
  by_cases h : a + b ≤ 9007199254740992
  · rw [if_pos h]
    rw [decide_eq_true h] at HC
    clear h
    go_enter Try.func88, Try.ntmps88
    go_wp2_with fail
    refine (HA.out _).mono ?_
    rintro e w1 ⟨rfl, rfl⟩
    go_wp2_with fail
    refine (HB.out _).mono ?_
    rintro e w2 ⟨rfl, rfl⟩
    go_wp2_with fail
    refine (HC.out _).mono ?_
    rintro e w3 ⟨rfl, rfl⟩
    go_wp2
    go_ret2
    exact ⟨rfl, rfl⟩
  · rw [if_neg h]
    rw [decide_eq_false h] at HC
    clear h
    go_enter Try.func88, Try.ntmps88
    go_wp2_with fail
    refine (HA.out _).mono ?_
    rintro e w1 ⟨rfl, rfl⟩
    go_wp2_with fail
    refine (HB.out _).mono ?_
    rintro e w2 ⟨rfl, rfl⟩
    go_wp2_with fail
    refine (HC.out _).mono ?_
    rintro e w3 ⟨rfl, rfl⟩
    go_wp2
    go_ret2
    exact ⟨rfl, rfl⟩
end Go.Proofs.Ytbhhjlnjhlagdaa
