/- WatchNone: without a store there is no watch; one that isn't there tells nothing. Conditions: none. -/
import Derived.Test.YtkppmdbapcfmnaaWatchNoneLift
import Derived.Test.YtkppmdbapcfmnaaWatchFold2
import Derived.Test.YtkppmdbapcfmnaaWatchNil
namespace Go.Proofs.Ytkppmdbapcfmnaa
open Go.ChangeShapes Go.WideShapes Go.ChangeAt Go.RowKit Go.Deep Go.Maps

def tyL (k : Nat) : Int := if k = 0 then 0 else 1
def verL (k : Nat) : Int := if k = 0 then 1 else if k = 1 then 2 else 5

theorem evsL (w : World) : EvsAt (w.alloc (.cells #[.int .i64 0, .int .i64 0, .string ⟨#[97]⟩, .int .u64 1, .int .i64 1, .int .i64 0, .string ⟨#[97]⟩, .int .u64 2, .int .i64 1, .int .i64 0, .string ⟨#[97]⟩, .int .u64 5] 38)) w.heap.size tyL verL ⟨#[97]⟩ := by
  have hc := fun j => cell_new w #[.int .i64 0, .int .i64 0, .string ⟨#[97]⟩, .int .u64 1, .int .i64 1, .int .i64 0, .string ⟨#[97]⟩, .int .u64 2, .int .i64 1, .int .i64 0, .string ⟨#[97]⟩, .int .u64 5] 38 j
  simp only [Addr.add_lit, Nat.zero_add] at hc
  intro k hk
  match k, hk with
  | 0, _ => exact ⟨hc 0, hc 1, hc 2, hc 3⟩
  | 1, _ => exact ⟨hc 4, hc 5, hc 6, hc 7⟩
  | 2, _ => exact ⟨hc 8, hc 9, hc 10, hc 11⟩

set_option maxRecDepth 100000 in
set_option maxHeartbeats 1600000 in
theorem lives09 (w : World) : Calls Try.prog 4 #[] w fun e w' => e = .returned (.bool true) ∧ Below w.heap.size w w' := by
  have hF := folded_three w.heap.size tyL verL ⟨#[97]⟩ _ (by decide) rfl (by intro k hk; unfold tyL; split <;> decide) (evsL w)
  have HF := Lib.hid hF
  have heq : ∀ w, (binOp .eql 38 (.agg #[.int .i64 0, .int .i64 0, .string ⟨#[97]⟩, .int .u64 5]) (.agg #[.int .i64 0, .int .i64 0, .string ⟨#[97]⟩, .int .u64 5])).run Try.prog w = .ok (.bool true) w := fun w => by kernel_rfl
  clear hF
  go_enter Try.func4, Try.ntmps4
  go_wp2_with fail
  refine HF.out.mono ?_
  rintro e w1 ⟨nb, cap, rfl, hc, hb⟩
  have k0 := hc 0 _ rfl
  have k1 := hc 1 _ rfl
  have k2 := hc 2 _ rfl
  have k3 := hc 3 _ rfl
  have Hb := Lib.hid (((Below.refl _ w).alloc (Nat.le_refl _) (.cells #[.int .i64 0, .int .i64 0, .string ⟨#[97]⟩, .int .u64 1, .int .i64 1, .int .i64 0, .string ⟨#[97]⟩, .int .u64 2, .int .i64 1, .int .i64 0, .string ⟨#[97]⟩, .int .u64 5] 38)).trans (hb.mono (by simp)))
  clear hc hb HF
  go_wp2_with fail
  go_ret
  exact ⟨rfl, Hb.out⟩

set_option maxRecDepth 100000 in
set_option maxHeartbeats 1600000 in
theorem watchNone_core (ao : Option Addr) (len cap : Nat) (ver : Int) (w : World) :
    Calls Try.prog 3 #[.slice ao len cap, .int .u64 ver] w fun e w' => e = .returned (.bool true) ∧ Below w.heap.size w w' := by
  by_cases h9 : len ≤ 9
  all_goals
    go_enter Try.func3, Try.ntmps3
    go_wp2_with fail
    refine (lives09 _).mono ?_
    rintro e w1 ⟨rfl, hb1⟩
    have Hb1 := Lib.hid hb1
    clear hb1
    go_wp2_with fail
  · refine (nextNil_any _).mono ?_
    rintro e w2 ⟨rfl, hb2⟩
    have Hb2 := Lib.hid (Hb1.out.trans (hb2.mono Hb1.out.size))
    clear hb2
    go_wp2_with fail
    refine (newNil_any _ _).mono ?_
    rintro e w' ⟨rfl, rfl⟩
    go_wp2_with fail
    refine (fromNil_any _ _ _).mono ?_
    rintro e w' ⟨rfl, rfl⟩
    go_wp2_with fail
    refine (placeNil_any _).mono ?_
    rintro e w' ⟨rfl, rfl⟩
    go_wp2_with fail
    refine (againNil_any _).mono ?_
    rintro e w3 ⟨rfl, hb3⟩
    have Hb3 := Lib.hid (Hb2.out.trans (hb3.mono Hb2.out.size))
    clear hb3
    go_wp2_with fail
    go_ret
    exact ⟨rfl, Hb3.out⟩
  · refine (lives09 _).mono ?_
    rintro e w2 ⟨rfl, hb2⟩
    have Hb2 := Lib.hid (Hb1.out.trans (hb2.mono Hb1.out.size))
    clear hb2
    go_wp2_with fail
    go_ret
    exact ⟨rfl, Hb2.out⟩

theorem WatchNone_holds : Rows.WatchNoneSaid := lWatchNone.over fun ao len cap ver w _ _ => watchNone_core ao len cap ver w
end Go.Proofs.Ytkppmdbapcfmnaa
