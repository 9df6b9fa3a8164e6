/- Contracts of math/bits' Len64, LeadingZeros64 and Mul64, and of wide.Of. Condition: the words are of 64 bits. -/
import Derived.Test.YtkjononoaabclaaRows
import Derived.Test.YtkjononoaabclaaBase
import Derived.Lib.Strings
import Derived.Lib.Slices
import Derived.Lib.Small
import Derived.Lib.Walk
import Derived.Lib.BitFns
import Derived.Lib.Mul64
import Derived.Laws.Bits64b
namespace Go.Proofs.Ytkjononoaabclaa
open Go.ChangeShapes Go.WideShapes Go.ChangeAt Go.RowKit Go.Deep

theorem tab_at (b : Int) (h0 : 0 ≤ b) (h1 : b < 256) (h : b.toNat < Lib.len8tab.size) : ((Lib.len8tab[b.toNat]'h).toNat : Int) = (Lib.bitLen b.toNat : Int) := by
  have e := Lib.len8_of b h0 (by omega)
  unfold Lib.len8 at e
  rw [getElem?_pos Lib.len8tab b.toNat h] at e
  exact e

/-- What the table tells of a number's upper part. -/
theorem tab_sum {n : Int} {k : Nat} (y : Int) (z : Nat) (hk : k ≤ 56) (hn : n = (Lib.bitLen y.toNat : Int)) (h0 : 0 ≤ y) (h1 : y < 256) (hz : (Lib.bitLen z : Int) = k + Lib.bitLen y.toNat) : wrap64 ((k : Int) + wrap64 n) = (Lib.bitLen z : Int) := by
  have l := Lib.bitLen_le8' y h0 (by omega)
  rw [IntWalk.wrap64_in n (by omega), IntWalk.wrap64_in _ (by omega)]
  omega

set_option maxHeartbeats 4000000 in
set_option maxRecDepth 100000 in
theorem len64_any (x : Int) (w : World) (h0 : 0 ≤ x) (h1 : x ≤ 18446744073709551615) :
    Calls Try.prog 58 #[.int .u64 x] w fun e w' => e = .returned (.int .i64 (Lib.bitLen x.toNat)) ∧ w' = w := by
  have hs : (Lib.len8tab.size : Int) = 256 := by rw [Lib.len8tab_size]; rfl
  go_enter Try.func58, Try.ntmps58
  go_wp2
  all_goals (go_ret; refine ⟨congrArg Ending.returned (congrArg (Value.int IntKind.i64) ?_), rfl⟩)
  · refine tab_sum (k := 56) _ x.toNat (by omega) (tab_at _ (by omega) (by omega) _) (by omega) (by omega) ?_
    have s := Lib.bitLen_shift56 x.toNat (by omega) (by omega)
    rw [s, show (x / 4294967296 / 65536 / 256).toNat = x.toNat / 72057594037927936 by omega]
    omega
  · refine tab_sum (k := 48) _ x.toNat (by omega) (tab_at _ (by omega) (by omega) _) (by omega) (by omega) ?_
    have s := Lib.bitLen_shift48 x.toNat (by omega) (by omega)
    rw [s, show (x / 4294967296 / 65536).toNat = x.toNat / 281474976710656 by omega]
    omega
  · refine tab_sum (k := 40) _ x.toNat (by omega) (tab_at _ (by omega) (by omega) _) (by omega) (by omega) ?_
    have s := Lib.bitLen_shift40 x.toNat (by omega) (by omega)
    rw [s, show (x / 4294967296 / 256).toNat = x.toNat / 1099511627776 by omega]
    omega
  · refine tab_sum (k := 32) _ x.toNat (by omega) (tab_at _ (by omega) (by omega) _) (by omega) (by omega) ?_
    have s := Lib.bitLen_shift32 x.toNat (by omega) (by omega)
    rw [s, show (x / 4294967296).toNat = x.toNat / 4294967296 by omega]
    omega
  · refine tab_sum (k := 24) _ x.toNat (by omega) (tab_at _ (by omega) (by omega) _) (by omega) (by omega) ?_
    have s := Lib.bitLen_shift24 x.toNat (by omega) (by omega)
    rw [s, show (x / 65536 / 256).toNat = x.toNat / 16777216 by omega]
    omega
  · refine tab_sum (k := 16) _ x.toNat (by omega) (tab_at _ (by omega) (by omega) _) (by omega) (by omega) ?_
    have s := Lib.bitLen_shift16 x.toNat (by omega) (by omega)
    rw [s, show (x / 65536).toNat = x.toNat / 65536 by omega]
    omega
  · refine tab_sum (k := 8) _ x.toNat (by omega) (tab_at _ (by omega) (by omega) _) (by omega) (by omega) ?_
    have s := Lib.bitLen_shift8 x.toNat (by omega) (by omega)
    rw [s, show (x / 256).toNat = x.toNat / 256 by omega]
    omega
  · have l := Lib.bitLen_le8' x (by omega) (by omega)
    rw [tab_at _ (by omega) (by omega), IntWalk.wrap64_in (Lib.bitLen x.toNat : Int) (by omega), IntWalk.wrap64_in _ (by omega)]

theorem lz64_any (x : Int) (w : World) (h0 : 0 ≤ x) (h1 : x ≤ 18446744073709551615) :
    Calls Try.prog 56 #[.int .u64 x] w fun e w' => e = .returned (.int .i64 (64 - (Lib.bitLen x.toNat : Int))) ∧ w' = w := by
  have l := Lib.bitLen_le x.toNat 64 (by omega) (by omega)
  have e8 : (64 - (Lib.bitLen x.toNat : Int) + 9223372036854775808) % 18446744073709551616 - 9223372036854775808 = 64 - (Lib.bitLen x.toNat : Int) := by omega
  go_enter Try.func56, Try.ntmps56
  go_wp2_with (go_at_call 58; refine (len64_any x _ h0 h1).mono ?_; rintro e w' ⟨rfl, rfl⟩)
  go_ret
  refine ⟨?_, rfl⟩
  rw [← e8]
  rfl

theorem num_mask (a : Nat) (ha : a < 18446744073709551616) : bits .and .u64 (a : Int) 4294967295 = ((a % 4294967296 : Nat) : Int) := by
  have h := bits_and_u64_nat a 4294967295 ha (by omega)
  have e : a &&& 4294967295 = a % 4294967296 := Nat.and_two_pow_sub_one_eq_mod a 32
  rw [e] at h
  exact h
theorem num_div (a : Nat) : (a : Int) / 4294967296 = ((a / 4294967296 : Nat) : Int) := by omega
theorem num_mul (a b : Nat) : (a : Int) * (b : Int) = ((a * b : Nat) : Int) := (Int.natCast_mul a b).symm
theorem num_add (a b : Nat) : (a : Int) + (b : Int) = ((a + b : Nat) : Int) := (Int.natCast_add a b).symm
theorem num_wrap (a : Nat) (ha : a < 18446744073709551616) : IntKind.u64.wrap (a : Int) = (a : Int) := by rw [IntKind.wrap_u64]; omega
theorem num_wrapM (a : Nat) : IntKind.u64.wrap (a : Int) = ((a % 18446744073709551616 : Nat) : Int) := by rw [IntKind.wrap_u64]; omega

set_option maxHeartbeats 1000000 in
theorem mul64_any (x y : Nat) (hx : x < 18446744073709551616) (hy : y < 18446744073709551616) (w : World) :
    Calls Try.prog 45 #[.int .u64 x, .int .u64 y] w fun e w' => e = .returned (.tuple #[.int .u64 ((x * y / 18446744073709551616 : Nat) : Int), .int .u64 ((x * y % 18446744073709551616 : Nat) : Int)]) ∧ w' = w := by
  obtain ⟨bd, bt, bw, hhi⟩ := Lib.mul64_hi x y hx hy
  have ba := Lib.half_mul_le (a := x / 4294967296) (b := y / 4294967296) (by omega) (by omega)
  have bb := Lib.half_mul_le (a := x / 4294967296) (b := y % 4294967296) (by omega) (by omega)
  have bc := Lib.half_mul_le (a := x % 4294967296) (b := y / 4294967296) (by omega) (by omega)
  have ba' : x / 4294967296 * (y / 4294967296) < 18446744073709551616 := by omega
  have bb' : x / 4294967296 * (y % 4294967296) < 18446744073709551616 := by omega
  have bc' : x % 4294967296 * (y / 4294967296) < 18446744073709551616 := by omega
  have bh1 : x / 4294967296 * (y / 4294967296) + (x / 4294967296 * (y % 4294967296) + x % 4294967296 * (y % 4294967296) / 4294967296) / 4294967296 < 18446744073709551616 := by omega
  have bh : x / 4294967296 * (y / 4294967296) + (x / 4294967296 * (y % 4294967296) + x % 4294967296 * (y % 4294967296) / 4294967296) / 4294967296 + ((x / 4294967296 * (y % 4294967296) + x % 4294967296 * (y % 4294967296) / 4294967296) % 4294967296 + x % 4294967296 * (y / 4294967296)) / 4294967296 < 18446744073709551616 := by omega
  go_enter Try.func45, Try.ntmps45
  go_wp2
  simp only [num_mask x hx, num_mask y hy, num_div, num_mul, num_add, num_wrap _ bd, num_wrap _ bb', num_wrap _ bt, num_mask _ bt, num_wrap _ bc', num_wrap _ bw, num_wrap _ ba', num_wrap _ bh1, num_wrap _ bh, num_wrapM (x * y)]
  rw [hhi]
  go_ret2
  exact ⟨rfl, rfl⟩

set_option maxRecDepth 100000 in
theorem wof_any (x y : Nat) (hx : x < 18446744073709551616) (hy : y < 18446744073709551616) (w : World) :
    Calls Try.prog 36 #[.int .u64 x, .int .u64 y] w fun e w' => e = .returned (.agg #[.int .u64 ((x * y / 18446744073709551616 : Nat) : Int), .int .u64 ((x * y % 18446744073709551616 : Nat) : Int)]) ∧ Below w.heap.size w w' := by
  have HM : Hid (∀ w1 : World, _) := fun w1 => mul64_any x y hx hy w1
  obtain ⟨h, hh⟩ : ∃ h, x * y / 18446744073709551616 = h := ⟨_, rfl⟩
  obtain ⟨l, hl⟩ : ∃ l, x * y % 18446744073709551616 = l := ⟨_, rfl⟩
  rw [hh, hl] at HM ⊢
  clear hh hl
  go_enter Try.func36, Try.ntmps36
  go_wp2_with fail
  refine (HM.out _).mono ?_
  rintro e w1 ⟨rfl, rfl⟩
  go_wp2_with fail
  exact bodyPost_ret (v := .agg #[.int .u64 h, .int .u64 l]) (by simp [results, Try.results36, go_sem]) rfl ⟨rfl, (Below.refl _ _).alloc (Nat.le_refl _) _⟩
end Go.Proofs.Ytkjononoaabclaa
