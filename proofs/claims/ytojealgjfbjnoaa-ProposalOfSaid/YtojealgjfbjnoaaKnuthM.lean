/- Contracts of math/bits' Len64, LeadingZeros64 and Mul64, and of wide.Of. Condition: the words are of 64 bits. || Plain arithmetic of a division of two words by one, digit by digit. No condition. -/
import Derived.Test.YtojealgjfbjnoaaRows
import Derived.Test.YtojealgjfbjnoaaBase
import Derived.Lib.Strings
import Derived.Lib.Slices
import Derived.Lib.Small
import Derived.Lib.Walk
import Derived.Lib.BitFns
import Derived.Lib.Mul64
import Derived.Laws.Bits64b
namespace Go.Proofs.Ytojealgjfbjnoaa
open Go.ChangeShapes Go.WideShapes Go.ChangeAt Go.RowKit Go.Deep

theorem tab_at (b : Int) (h0 : 0 ≤ b) (h1 : b < 256) (h : b.toNat < Lib.len8tab.size) : ((Lib.len8tab[b.toNat]'h).toNat : Int) = (Lib.bitLen b.toNat : Int) := by
  have e := Lib.len8_of b h0 (by omega)
  unfold Lib.len8 at e
  rw [getElem?_pos Lib.len8tab b.toNat h] at e
  exact e

/-- What the table tells of a number's upper part. -/
theorem tab_sum {n : Int} {k : Nat} (y : Int) (z : Nat) (hk : k ≤ 56) (hn : n = (Lib.bitLen y.toNat : Int)) (h0 : 0 ≤ y) (h1 : y < 256) (hz : (Lib.bitLen z : Int) = k + Lib.bitLen y.toNat) : wrap64 ((k : Int) + wrap64 n) = (Lib.bitLen z : Int) := by
  have l := Lib.bitLen_le8' y h0 (by omega)
  rw [IntWalk.wrap64_in n (by omega), IntWalk.wrap64_in _ (by omega)]
  omega

set_option maxHeartbeats 4000000 in
set_option maxRecDepth 100000 in
theorem len64_any (x : Int) (w : World) (h0 : 0 ≤ x) (h1 : x ≤ 18446744073709551615) :
    Calls Try.prog 75 #[.int .u64 x] w fun e w' => e = .returned (.int .i64 (Lib.bitLen x.toNat)) ∧ w' = w := by
  have hs : (Lib.len8tab.size : Int) = 256 := by rw [Lib.len8tab_size]; rfl
  go_enter Try.func75, Try.ntmps75
  go_wp2
  all_goals (go_ret; refine ⟨congrArg Ending.returned (congrArg (Value.int IntKind.i64) ?_), rfl⟩)
  · refine tab_sum (k := 56) _ x.toNat (by omega) (tab_at _ (by omega) (by omega) _) (by omega) (by omega) ?_
    have s := Lib.bitLen_shift56 x.toNat (by omega) (by omega)
    rw [s, show (x / 4294967296 / 65536 / 256).toNat = x.toNat / 72057594037927936 by omega]
    omega
  · refine tab_sum (k := 48) _ x.toNat (by omega) (tab_at _ (by omega) (by omega) _) (by omega) (by omega) ?_
    have s := Lib.bitLen_shift48 x.toNat (by omega) (by omega)
    rw [s, show (x / 4294967296 / 65536).toNat = x.toNat / 281474976710656 by omega]
    omega
  · refine tab_sum (k := 40) _ x.toNat (by omega) (tab_at _ (by omega) (by omega) _) (by omega) (by omega) ?_
    have s := Lib.bitLen_shift40 x.toNat (by omega) (by omega)
    rw [s, show (x / 4294967296 / 256).toNat = x.toNat / 1099511627776 by omega]
    omega
  · refine tab_sum (k := 32) _ x.toNat (by omega) (tab_at _ (by omega) (by omega) _) (by omega) (by omega) ?_
    have s := Lib.bitLen_shift32 x.toNat (by omega) (by omega)
    rw [s, show (x / 4294967296).toNat = x.toNat / 4294967296 by omega]
    omega
  · refine tab_sum (k := 24) _ x.toNat (by omega) (tab_at _ (by omega) (by omega) _) (by omega) (by omega) ?_
    have s := Lib.bitLen_shift24 x.toNat (by omega) (by omega)
    rw [s, show (x / 65536 / 256).toNat = x.toNat / 16777216 by omega]
    omega
  · refine tab_sum (k := 16) _ x.toNat (by omega) (tab_at _ (by omega) (by omega) _) (by omega) (by omega) ?_
    have s := Lib.bitLen_shift16 x.toNat (by omega) (by omega)
    rw [s, show (x / 65536).toNat = x.toNat / 65536 by omega]
    omega
  · refine tab_sum (k := 8) _ x.toNat (by omega) (tab_at _ (by omega) (by omega) _) (by omega) (by omega) ?_
    have s := Lib.bitLen_shift8 x.toNat (by omega) (by omega)
    rw [s, show (x / 256).toNat = x.toNat / 256 by omega]
    omega
  · have l := Lib.bitLen_le8' x (by omega) (by omega)
    rw [tab_at _ (by omega) (by omega), IntWalk.wrap64_in (Lib.bitLen x.toNat : Int) (by omega), IntWalk.wrap64_in _ (by omega)]

theorem lz64_any (x : Int) (w : World) (h0 : 0 ≤ x) (h1 : x ≤ 18446744073709551615) :
    Calls Try.prog 73 #[.int .u64 x] w fun e w' => e = .returned (.int .i64 (64 - (Lib.bitLen x.toNat : Int))) ∧ w' = w := by
  have l := Lib.bitLen_le x.toNat 64 (by omega) (by omega)
  have e8 : (64 - (Lib.bitLen x.toNat : Int) + 9223372036854775808) % 18446744073709551616 - 9223372036854775808 = 64 - (Lib.bitLen x.toNat : Int) := by omega
  go_enter Try.func73, Try.ntmps73
  go_wp2_with (go_at_call 75; refine (len64_any x _ h0 h1).mono ?_; rintro e w' ⟨rfl, rfl⟩)
  go_ret
  refine ⟨?_, rfl⟩
  rw [← e8]
  rfl

theorem num_mask (a : Nat) (ha : a < 18446744073709551616) : bits .and .u64 (a : Int) 4294967295 = ((a % 4294967296 : Nat) : Int) := by
  have h := bits_and_u64_nat a 4294967295 ha (by omega)
  have e : a &&& 4294967295 = a % 4294967296 := Nat.and_two_pow_sub_one_eq_mod a 32
  rw [e] at h
  exact h
theorem num_div (a : Nat) : (a : Int) / 4294967296 = ((a / 4294967296 : Nat) : Int) := by omega
theorem num_mul (a b : Nat) : (a : Int) * (b : Int) = ((a * b : Nat) : Int) := (Int.natCast_mul a b).symm
theorem num_add (a b : Nat) : (a : Int) + (b : Int) = ((a + b : Nat) : Int) := (Int.natCast_add a b).symm
theorem num_wrap (a : Nat) (ha : a < 18446744073709551616) : IntKind.u64.wrap (a : Int) = (a : Int) := by rw [IntKind.wrap_u64]; omega
theorem num_wrapM (a : Nat) : IntKind.u64.wrap (a : Int) = ((a % 18446744073709551616 : Nat) : Int) := by rw [IntKind.wrap_u64]; omega

set_option maxHeartbeats 1000000 in
theorem mul64_any (x y : Nat) (hx : x < 18446744073709551616) (hy : y < 18446744073709551616) (w : World) :
    Calls Try.prog 61 #[.int .u64 x, .int .u64 y] w fun e w' => e = .returned (.tuple #[.int .u64 ((x * y / 18446744073709551616 : Nat) : Int), .int .u64 ((x * y % 18446744073709551616 : Nat) : Int)]) ∧ w' = w := by
  obtain ⟨bd, bt, bw, hhi⟩ := Lib.mul64_hi x y hx hy
  have ba := Lib.half_mul_le (a := x / 4294967296) (b := y / 4294967296) (by omega) (by omega)
  have bb := Lib.half_mul_le (a := x / 4294967296) (b := y % 4294967296) (by omega) (by omega)
  have bc := Lib.half_mul_le (a := x % 4294967296) (b := y / 4294967296) (by omega) (by omega)
  have ba' : x / 4294967296 * (y / 4294967296) < 18446744073709551616 := by omega
  have bb' : x / 4294967296 * (y % 4294967296) < 18446744073709551616 := by omega
  have bc' : x % 4294967296 * (y / 4294967296) < 18446744073709551616 := by omega
  have bh1 : x / 4294967296 * (y / 4294967296) + (x / 4294967296 * (y % 4294967296) + x % 4294967296 * (y % 4294967296) / 4294967296) / 4294967296 < 18446744073709551616 := by omega
  have bh : x / 4294967296 * (y / 4294967296) + (x / 4294967296 * (y % 4294967296) + x % 4294967296 * (y % 4294967296) / 4294967296) / 4294967296 + ((x / 4294967296 * (y % 4294967296) + x % 4294967296 * (y % 4294967296) / 4294967296) % 4294967296 + x % 4294967296 * (y / 4294967296)) / 4294967296 < 18446744073709551616 := by omega
  go_enter Try.func61, Try.ntmps61
  go_wp2
  simp only [num_mask x hx, num_mask y hy, num_div, num_mul, num_add, num_wrap _ bd, num_wrap _ bb', num_wrap _ bt, num_mask _ bt, num_wrap _ bc', num_wrap _ bw, num_wrap _ ba', num_wrap _ bh1, num_wrap _ bh, num_wrapM (x * y)]
  rw [hhi]
  go_ret2
  exact ⟨rfl, rfl⟩

set_option maxRecDepth 100000 in
theorem wof_any (x y : Nat) (hx : x < 18446744073709551616) (hy : y < 18446744073709551616) (w : World) :
    Calls Try.prog 48 #[.int .u64 x, .int .u64 y] w fun e w' => e = .returned (.agg #[.int .u64 ((x * y / 18446744073709551616 : Nat) : Int), .int .u64 ((x * y % 18446744073709551616 : Nat) : Int)]) ∧ Below w.heap.size w w' := by
  have HM : Hid (∀ w1 : World, _) := fun w1 => mul64_any x y hx hy w1
  obtain ⟨h, hh⟩ : ∃ h, x * y / 18446744073709551616 = h := ⟨_, rfl⟩
  obtain ⟨l, hl⟩ : ∃ l, x * y % 18446744073709551616 = l := ⟨_, rfl⟩
  rw [hh, hl] at HM ⊢
  clear hh hl
  go_enter Try.func48, Try.ntmps48
  go_wp2_with fail
  refine (HM.out _).mono ?_
  rintro e w1 ⟨rfl, rfl⟩
  go_wp2_with fail
  exact bodyPost_ret (v := .agg #[.int .u64 h, .int .u64 l]) (by simp [results, Try.results48, go_sem]) rfl ⟨rfl, (Below.refl _ _).alloc (Nat.le_refl _) _⟩
end Go.Proofs.Ytojealgjfbjnoaa
namespace Go.Proofs.Ytojealgjfbjnoaa
/-- One digit's guess: y = y1 * 2^32 + y0, the guess q with rest rh. -/
structure Dig (u d y1 y0 q rh : Nat) : Prop where
  eq : q * y1 + rh = u
  up : u * 4294967296 + d < (q + 1) * (y1 * 4294967296 + y0)

theorem dig_start {u d y1 y0 : Nat} (hd : d < 4294967296) (h1 : 0 < y1) : Dig u d y1 y0 (u / y1) (u % y1) := by
  have e := Nat.div_add_mod u y1
  have hm := Nat.mod_lt u h1
  rw [Nat.mul_comm] at e
  refine ⟨e, ?_⟩
  have e2 : (u / y1 + 1) * y1 = u / y1 * y1 + y1 := Nat.succ_mul _ _
  have h3 : u + 1 ≤ (u / y1 + 1) * y1 := by omega
  have h4 : (u / y1 + 1) * (y1 * 4294967296 + y0) = (u / y1 + 1) * y1 * 4294967296 + (u / y1 + 1) * y0 := by rw [Nat.mul_add, Nat.mul_assoc]
  omega

theorem start_le {u y1 y0 : Nat} (h1 : 2147483648 ≤ y1) (h0 : y0 < 4294967296) (hu : u < y1 * 4294967296 + y0) : u / y1 ≤ 4294967297 := by
  apply Nat.le_of_lt_succ
  rw [Nat.div_lt_iff_lt_mul (by omega)]
  omega

theorem dig_down1 {u d y1 y0 q rh : Nat} (D : Dig u d y1 y0 q rh) (hd : d < 4294967296) (hu : u < y1 * 4294967296 + y0) (hq : 4294967296 ≤ q) : Dig u d y1 y0 (q - 1) (rh + y1) := by
  obtain ⟨e, h⟩ := D
  obtain ⟨p, rfl⟩ : ∃ p, q = p + 1 := ⟨q - 1, by omega⟩
  refine ⟨by rw [Nat.succ_mul] at e; show p * y1 + _ = u; omega, ?_⟩
  show _ < (p + 1) * _
  have h2 := Nat.mul_le_mul hq (Nat.le_refl (y1 * 4294967296 + y0))
  omega

theorem dig_down2 {u d y1 y0 q rh : Nat} (D : Dig u d y1 y0 q rh) (hq : 4294967296 * rh + d < q * y0) : Dig u d y1 y0 (q - 1) (rh + y1) ∧ 1 ≤ q := by
  obtain ⟨e, h⟩ := D
  have h1 : 1 ≤ q := by
    rcases q with _ | q
    · simp at hq
    · omega
  obtain ⟨p, rfl⟩ : ∃ p, q = p + 1 := ⟨q - 1, by omega⟩
  have h2 : (p + 1) * (y1 * 4294967296 + y0) = (p + 1) * y1 * 4294967296 + (p + 1) * y0 := by rw [Nat.mul_add, Nat.mul_assoc]
  refine ⟨⟨?_, ?_⟩, h1⟩
  · show p * y1 + _ = u
    rw [Nat.succ_mul] at e
    omega
  · show _ < (p + 1) * _
    omega

theorem dig_end1 {u d y1 y0 q rh : Nat} (D : Dig u d y1 y0 q rh) (hq : q * y0 ≤ 4294967296 * rh + d) : q * (y1 * 4294967296 + y0) ≤ u * 4294967296 + d := by
  obtain ⟨e, h⟩ := D
  have h2 : q * (y1 * 4294967296 + y0) = q * y1 * 4294967296 + q * y0 := by rw [Nat.mul_add, Nat.mul_assoc]
  omega

theorem dig_end2 {u d y1 y0 q rh : Nat} (D : Dig u d y1 y0 q rh) (hq : q ≤ 4294967296) (h0 : y0 < 4294967296) (hr : 4294967296 ≤ rh) : q * (y1 * 4294967296 + y0) ≤ u * 4294967296 + d := by
  obtain ⟨e, h⟩ := D
  have h2 : q * (y1 * 4294967296 + y0) = q * y1 * 4294967296 + q * y0 := by rw [Nat.mul_add, Nat.mul_assoc]
  have h3 := Nat.mul_le_mul hq (show y0 ≤ 4294967295 by omega)
  omega

theorem dig_lt {u d y1 y0 q : Nat} (hd : d < 4294967296) (hu : u < y1 * 4294967296 + y0) (h : q * (y1 * 4294967296 + y0) ≤ u * 4294967296 + d) : q < 4294967296 := by
  apply Decidable.byContradiction
  intro hn
  have h2 := Nat.mul_le_mul (show 4294967296 ≤ q by omega) (Nat.le_refl (y1 * 4294967296 + y0))
  omega

theorem two_sum {N Z B t U u1 u0 q1 q0 r1 r0 : Nat}
    (hN : N * t = (U * B + u1) * B + u0)
    (h1 : U * B + u1 = q1 * Z + r1) (h0 : r1 * B + u0 = q0 * Z + r0) : N * t = (q1 * B + q0) * Z + r0 := by
  rw [hN, h1, Nat.add_mul, Nat.add_mul, Nat.add_assoc, h0, Nat.mul_right_comm]
  omega

/-- The two digits together are the quotient. -/
theorem two_digits {N y t U u1 u0 q1 q0 r1 r0 : Nat} (ht : 0 < t)
    (hN : N * t = (U * 4294967296 + u1) * 4294967296 + u0)
    (h1 : U * 4294967296 + u1 = q1 * (y * t) + r1) (h0 : r1 * 4294967296 + u0 = q0 * (y * t) + r0) (hr : r0 < y * t) :
    N / y = q1 * 4294967296 + q0 ∧ N % y = r0 / t := by
  have hy : 0 < y := by
    rcases y with _ | y
    · simp at hr
    · omega
  have e := two_sum hN h1 h0
  obtain ⟨Q, hQ⟩ : ∃ Q, q1 * 4294967296 + q0 = Q := ⟨_, rfl⟩
  rw [hQ] at e ⊢
  rw [← Nat.mul_assoc] at e
  have a1 : Q * y ≤ N := Nat.le_of_mul_le_mul_right (by omega) ht
  obtain ⟨R, rfl⟩ : ∃ R, N = Q * y + R := ⟨N - Q * y, by omega⟩
  rw [Nat.add_mul] at e
  have e2 : R * t = r0 := by omega
  have hR : R < y := Nat.lt_of_mul_lt_mul_right (show R * t < y * t by omega)
  refine ⟨?_, ?_⟩
  · rw [Nat.mul_comm, Nat.mul_add_div hy, Nat.div_eq_of_lt hR, Nat.add_zero]
  · rw [Nat.mul_comm Q y, Nat.mul_add_mod, Nat.mod_eq_of_lt hR, ← e2, Nat.mul_div_cancel _ ht]

/-- A number of two words, shifted: the upper word and the two digits of the lower one. -/
theorem shifted {hi lo t v : Nat} (htv : t * v = 18446744073709551616) :
    (hi * 18446744073709551616 + lo) * t = ((hi * t + lo / v) * 4294967296 + lo * t % 18446744073709551616 / 4294967296) * 4294967296 + lo * t % 18446744073709551616 % 4294967296 := by
  have e : (hi * 18446744073709551616 + lo) * t = hi * t * 18446744073709551616 + lo * t := by rw [Nat.add_mul, Nat.mul_right_comm]
  have h1 : lo * t / 18446744073709551616 = lo / v := by
    rw [← htv, Nat.mul_comm t v, Nat.mul_div_mul_right _ _ (by rcases t with _ | t; simp at htv; omega)]
  rw [e, ← h1]
  omega

theorem shifted_lt {hi lo y t v : Nat} (htv : t * v = 18446744073709551616) (h : hi < y) (hl : lo < 18446744073709551616) : hi * t + lo / v < y * t := by
  have h2 : lo / v < t := by
    rw [Nat.div_lt_iff_lt_mul (by rcases v with _ | v; simp at htv; omega), htv]
    exact hl
  have h3 := Nat.mul_le_mul (show hi + 1 ≤ y from h) (Nat.le_refl t)
  rw [Nat.succ_mul] at h3
  omega

/-- What the wrapped difference is. -/
theorem wrap_rest {u d q r : Int} (h : u * 4294967296 + d = q + r) (h0 : 0 ≤ r) (h1 : r < 18446744073709551616) :
    (((u * 4294967296) % 18446744073709551616 + d) % 18446744073709551616 - q % 18446744073709551616) % 18446744073709551616 = r := by
  omega
end Go.Proofs.Ytojealgjfbjnoaa
