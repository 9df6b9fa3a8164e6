/- Contracts of math/bits' Len64 and LeadingZeros64 (XNum1 without the rest). Condition: the words are of 64 bits. -/
import Derived.Test.YteolfpgdpajldaaRows
import Derived.Test.YteolfpgdpajldaaBase
import Derived.Lib.Strings
import Derived.Lib.Slices
import Derived.Lib.Small
import Derived.Lib.Walk
import Derived.Lib.BitFns
import Derived.Lib.Mul64
import Derived.Laws.Bits64b
namespace Go.Proofs.Yteolfpgdpajldaa
open Go.ChangeShapes Go.WideShapes Go.ChangeAt Go.RowKit Go.Deep

theorem tab_at (b : Int) (h0 : 0 ≤ b) (h1 : b < 256) (h : b.toNat < Lib.len8tab.size) : ((Lib.len8tab[b.toNat]'h).toNat : Int) = (Lib.bitLen b.toNat : Int) := by
  have e := Lib.len8_of b h0 (by omega)
  unfold Lib.len8 at e
  rw [getElem?_pos Lib.len8tab b.toNat h] at e
  exact e

/-- What the table tells of a number's upper part. -/
theorem tab_sum {n : Int} {k : Nat} (y : Int) (z : Nat) (hk : k ≤ 56) (hn : n = (Lib.bitLen y.toNat : Int)) (h0 : 0 ≤ y) (h1 : y < 256) (hz : (Lib.bitLen z : Int) = k + Lib.bitLen y.toNat) : wrap64 ((k : Int) + wrap64 n) = (Lib.bitLen z : Int) := by
  have l := Lib.bitLen_le8' y h0 (by omega)
  rw [IntWalk.wrap64_in n (by omega), IntWalk.wrap64_in _ (by omega)]
  omega

set_option maxHeartbeats 4000000 in
set_option maxRecDepth 100000 in
theorem len64_any (x : Int) (w : World) (h0 : 0 ≤ x) (h1 : x ≤ 18446744073709551615) :
    Calls Try.prog 35 #[.int .u64 x] w fun e w' => e = .returned (.int .i64 (Lib.bitLen x.toNat)) ∧ w' = w := by
  have hs : (Lib.len8tab.size : Int) = 256 := by rw [Lib.len8tab_size]; rfl
  go_enter Try.func35, Try.ntmps35
  go_wp2
  all_goals (go_ret; refine ⟨congrArg Ending.returned (congrArg (Value.int IntKind.i64) ?_), rfl⟩)
  · refine tab_sum (k := 56) _ x.toNat (by omega) (tab_at _ (by omega) (by omega) _) (by omega) (by omega) ?_
    have s := Lib.bitLen_shift56 x.toNat (by omega) (by omega)
    rw [s, show (x / 4294967296 / 65536 / 256).toNat = x.toNat / 72057594037927936 by omega]
    omega
  · refine tab_sum (k := 48) _ x.toNat (by omega) (tab_at _ (by omega) (by omega) _) (by omega) (by omega) ?_
    have s := Lib.bitLen_shift48 x.toNat (by omega) (by omega)
    rw [s, show (x / 4294967296 / 65536).toNat = x.toNat / 281474976710656 by omega]
    omega
  · refine tab_sum (k := 40) _ x.toNat (by omega) (tab_at _ (by omega) (by omega) _) (by omega) (by omega) ?_
    have s := Lib.bitLen_shift40 x.toNat (by omega) (by omega)
    rw [s, show (x / 4294967296 / 256).toNat = x.toNat / 1099511627776 by omega]
    omega
  · refine tab_sum (k := 32) _ x.toNat (by omega) (tab_at _ (by omega) (by omega) _) (by omega) (by omega) ?_
    have s := Lib.bitLen_shift32 x.toNat (by omega) (by omega)
    rw [s, show (x / 4294967296).toNat = x.toNat / 4294967296 by omega]
    omega
  · refine tab_sum (k := 24) _ x.toNat (by omega) (tab_at _ (by omega) (by omega) _) (by omega) (by omega) ?_
    have s := Lib.bitLen_shift24 x.toNat (by omega) (by omega)
    rw [s, show (x / 65536 / 256).toNat = x.toNat / 16777216 by omega]
    omega
  · refine tab_sum (k := 16) _ x.toNat (by omega) (tab_at _ (by omega) (by omega) _) (by omega) (by omega) ?_
    have s := Lib.bitLen_shift16 x.toNat (by omega) (by omega)
    rw [s, show (x / 65536).toNat = x.toNat / 65536 by omega]
    omega
  · refine tab_sum (k := 8) _ x.toNat (by omega) (tab_at _ (by omega) (by omega) _) (by omega) (by omega) ?_
    have s := Lib.bitLen_shift8 x.toNat (by omega) (by omega)
    rw [s, show (x / 256).toNat = x.toNat / 256 by omega]
    omega
  · have l := Lib.bitLen_le8' x (by omega) (by omega)
    rw [tab_at _ (by omega) (by omega), IntWalk.wrap64_in (Lib.bitLen x.toNat : Int) (by omega), IntWalk.wrap64_in _ (by omega)]

theorem lz64_any (x : Int) (w : World) (h0 : 0 ≤ x) (h1 : x ≤ 18446744073709551615) :
    Calls Try.prog 17 #[.int .u64 x] w fun e w' => e = .returned (.int .i64 (64 - (Lib.bitLen x.toNat : Int))) ∧ w' = w := by
  have l := Lib.bitLen_le x.toNat 64 (by omega) (by omega)
  have e8 : (64 - (Lib.bitLen x.toNat : Int) + 9223372036854775808) % 18446744073709551616 - 9223372036854775808 = 64 - (Lib.bitLen x.toNat : Int) := by omega
  go_enter Try.func17, Try.ntmps17
  go_wp2_with (go_at_call 35; refine (len64_any x _ h0 h1).mono ?_; rintro e w' ⟨rfl, rfl⟩)
  go_ret
  refine ⟨?_, rfl⟩
  rw [← e8]
  rfl
end Go.Proofs.Yteolfpgdpajldaa
