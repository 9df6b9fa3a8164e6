/- The contract of the reference's Put: a number's low bytes, the least first. No condition. || The contracts of the reference's Int, Text, truth. Condition: the lengths are numbers. -/
import Derived.Test.YtpbppgfogepjeaaBase
import Derived.Test.YtpbppgfogepjeaaRows
import Derived.Laws.Concat
import Derived.Laws.IdiomStrings
namespace Go.Proofs.Ytpbppgfogepjeaa
open Go.ChangeShapes Go.WideShapes Go.ChangeAt Go.RowKit Go.Deep

def putL : Int → Nat → List UInt8
  | _, 0 => []
  | x, n + 1 => UInt8.ofNat (x % 256).toNat :: putL (x / 256) n
theorem putL_len : ∀ (n : Nat) (x : Int), (putL x n).length = n
  | 0, _ => rfl
  | n + 1, x => by rw [putL, List.length_cons, putL_len n]

theorem byte_back (v : Int) (h0 : 0 ≤ v) (h1 : v ≤ 255) (w : World) : (convert 149 9 (.slice (some ⟨w.heap.size, 0, none⟩) 1 1)).run Try.prog (w.alloc (.cells #[.int .u8 v] 5)) = .ok (.string ⟨#[UInt8.ofNat v.toNat]⟩) (w.alloc (.cells #[.int .u8 v] 5)) := by
  have := run_convert_bytes_back (P := Try.prog) (w.alloc (.cells #[.int .u8 v] 5)) 149 9 5 ⟨w.heap.size, 0, none⟩ 1 [UInt8.ofNat v.toNat] Try.underlying149 Try.underlying5 Try.underlying9 (fun j hj => by
    have hj0 : j = 0 := by simpa using hj
    subst hj0
    rw [cell_new w #[.int .u8 v] 5 0]
    have : ((UInt8.ofNat v.toNat).toNat : Int) = v := by
      rw [UInt8.toNat_ofNat']
      omega
    exact congrArg (fun z => some (Value.int .u8 z)) this.symm)
  exact this

set_option maxHeartbeats 1000000 in
theorem put_any (x : Int) (n : Nat) (hn : n ≤ 8) (h0 : 0 ≤ x) (h1 : x ≤ 18446744073709551615) (w : World) :
    Calls Try.prog 57 #[.int .u64 x, .int .i64 n] w fun e w' => e = .returned (.string ⟨(putL x n).toArray⟩) ∧ Below w.heap.size w w' := by
  go_enter Try.func57, Try.ntmps57
  go_wp2_with fail
  go_loopw [0, 5, 6] (fun vx vo vi wr => ∃ (k : Nat) (y : Int) (l : List UInt8), k ≤ n ∧ vi = .int .i64 k ∧ vx = .int .u64 y ∧ 0 ≤ y ∧ y ≤ 18446744073709551615 ∧ vo = .string ⟨l.toArray⟩ ∧ l.length = k ∧ Hid (putL x n = l ++ putL y (n - k)) ∧ Hid (Below w.heap.size w wr)) (fun _ _ vi _ => n - (intOf vi).toNat)
  case atStart => exact ⟨0, x, [], Nat.zero_le _, rfl, rfl, h0, h1, rfl, rfl, rfl, Below.refl _ _⟩
  case round =>
    obtain ⟨k, y, l, hk, rfl, rfl, hy0, hy1, rfl, hl, HP, HB⟩ := hrel
    obtain ⟨wq, rfl⟩ : ∃ wq : World, wq = wr := ⟨_, rfl⟩
    by_cases hlt : k < n
    · have hm0 : 0 ≤ y % 256 := Int.emod_nonneg _ (by decide)
      have hm1 : y % 256 ≤ 255 := by have := Int.emod_lt_of_pos y (show (0 : Int) < 256 by decide); omega
      have hcv := byte_back (y % 256) hm0 hm1 wq
      have hs : (⟨l.toArray⟩ : ByteArray).size = k := by rw [← hl]; rfl
      have HN : Hid (putL x n = (l ++ [UInt8.ofNat (y % 256).toNat]) ++ putL (y / 256) (n - (k + 1))) := by
        show _ = _
        rw [HP.out, show n - k = (n - (k + 1)) + 1 by omega, putL, List.append_assoc]
        rfl
      have Hl : Hid ((l ++ [UInt8.ofNat (y % 256).toNat]).length = k + 1) := by show _ = _; rw [List.length_append, hl]; rfl
      have Hap : Hid ((⟨l.toArray⟩ : ByteArray) ++ ⟨#[UInt8.ofNat (y % 256).toNat]⟩ = ⟨(l ++ [UInt8.ofNat (y % 256).toNat]).toArray⟩) := ByteArray.mk_append_mk l [UInt8.ofNat (y % 256).toNat]
      have HB2 := Lib.hid (HB.out.alloc HB.out.size (.cells #[.int .u8 (y % 256)] 5))
      have hd0 : 0 ≤ y / 256 := by omega
      have hd1 : y / 256 ≤ 18446744073709551615 := by omega
      clear HP HB hl
      go_wp2_with fail
      go_roundw
      case rel => exact ⟨k + 1, y / 256, l ++ [UInt8.ofNat (y % 256).toNat], by omega, by go_num, rfl, hd0, hd1, by rw [← Hap.out], Hl.out, HN.out, HB2.out⟩
      case measure => simp [intOf]; omega
    · obtain rfl : k = n := by omega
      have HE : Hid (putL x k = l) := by
        show _ = _
        rw [HP.out, Nat.sub_self, putL, List.append_nil]
      clear HP
      go_wp2_with fail
      go_ret
      exact ⟨by rw [HE.out]; rfl, HB.out⟩
end Go.Proofs.Ytpbppgfogepjeaa
namespace Go.Proofs.Ytpbppgfogepjeaa
open Go.ChangeShapes Go.WideShapes Go.ChangeAt Go.RowKit Go.Deep

def putS (x : Int) (n : Nat) : ByteArray := ⟨(putL x n).toArray⟩
theorem putS_size (x : Int) (n : Nat) : (putS x n).size = n := by
  have := putL_len n x
  unfold putS
  simpa [ByteArray.size] using this
def u64 (x : Int) : Int := IntKind.u64.wrap x
theorem u64_b (x : Int) : 0 ≤ u64 x ∧ u64 x ≤ 18446744073709551615 := by
  unfold u64 IntKind.wrap
  simp only [IntKind.bits, IntKind.signed]
  have h1 := Int.emod_nonneg x (show ((2 : Int) ^ 64) ≠ 0 by decide)
  have h2 := Int.emod_lt_of_pos x (show (0 : Int) < 2 ^ 64 by decide)
  simp
  omega
def intS (x : Int) : ByteArray := putS (u64 x) 8
def textS (s : ByteArray) : ByteArray := putS (u64 (s.size : Int)) 1 ++ s
def truthS (b : Bool) : ByteArray := if b then putS 1 1 else putS 0 1
theorem intS_size (x : Int) : (intS x).size = 8 := putS_size _ _
theorem textS_size (s : ByteArray) : (textS s).size = 1 + s.size := by unfold textS; rw [ByteArray.size_append, putS_size]
theorem truthS_size (b : Bool) : (truthS b).size = 1 := by unfold truthS; split <;> exact putS_size _ _

theorem int_any (x : Int) (w : World) : Calls Try.prog 59 #[.int .i64 x] w fun e w' => e = .returned (.string (intS x)) ∧ Below w.heap.size w w' := by
  have hb := u64_b x
  have hcv : (convert 2 22 (.int .i64 x)).run Try.prog w = .ok (.int .u64 (u64 x)) w := by kernel_rfl
  have HP := Lib.hid (put_any (u64 x) 8 (by decide) hb.1 hb.2 w)
  have HI : Hid (intS x = ⟨(putL (u64 x) 8).toArray⟩) := rfl
  obtain ⟨y, hy⟩ : ∃ y, u64 x = y := ⟨_, rfl⟩
  rw [hy] at HP HI hcv
  clear hb hy
  go_enter Try.func59, Try.ntmps59
  go_wp2_with fail
  refine HP.out.mono ?_
  rintro e w1 ⟨rfl, hb1⟩
  have Hb := Lib.hid hb1
  clear hb1
  go_wp2_with fail
  go_ret
  exact ⟨by rw [HI.out]; rfl, Hb.out⟩

theorem text_any (s : ByteArray) (hs : s.size + 1 ≤ 9223372036854775807) (w : World) : Calls Try.prog 58 #[.string s] w fun e w' => e = .returned (.string (textS s)) ∧ Below w.heap.size w w' := by
  have hb := u64_b (s.size : Int)
  have hcv : ∀ w, (convert 3 22 (.int .i64 (s.size : Int))).run Try.prog w = .ok (.int .u64 (u64 (s.size : Int))) w := fun w => by kernel_rfl
  have HP := Lib.hid (put_any (u64 (s.size : Int)) 1 (by decide) hb.1 hb.2 w)
  have HI : Hid (textS s = ⟨(putL (u64 (s.size : Int)) 1).toArray⟩ ++ s) := rfl
  have hz : (⟨(putL (u64 (s.size : Int)) 1).toArray⟩ : ByteArray).size = 1 := putS_size _ _
  have hq : ¬ 9223372036854775807 < 1 + s.size := by omega
  obtain ⟨y, hy⟩ : ∃ y, u64 (s.size : Int) = y := ⟨_, rfl⟩
  rw [hy] at HP HI hcv hz
  clear hb hy
  go_enter Try.func58, Try.ntmps58
  go_wp2_with fail
  refine HP.out.mono ?_
  rintro e w1 ⟨rfl, hb1⟩
  have Hb := Lib.hid hb1
  clear hb1
  go_wp2_with fail
  go_ret
  exact ⟨by rw [HI.out]; rfl, Hb.out⟩

theorem truth_any (b : Bool) (w : World) : Calls Try.prog 63 #[.bool b] w fun e w' => e = .returned (.string (truthS b)) ∧ Below w.heap.size w w' := by
  have H1 := Lib.hid (put_any 1 1 (by decide) (by decide) (by decide) w)
  have H0 := Lib.hid (put_any 0 1 (by decide) (by decide) (by decide) w)
  rcases b with _ | _
  · go_enter Try.func63, Try.ntmps63
    go_wp2_with fail
    refine H0.out.mono ?_
    rintro e w1 ⟨rfl, hb1⟩
    have Hb := Lib.hid hb1
    clear hb1
    go_wp2_with fail
    go_ret
    exact ⟨rfl, Hb.out⟩
  · go_enter Try.func63, Try.ntmps63
    go_wp2_with fail
    refine H1.out.mono ?_
    rintro e w1 ⟨rfl, hb1⟩
    have Hb := Lib.hid hb1
    clear hb1
    go_wp2_with fail
    go_ret
    exact ⟨rfl, Hb.out⟩
end Go.Proofs.Ytpbppgfogepjeaa
