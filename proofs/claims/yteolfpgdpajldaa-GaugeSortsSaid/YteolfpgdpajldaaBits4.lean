/- Contracts of the reference's numbers in bits: sub, Number. Condition: the rows read. -/
import Derived.Test.YteolfpgdpajldaaBits3
namespace Go.Proofs.Yteolfpgdpajldaa
open Go.ChangeShapes Go.WideShapes Go.ChangeAt Go.RowKit Go.Deep

/-- The same, in a block that was not there. -/
def FreshAt (B : Nat) (w : World) (v : Value) (n : Nat) : Prop := ∃ a len cap, v = .slice (some a) len cap ∧ BitsAt w (some a) len cap (bitsOf n) ∧ B ≤ a.block
theorem FreshAt.num {B : Nat} {w : World} {v : Value} {n : Nat} (h : FreshAt B w v n) : NumAt w v n := let ⟨a, len, cap, h1, h2, _⟩ := h; ⟨a, len, cap, h1, h2⟩
theorem ownsRow_base {w : World} {B e sz : Nat} {a : Addr} {n m cap : Nat} {xs : List Value} (h : w.ownsRow B e sz (.slice (some a) m cap) n xs) : B ≤ a.block := by
  rcases h.2 with ⟨h0, _⟩ | ⟨g, cap', cur, h1, h2, _⟩
  · cases h0
  · cases h1; exact h2

/-- The digits of a difference. -/
theorem sub_step {a b os : List Nat} {i r : Nat} (hi : os.length = i) (ha : a.getD i 0 < 2) (hb : b.getD i 0 < 2) (hr : r < 2) (h : bval os + bval (b.take i) = bval (a.take i) + 2 ^ i * r) :
    bval (os ++ [(2 + a.getD i 0 - b.getD i 0 - r) % 2]) + bval (b.take (i + 1)) = bval (a.take (i + 1)) + 2 ^ (i + 1) * (1 - (2 + a.getD i 0 - b.getD i 0 - r) / 2) := by
  rw [bval_snoc, hi, bval_take_succ, bval_take_succ, Nat.pow_succ]
  obtain ⟨x, hx⟩ : ∃ x, a.getD i 0 = x := ⟨_, rfl⟩
  obtain ⟨y, hy⟩ : ∃ y, b.getD i 0 = y := ⟨_, rfl⟩
  rw [hx] at ha ⊢
  rw [hy] at hb ⊢
  rcases (show x = 0 ∨ x = 1 by omega) with rfl | rfl <;> rcases (show y = 0 ∨ y = 1 by omega) with rfl | rfl <;> rcases (show r = 0 ∨ r = 1 by omega) with rfl | rfl <;> simp at h ⊢ <;> omega

set_option maxRecDepth 100000 in
set_option maxHeartbeats 2000000 in
theorem sub_any01 (a b : List Nat) (ao bo : Option Addr) (la ca lb cb : Nat) (w : World) (ha : BitsAt w ao la ca a) (hb : BitsAt w bo lb cb b) (h1 : la ≤ 100000) (h2 : lb ≤ la) (hle : bval b ≤ bval a) :
    Calls Try.prog 37 #[.slice ao la ca, .slice bo lb cb] w fun e w' => (∃ v, e = .returned v ∧ FreshAt w.heap.size w' v (bval a - bval b)) ∧ Below w.heap.size w w' := by
  have c1 := ha.read.hmax; have c2 := ha.read.hcap
  have c3 := hb.read.hmax; have c4 := hb.read.hcap
  unfold maxLen at c1 c3
  have HA := Lib.hid ha
  have HB := Lib.hid hb
  have HLE := Lib.hid hle
  clear ha hb hle
  go_enter Try.func37, Try.ntmps37
  go_wp2_with fail
  go_loopw [5, 6, 12] (fun v s6 s12 wr => ∃ (i r : Nat) (os : List Nat), s12 = .int .i64 i ∧ s6 = .int .u8 r ∧ r < 2 ∧ i ≤ la ∧ Hid (os.length = i ∧ Bin os ∧ bval os + bval (b.take i) = bval (a.take i) + 2 ^ i * r) ∧ Hid (wr.ownsRow w.heap.size 5 1 v i (os.flatMap bitC) ∧ v ≠ .slice none 0 0) ∧ Below w.heap.size w wr) (fun _ _ s _ => la - (intOf s).toNat)
  case atStart => exact ⟨0, 0, [], rfl, rfl, by omega, by omega, ⟨rfl, (fun d hd => by cases hd), by simp [bval]⟩, ⟨empty_owns w, by simp⟩, (Below.refl _ _).alloc (Nat.le_refl _) _⟩
  case round =>
    obtain ⟨i, r, os, rfl, rfl, hr2, hi, hI, hown, hbw⟩ := hrel
    by_cases hlt : i < la
    · have hT1 := Lib.hid (at_any a i ao la ca wr (HA.out.below hbw) (by omega))
      have hT2 := Lib.hid (at_any b i bo lb cb wr (HB.out.below hbw) (by omega))
      have g1 := HA.out.bin.getD i
      have g2 := HB.out.bin.getD i
      have hst := Lib.hid (sub_step hI.out.1 g1 g2 hr2 hI.out.2.2)
      obtain ⟨d1, hd1⟩ : ∃ d, a.getD i 0 = d := ⟨_, rfl⟩
      obtain ⟨d2, hd2⟩ : ∃ d, b.getD i 0 = d := ⟨_, rfl⟩
      rw [hd1] at hT1 hst g1
      rw [hd2] at hT2 hst g2
      have hsz := hbw.size
      have hown' := hown.out.1
      have Hbw := Lib.hid hbw
      clear hd1 hd2 hbw hown
      go_wp2_with fail
      refine hT1.out.mono ?_
      rintro e w2 ⟨rfl, rfl⟩
      go_wp2_with fail
      refine hT2.out.mono ?_
      rintro e w2 ⟨rfl, rfl⟩
      go_wp2_with (at_builtin; go_must (refine wpList_append_one elemByte rfl (.tmp 25) (.tmp 28) rfl w wr w.heap.size _ _ i _ rfl hown' Hbw.out hsz rfl rfl rfl (by unfold maxLen; omega) (by omega) ?_); intro v1 w1 hown1 hb1 _)
      have hown2 : w1.ownsRow w.heap.size 5 1 v1 (i + 1) ((os ++ [(2 + d1 - d2 - r) % 2]).flatMap bitC) := by
        have e : (os ++ [(2 + d1 - d2 - r) % 2]).flatMap bitC = os.flatMap bitC ++ [Value.int .u8 ((2 + (d1 : Int) - d2 - r) % 2)] := by
          have e2 : (((2 + d1 - d2 - r) % 2 : Nat) : Int) = (2 + (d1 : Int) - d2 - r) % 2 := by omega
          simp [bitC, ← e2]
        rw [e]
        exact hown1
      go_roundw
      case rel => exact ⟨i + 1, 1 - (2 + d1 - d2 - r) / 2, os ++ [(2 + d1 - d2 - r) % 2], by go_num, by congr 1; omega, by omega, by omega, ⟨by simp [hI.out.1], hI.out.2.1.append (Bin.one (by omega)), hst.out⟩, ⟨hown2, owns_some hown2 (by omega)⟩, hb1⟩
      case measure => simp [intOf]; omega
    · obtain rfl : i = la := by omega
      have hos : Hid (bval os = bval a - bval b) := by
        have h := hI.out.2.2
        rw [List.take_of_length_le (by rw [HB.out.read.hlen]; omega), List.take_of_length_le (by rw [HA.out.read.hlen]; omega)] at h
        have h3 := bval_lt hI.out.2.1
        rw [hI.out.1] at h3
        have h4 := HLE.out
        show _ = _
        rcases (show r = 0 ∨ r = 1 by omega) with rfl | rfl
        · omega
        · rw [Nat.mul_one] at h; omega
      have HR := Lib.hid (ownsRow_bits hown.out.1 hI.out.1 hI.out.2.1 hown.out.2)
      have Hbw := Lib.hid hbw
      clear hbw hlt
      obtain ⟨oo, cap, hv, hR⟩ := HR.out
      subst hv
      have hbase := ownsRow_base hown.out.1
      have HT := Lib.hid (trim_any os (some oo) i cap wr hR)
      have HRR := Lib.hid hR
      clear hR HR
      go_wp2_with fail
      refine HT.out.mono ?_
      rintro e w' ⟨⟨k, rfl, hk, hkk⟩, rfl⟩
      have Hkk := Lib.hid hkk
      clear hkk
      go_wp2_with fail
      go_ret
      refine ⟨⟨_, rfl, oo, k, cap, rfl, ?_, hbase⟩, Hbw.out⟩
      rw [← hos.out, ← Hkk.out]
      exact HRR.out.take hk

theorem sub_num (v u : Value) (m n : Nat) (w : World) (hv : NumAt w v m) (hu : NumAt w u n) (h1 : blen m ≤ 100000) (h2 : n ≤ m) :
    Calls Try.prog 37 #[v, u] w fun e w' => (∃ r, e = .returned r ∧ FreshAt w.heap.size w' r (m - n)) ∧ Below w.heap.size w w' := by
  have hbl := blen_mono h2
  obtain ⟨ao, la, ca, rfl, hA⟩ := hv
  obtain ⟨bo, lb, cb, rfl, hB⟩ := hu
  have e1 := hA.read.hlen
  have e2 := hB.read.hlen
  have := sub_any01 _ _ _ _ la ca lb cb w hA hB (by rw [← e1]; exact h1) (by rw [← e1, ← e2]; exact hbl) (by rw [bval_bitsOf, bval_bitsOf]; exact h2)
  rw [bval_bitsOf, bval_bitsOf] at this
  exact this

set_option maxRecDepth 100000 in
set_option maxHeartbeats 2000000 in
theorem number_num (v : Value) (n : Nat) (w : World) (hv : NumAt w v n) (h : n < 18446744073709551616) :
    Calls Try.prog 25 #[v] w fun e w' => e = .returned (.tuple #[.int .u64 n, .bool true]) ∧ w = w' := by
  have hbl : blen n ≤ 64 := blen_le (by simpa using h)
  obtain ⟨ao, la, ca, rfl, hA⟩ := hv
  have c1 := hA.read.hmax; have c2 := hA.read.hcap
  have c3 : la ≤ 64 := by rw [← hA.read.hlen]; exact hbl
  unfold maxLen at c1
  have HA := Lib.hid hA
  have Hn := Lib.hid h
  clear hA hbl h
  go_enter Try.func25, Try.ntmps25
  go_wp2_with fail
  go_loopw [4, 5] (fun s4 s5 wr => ∃ k : Nat, k ≤ la ∧ s5 = .int .i64 ((k : Int) - 1) ∧ s4 = .int .u64 (bval ((bitsOf n).drop k)) ∧ w = wr) (fun _ s5 _ => (intOf s5 + 1).toNat)
  case atStart => exact ⟨la, Nat.le_refl _, rfl, by rw [List.drop_eq_nil_of_le (by rw [HA.out.read.hlen]; omega)]; rfl, rfl⟩
  case round =>
    obtain ⟨k, hk, rfl, rfl, rfl⟩ := hrel
    cases k with
    | zero =>
      rw [show (((0 : Nat) : Int) - 1) = -1 from rfl, List.drop_zero, bval_bitsOf]
      go_wp2
      go_ret2
      exact ⟨by simp; omega, rfl⟩
    | succ j =>
      rw [show (((j + 1 : Nat) : Int) - 1) = (j : Int) from by omega]
      obtain ⟨b, off, hbo⟩ := HA.out.read.ptr (by decide) (by omega)
      obtain rfl := Option.some.inj hbo
      have c := HA.out.cell (i := j) (by omega)
      have hd2 := HA.out.bin.getD j
      have hdr := bval_drop (bitsOf n) j
      have hdl := bval_drop_le (bitsOf n) j
      have hn := Hn.out
      rw [bval_bitsOf] at hdl
      obtain ⟨x, hx⟩ : ∃ x, bval ((bitsOf n).drop (j + 1)) = x := ⟨_, rfl⟩
      obtain ⟨y, hy⟩ : ∃ y, bval ((bitsOf n).drop j) = y := ⟨_, rfl⟩
      obtain ⟨d, hd⟩ : ∃ d, (bitsOf n).getD j 0 = d := ⟨_, rfl⟩
      rw [hx, hy] at hdr
      rw [hy] at hdl
      rw [hd] at c hd2 hdr
      rw [hx]
      have HY := Lib.hid hy
      have hx2 : 2 * x + 1 < 18446744073709551616 := by omega
      have Hdr := Lib.hid hdr
      clear hx hd hdr hdl hn hy
      go_wp2
      go_roundw
      case rel => exact ⟨j, by omega, rfl, by rw [HY.out, Hdr.out]; congr 1; omega, by trivial⟩
      case measure => simp [intOf]
end Go.Proofs.Yteolfpgdpajldaa
