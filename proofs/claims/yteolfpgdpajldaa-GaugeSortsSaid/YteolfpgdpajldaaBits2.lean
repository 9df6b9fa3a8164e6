/- Contracts of the reference's numbers in bits: Of, Add. Condition: the rows read. -/
import Derived.Test.YteolfpgdpajldaaBits
namespace Go.Proofs.Yteolfpgdpajldaa
open Go.ChangeShapes Go.WideShapes Go.ChangeAt Go.RowKit Go.Deep

/-- The value is a row of its own that reads as the number n. -/
def NumAt (w : World) (v : Value) (n : Nat) : Prop := ∃ a len cap, v = .slice (some a) len cap ∧ BitsAt w (some a) len cap (bitsOf n)

theorem NumAt.below {w w' : World} {v : Value} {n : Nat} (h : NumAt w v n) (hb : Below w.heap.size w w') : NumAt w' v n := by
  obtain ⟨ao, len, cap, rfl, h⟩ := h
  exact ⟨ao, len, cap, rfl, h.below hb⟩

theorem empty_owns (w : World) : (w.alloc (.cells #[] 5)).ownsRow w.heap.size 5 1 (.slice (some ⟨w.heap.size, 0, none⟩) 0 0) 0 [] :=
  owns_of_row (rest := []) (Nat.le_refl _) (Nat.le_refl _) (Nat.zero_le _) (heap_alloc_new w _) rfl rfl

set_option maxHeartbeats 1000000 in
theorem of_any01 (x : Nat) (w : World) (hx : x < 18446744073709551616) :
    Calls Try.prog 20 #[.int .u64 x] w fun e w' => (∃ v, e = .returned v ∧ NumAt w' v x) ∧ Below w.heap.size w w' := by
  go_enter Try.func20, Try.ntmps20
  go_wp2
  go_loopw [0, 3] (fun s v wr => ∃ (y : Nat) (bs : List Nat), s = .int .u64 y ∧ y ≤ x ∧ bs.length ≤ 64 ∧ Hid (bitsOf x = bs ++ bitsOf y ∧ Bin bs) ∧ Hid (wr.ownsRow w.heap.size 5 1 v bs.length (bs.flatMap bitC) ∧ v ≠ .slice none 0 0) ∧ Below w.heap.size w wr) (fun s _ _ => (intOf s).toNat)
  case atStart => exact ⟨x, [], rfl, Nat.le_refl _, by simp, ⟨rfl, fun d hd => by cases hd⟩, ⟨empty_owns w, by simp⟩, (Below.refl _ _).alloc (Nat.le_refl _) _⟩
  case round =>
    obtain ⟨y, bs, rfl, hy, hl, hB, hown, hb⟩ := hrel
    by_cases h0 : 0 < y
    · have hbl : bs.length < 64 := by
        have h1 : (bitsOf x).length ≤ 64 := bitsOf_length_le (by simpa using hx)
        rw [hB.out.1, bitsOf_pos h0] at h1
        simp at h1
        omega
      have hsz := hb.size
      obtain ⟨m, hm⟩ : ∃ m, bs.length = m := ⟨_, rfl⟩
      have hown' := hown.out.1
      rw [hm] at hown' hbl
      have Hm := Lib.hid hm
      have Hb := Lib.hid hb
      clear hm hl hown hb
      go_wp2_with (at_builtin; go_must (refine wpList_append_one elemByte rfl (.tmp 9) (.tmp 13) rfl w wr w.heap.size _ _ m _ rfl hown' Hb.out hsz rfl rfl rfl (by unfold maxLen; omega) (by omega) ?_); intro v1 w1 hown1 hb1 _)
      have hown2 : w1.ownsRow w.heap.size 5 1 v1 (bs ++ [y % 2]).length ((bs ++ [y % 2]).flatMap bitC) := by
        have e : (bs ++ [y % 2]).flatMap bitC = bs.flatMap bitC ++ [Value.int .u8 ((y : Int) % 2)] := by simp [bitC]
        rw [e, List.length_append, Hm.out]
        exact hown1
      go_roundw
      case rel => exact ⟨y / 2, bs ++ [y % 2], by go_num, by omega, by simp [Hm.out]; omega, ⟨by rw [hB.out.1, bitsOf_pos h0]; simp, hB.out.2.append (Bin.one (by omega))⟩, ⟨hown2, owns_some hown2 (by simp)⟩, hb1⟩
      case measure => simp [intOf]; omega
    · obtain rfl : y = 0 := by omega
      go_wp2
      go_ret
      have e : bs = bitsOf x := by rw [hB.out.1, bitsOf_zero]; simp
      obtain ⟨ao, cap, hv, hR⟩ := ownsRow_bits hown.out.1 rfl hB.out.2 hown.out.2
      refine ⟨⟨_, rfl, ao, _, cap, hv, ?_⟩, hb⟩
      rw [← e]
      exact hR

/-- The digits of a sum. -/
theorem add_step {a b os : List Nat} {i c : Nat} (hi : os.length = i) (h : bval os + 2 ^ i * c = bval (a.take i) + bval (b.take i)) :
    bval (os ++ [(a.getD i 0 + b.getD i 0 + c) % 2]) + 2 ^ (i + 1) * ((a.getD i 0 + b.getD i 0 + c) / 2) = bval (a.take (i + 1)) + bval (b.take (i + 1)) := by
  rw [bval_snoc, hi, bval_take_succ, bval_take_succ, Nat.pow_succ]
  obtain ⟨x, hx⟩ : ∃ x, a.getD i 0 + b.getD i 0 + c = x := ⟨_, rfl⟩
  rw [hx]
  have e1 : 2 ^ i * (x % 2) + 2 ^ i * 2 * (x / 2) = 2 ^ i * x := by
    rw [Nat.mul_assoc, ← Nat.mul_add]
    congr 1
    omega
  have e2 : 2 ^ i * x = 2 ^ i * a.getD i 0 + 2 ^ i * b.getD i 0 + 2 ^ i * c := by rw [← hx, Nat.mul_add, Nat.mul_add]
  omega

set_option maxRecDepth 100000 in
set_option maxHeartbeats 2000000 in
theorem add_any01 (a b : List Nat) (ao bo : Option Addr) (la ca lb cb : Nat) (w : World) (ha : BitsAt w ao la ca a) (hb : BitsAt w bo lb cb b) (h1 : la ≤ 100000) (h2 : lb ≤ 100000) :
    Calls Try.prog 24 #[.slice ao la ca, .slice bo lb cb] w fun e w' => (∃ v, e = .returned v ∧ NumAt w' v (bval a + bval b)) ∧ Below w.heap.size w w' := by
  have c1 := ha.read.hmax; have c2 := ha.read.hcap
  have c3 := hb.read.hmax; have c4 := hb.read.hcap
  unfold maxLen at c1 c3
  have HA := Lib.hid ha
  have HB := Lib.hid hb
  obtain ⟨mx, x1, x2, x3⟩ : ∃ mx, la ≤ mx ∧ lb ≤ mx ∧ (mx ≤ la ∨ mx ≤ lb) := by
    by_cases h : la ≤ lb
    · exact ⟨lb, h, Nat.le_refl _, .inr (Nat.le_refl _)⟩
    · exact ⟨la, Nat.le_refl _, by omega, .inl (Nat.le_refl _)⟩
  clear ha hb
  go_enter Try.func24, Try.ntmps24
  go_wp2_with fail
  go_loopw [5, 6, 7] (fun v s6 s7 wr => ∃ (i c : Nat) (os : List Nat), s7 = .int .i64 i ∧ s6 = .int .u8 c ∧ c < 2 ∧ i ≤ mx + 1 ∧ (i = mx + 1 → c = 0) ∧ Hid (os.length = i ∧ Bin os ∧ bval os + 2 ^ i * c = bval (a.take i) + bval (b.take i)) ∧ Hid (wr.ownsRow w.heap.size 5 1 v i (os.flatMap bitC) ∧ v ≠ .slice none 0 0) ∧ Below w.heap.size w wr) (fun _ _ s7 _ => mx + 2 - (intOf s7).toNat)
  case atStart => exact ⟨0, 0, [], rfl, rfl, by omega, by omega, by omega, ⟨rfl, (fun d hd => by cases hd), by simp [bval]⟩, ⟨empty_owns w, by simp⟩, (Below.refl _ _).alloc (Nat.le_refl _) _⟩
  case round =>
    obtain ⟨i, c, os, rfl, rfl, hc2, hi, hic, hI, hown, hbw⟩ := hrel
    by_cases hgo : i < mx ∨ c = 1
    · have hT1 := Lib.hid (fun (wx : World) (hx : BitsAt wx ao la ca a) => at_any a i ao la ca wx hx (by omega))
      have hT2 := Lib.hid (fun (wx : World) (hx : BitsAt wx bo lb cb b) => at_any b i bo lb cb wx hx (by omega))
      have HA1 := Lib.hid (HA.out.below hbw)
      have HB1 := Lib.hid (HB.out.below hbw)
      have g1 := HA.out.bin.getD i
      have g2 := HB.out.bin.getD i
      have hst := Lib.hid (add_step (c := c) hI.out.1 hI.out.2.2)
      obtain ⟨d1, hd1⟩ : ∃ d, a.getD i 0 = d := ⟨_, rfl⟩
      obtain ⟨d2, hd2⟩ : ∃ d, b.getD i 0 = d := ⟨_, rfl⟩
      rw [hd1] at hT1 hst g1
      rw [hd2] at hT2 hst g2
      have hsz := hbw.size
      have hown' := hown.out.1
      have Hbw := Lib.hid hbw
      have hi1 : i < mx + 1 := by omega
      have hcc : i + 1 = mx + 1 → (d1 + d2 + c) / 2 = 0 := by
        intro h
        have z1 : d1 = 0 := by rw [← hd1]; exact getD_out (by rw [HA.out.read.hlen]; omega)
        have z2 : d2 = 0 := by rw [← hd2]; exact getD_out (by rw [HB.out.read.hlen]; omega)
        omega
      clear hd1 hd2 hbw hown
      have fin : ∀ (v1 : Value) (w1 : World), w1.ownsRow w.heap.size 5 1 v1 (i + 1) (os.flatMap bitC ++ [Value.int .u8 (((d1 : Int) + d2 + c) % 2)]) → w1.ownsRow w.heap.size 5 1 v1 (i + 1) ((os ++ [(d1 + d2 + c) % 2]).flatMap bitC) := by
        intro v1 w1 h
        have e : (os ++ [(d1 + d2 + c) % 2]).flatMap bitC = os.flatMap bitC ++ [Value.int .u8 (((d1 : Int) + d2 + c) % 2)] := by simp [bitC]
        rw [e]; exact h
      have Fin := Lib.hid fin
      clear fin
      by_cases q1 : i < la
      · have q2 : decide (i < la) = true := decide_eq_true q1
        go_wp2_with fail
        refine (hT1.out _ HA1.out).mono ?_
        rintro e w2 ⟨rfl, rfl⟩
        go_wp2_with fail
        refine (hT2.out _ HB1.out).mono ?_
        rintro e w2 ⟨rfl, rfl⟩
        go_wp2_with (at_builtin; go_must (refine wpList_append_one elemByte rfl (.tmp 35) (.tmp 38) rfl w wr w.heap.size _ _ i _ rfl hown' Hbw.out hsz rfl rfl rfl (by unfold maxLen; omega) (by omega) ?_); intro v1 w1 hown1 hb1 _)
        go_roundw
        case rel => exact ⟨i + 1, (d1 + d2 + c) / 2, os ++ [(d1 + d2 + c) % 2], by go_num, by go_num, by omega, by omega, hcc, ⟨by simp [hI.out.1], hI.out.2.1.append (Bin.one (by omega)), hst.out⟩, ⟨Fin.out _ _ hown1, owns_some (Fin.out _ _ hown1) (by omega)⟩, hb1⟩
        case measure => simp [intOf]; omega
      · have q2 : decide (i < la) = false := decide_eq_false q1
        by_cases q3 : i < lb
        · have q4 : decide (i < lb) = true := decide_eq_true q3
          go_wp2_with fail
          refine (hT1.out _ HA1.out).mono ?_
          rintro e w2 ⟨rfl, rfl⟩
          go_wp2_with fail
          refine (hT2.out _ HB1.out).mono ?_
          rintro e w2 ⟨rfl, rfl⟩
          go_wp2_with (at_builtin; go_must (refine wpList_append_one elemByte rfl (.tmp 35) (.tmp 38) rfl w wr w.heap.size _ _ i _ rfl hown' Hbw.out hsz rfl rfl rfl (by unfold maxLen; omega) (by omega) ?_); intro v1 w1 hown1 hb1 _)
          go_roundw
          case rel => exact ⟨i + 1, (d1 + d2 + c) / 2, os ++ [(d1 + d2 + c) % 2], by go_num, by go_num, by omega, by omega, hcc, ⟨by simp [hI.out.1], hI.out.2.1.append (Bin.one (by omega)), hst.out⟩, ⟨Fin.out _ _ hown1, owns_some (Fin.out _ _ hown1) (by omega)⟩, hb1⟩
          case measure => simp [intOf]; omega
        · have q4 : decide (i < lb) = false := decide_eq_false q3
          obtain rfl : c = 1 := by omega
          go_wp2_with fail
          refine (hT1.out _ HA1.out).mono ?_
          rintro e w2 ⟨rfl, rfl⟩
          go_wp2_with fail
          refine (hT2.out _ HB1.out).mono ?_
          rintro e w2 ⟨rfl, rfl⟩
          go_wp2_with (at_builtin; go_must (refine wpList_append_one elemByte rfl (.tmp 35) (.tmp 38) rfl w wr w.heap.size _ _ i _ rfl hown' Hbw.out hsz rfl rfl rfl (by unfold maxLen; omega) (by omega) ?_); intro v1 w1 hown1 hb1 _)
          go_roundw
          case rel => exact ⟨i + 1, (d1 + d2 + 1) / 2, os ++ [(d1 + d2 + 1) % 2], by go_num, by go_num, by omega, by omega, hcc, ⟨by simp [hI.out.1], hI.out.2.1.append (Bin.one (by omega)), hst.out⟩, ⟨Fin.out _ _ hown1, owns_some (Fin.out _ _ hown1) (by omega)⟩, hb1⟩
          case measure => simp [intOf]; omega
    · have q1 : decide (i < la) = false := decide_eq_false (by omega)
      have q2 : decide (i < lb) = false := decide_eq_false (by omega)
      obtain rfl : c = 0 := by omega
      have hI2 := Lib.hid hI.out.2.2
      have HR := Lib.hid (ownsRow_bits hown.out.1 hI.out.1 hI.out.2.1 hown.out.2)
      have Hbw := Lib.hid hbw
      have hge : mx ≤ i := by omega
      clear hbw hgo
      obtain ⟨oo, cap, hv, hR⟩ := HR.out
      subst hv
      have HT := Lib.hid (trim_any os (some oo) i cap wr hR)
      have HRR := Lib.hid hR
      clear hR HR
      go_wp2_with fail
      refine HT.out.mono ?_
      rintro e w' ⟨⟨k, rfl, hk, hkk⟩, rfl⟩
      have Hkk := Lib.hid hkk
      clear hkk
      go_wp2_with fail
      go_ret
      refine ⟨⟨_, rfl, oo, k, cap, rfl, ?_⟩, Hbw.out⟩
      have e1 : bval os = bval a + bval b := by
        have := hI2.out
        rw [Nat.mul_zero, Nat.add_zero, List.take_of_length_le (by rw [HA.out.read.hlen]; omega), List.take_of_length_le (by rw [HB.out.read.hlen]; omega)] at this
        exact this
      rw [← e1, ← Hkk.out]
      exact HRR.out.take hk
end Go.Proofs.Yteolfpgdpajldaa
