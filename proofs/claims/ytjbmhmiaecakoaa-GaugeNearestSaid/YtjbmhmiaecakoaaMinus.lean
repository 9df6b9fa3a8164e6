/- The contract of the statements' own 'minus' on numbers in bits. Condition: the rows read, the first is not less. -/
import Derived.Test.YtjbmhmiaecakoaaBits6
namespace Go.Proofs.Ytjbmhmiaecakoaa
open Go.ChangeShapes Go.WideShapes Go.ChangeAt Go.RowKit Go.Deep

set_option maxRecDepth 100000 in
set_option maxHeartbeats 4000000 in
theorem minus_any (a b : List Nat) (ao bo : Option Addr) (la ca lb cb : Nat) (w : World) (ha : BitsAt w ao la ca a) (hb : BitsAt w bo lb cb b) (h1 : la ≤ 100000) (h2 : lb ≤ la) (hle : bval b ≤ bval a) :
    Calls Try.prog 24 #[.slice ao la ca, .slice bo lb cb] w fun e w' => (∃ v, e = .returned v ∧ NumAt w' v (bval a - bval b)) ∧ Below w.heap.size w w' := by
  have c1 := ha.read.hmax; have c2 := ha.read.hcap
  have c3 := hb.read.hmax; have c4 := hb.read.hcap
  unfold maxLen at c1 c3
  have HA := Lib.hid ha
  have HB := Lib.hid hb
  have HLE := Lib.hid hle
  clear ha hb hle
  go_enter Try.func24, Try.ntmps24
  go_wp2_with fail
  go_loopw [5, 6, 13] (fun v s6 s13 wr => ∃ (i r : Nat) (os : List Nat), s13 = .int .i64 i ∧ s6 = .int .u8 r ∧ r < 2 ∧ i ≤ la ∧ Hid (os.length = i ∧ Bin os ∧ bval os + bval (b.take i) = bval (a.take i) + 2 ^ i * r) ∧ Hid (wr.ownsRow w.heap.size 5 1 v i (os.flatMap bitC) ∧ v ≠ .slice none 0 0) ∧ Below w.heap.size w wr) (fun _ _ s _ => la - (intOf s).toNat)
  case atStart => exact ⟨0, 0, [], rfl, rfl, by omega, by omega, ⟨rfl, (fun d hd => by cases hd), by simp [bval]⟩, ⟨empty_owns w, by simp⟩, (Below.refl _ _).alloc (Nat.le_refl _) _⟩
  case round =>
    obtain ⟨i, r, os, rfl, rfl, hr2, hi, hI, hown, hbw⟩ := hrel
    by_cases hlt : i < la
    · obtain ⟨ba, oa, rfl⟩ := HA.out.read.ptr (by decide) (by omega)
      have ca0 := (HA.out.below hbw).cell hlt
      have g1 := HA.out.bin.getD i
      have g2 := HB.out.bin.getD i
      have hst := Lib.hid (sub_step hI.out.1 g1 g2 hr2 hI.out.2.2)
      obtain ⟨d1, hd1⟩ : ∃ d, a.getD i 0 = d := ⟨_, rfl⟩
      rw [hd1] at ca0 hst g1
      have hsz := hbw.size
      have hown' := hown.out.1
      have Hbw := Lib.hid hbw
      have hba := blk ca0
      by_cases hlb : i < lb
      · obtain ⟨bb, ob, rfl⟩ := HB.out.read.ptr (by decide) (by omega)
        have cb0 := (HB.out.below hbw).cell hlb
        have hbb := blk cb0
        obtain ⟨d2, hd2⟩ : ∃ d, b.getD i 0 = d := ⟨_, rfl⟩
        rw [hd2] at cb0 hst g2
        clear hd1 hd2 hbw hown
        go_wp2_with (at_builtin; go_must (refine wpList_append_one elemByte rfl (.tmp 34) (.tmp 37) rfl w wr w.heap.size _ _ i _ rfl hown' Hbw.out hsz rfl rfl rfl (by unfold maxLen; omega) (by omega) ?_); intro v1 w1 hown1 hb1 _)
        have hown2 : w1.ownsRow w.heap.size 5 1 v1 (i + 1) ((os ++ [(2 + d1 - d2 - r) % 2]).flatMap bitC) := by
          have e : (os ++ [(2 + d1 - d2 - r) % 2]).flatMap bitC = os.flatMap bitC ++ [Value.int .u8 ((2 + (d1 : Int) - ((r : Int) + d2)) % 2)] := by
            have e2 : (((2 + d1 - d2 - r) % 2 : Nat) : Int) = (2 + (d1 : Int) - ((r : Int) + d2)) % 2 := by omega
            simp [bitC, ← e2]
          rw [e]
          exact hown1
        go_roundw
        case rel => exact ⟨i + 1, 1 - (2 + d1 - d2 - r) / 2, os ++ [(2 + d1 - d2 - r) % 2], by go_num, by congr 1; omega, by omega, by omega, ⟨by simp [hI.out.1], hI.out.2.1.append (Bin.one (by omega)), hst.out⟩, ⟨hown2, owns_some hown2 (by omega)⟩, hb1⟩
        case measure => simp [intOf]; omega
      · have hz : b.getD i 0 = 0 := getD_out (by rw [HB.out.read.hlen]; omega)
        rw [hz] at hst
        clear hd1 hz hbw hown
        go_wp2_with (at_builtin; go_must (refine wpList_append_one elemByte rfl (.tmp 34) (.tmp 37) rfl w wr w.heap.size _ _ i _ rfl hown' Hbw.out hsz rfl rfl rfl (by unfold maxLen; omega) (by omega) ?_); intro v1 w1 hown1 hb1 _)
        have hown2 : w1.ownsRow w.heap.size 5 1 v1 (i + 1) ((os ++ [(2 + d1 - 0 - r) % 2]).flatMap bitC) := by
          have e : (os ++ [(2 + d1 - 0 - r) % 2]).flatMap bitC = os.flatMap bitC ++ [Value.int .u8 ((2 + (d1 : Int) - (r : Int)) % 2)] := by
            have e2 : (((2 + d1 - 0 - r) % 2 : Nat) : Int) = (2 + (d1 : Int) - (r : Int)) % 2 := by omega
            simp only [Nat.sub_zero] at e2
            simp [bitC, ← e2]
          rw [e]
          exact hown1
        go_roundw
        case rel => exact ⟨i + 1, 1 - (2 + d1 - 0 - r) / 2, os ++ [(2 + d1 - 0 - r) % 2], by go_num, by congr 1; omega, by omega, by omega, ⟨by simp [hI.out.1], hI.out.2.1.append (Bin.one (by omega)), hst.out⟩, ⟨hown2, owns_some hown2 (by omega)⟩, hb1⟩
        case measure => simp [intOf]; omega
    · obtain rfl : i = la := by omega
      have hos : Hid (bval os = bval a - bval b) := by
        have h := hI.out.2.2
        rw [List.take_of_length_le (by rw [HB.out.read.hlen]; omega), List.take_of_length_le (by rw [HA.out.read.hlen]; omega)] at h
        have h3 := bval_lt hI.out.2.1
        rw [hI.out.1] at h3
        have h4 := HLE.out
        show _ = _
        rcases (show r = 0 ∨ r = 1 by omega) with rfl | rfl
        · omega
        · rw [Nat.mul_one] at h; omega
      have HR := Lib.hid (ownsRow_bits hown.out.1 hI.out.1 hI.out.2.1 hown.out.2)
      have hbin := Lib.hid hI.out.2.1
      have hlen := Lib.hid hI.out.1
      have Hbw := Lib.hid hbw
      clear hbw hlt
      obtain ⟨oo, cap, hv, hR⟩ := HR.out
      subst hv
      have HRR := Lib.hid hR
      have hcap := hR.read.hmax
      have hlc := hR.read.hcap
      unfold maxLen at hcap
      clear hR HR hown
      obtain ⟨wq, rfl⟩ : ∃ wq : World, wq = wr := ⟨_, rfl⟩
      go_wp2_with fail
      go_loop [5] (fun s => ∃ k : Nat, k ≤ i ∧ s = .slice (some oo) k cap ∧ Hid (bval (os.take k) = bval os)) (fun s => match s with | .slice _ k _ => k | _ => 0)
      case atStart => exact ⟨i, Nat.le_refl _, rfl, by show _ = _; rw [List.take_of_length_le (by rw [hlen.out]; omega)]⟩
      case round =>
        obtain ⟨k, hk, rfl, hv⟩ := hrel
        cases k with
        | zero =>
          go_wp2
          go_ret
          refine ⟨⟨_, rfl, oo, 0, cap, rfl, ?_⟩, Hbw.out⟩
          have h5 := hv.out
          rw [← hos.out, ← h5]
          have h6 := HRR.out.take (k := 0) (Nat.zero_le _)
          rw [List.take_zero] at h6 ⊢
          rw [show bval [] = 0 from rfl, bitsOf_zero]
          exact h6
        | succ j =>
          obtain ⟨b0, off, hbo⟩ := HRR.out.read.ptr (by decide) (by omega)
          obtain rfl := Option.some.inj hbo
          have c := HRR.out.cell (i := j) (by omega)
          obtain ⟨d, hd⟩ : ∃ d, os.getD j 0 = d := ⟨_, rfl⟩
          rw [hd] at c
          have hdd := Lib.hid hd
          clear hd
          by_cases hz : d = 0
          · have q : (((d : Nat) : Int) == 0) = true := by rw [hz]; rfl
            have hz' := Lib.hid hz
            clear hz
            go_wp2
            go_round
            case rel => exact ⟨j, by omega, rfl, trim_zero (hdd.out.trans hz'.out) hv.out⟩
            case measure => simp
          · have q : (((d : Nat) : Int) == 0) = false := by rw [beq_eq_false_iff_ne]; omega
            have hz' := Lib.hid hz
            clear hz
            go_wp2
            go_ret
            have h5 := trim_last (k := j) hbin.out (by rw [hlen.out]; omega) (by rw [hdd.out]; exact hz'.out) hv.out
            refine ⟨⟨_, rfl, _, j + 1, cap, rfl, ?_⟩, Hbw.out⟩
            rw [← hos.out, ← h5]
            exact HRR.out.take hk

theorem minus_num (v u : Value) (m n : Nat) (w : World) (hv : NumAt w v m) (hu : NumAt w u n) (h1 : blen m ≤ 100000) (h2 : n ≤ m) :
    Calls Try.prog 24 #[v, u] w fun e w' => (∃ r, e = .returned r ∧ NumAt w' r (m - n)) ∧ Below w.heap.size w w' := by
  have hbl := blen_mono h2
  obtain ⟨ao, la, ca, rfl, hA⟩ := hv
  obtain ⟨bo, lb, cb, rfl, hB⟩ := hu
  have e1 := hA.read.hlen
  have e2 := hB.read.hlen
  have := minus_any _ _ _ _ la ca lb cb w hA hB (by rw [← e1]; exact h1) (by rw [← e1, ← e2]; exact hbl) (by rw [bval_bitsOf, bval_bitsOf]; exact h2)
  rw [bval_bitsOf, bval_bitsOf] at this
  exact this
end Go.Proofs.Ytjbmhmiaecakoaa
