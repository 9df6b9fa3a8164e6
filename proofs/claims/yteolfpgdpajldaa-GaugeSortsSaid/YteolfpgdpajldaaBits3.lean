/- Contracts of the reference's numbers in bits: Mul, Cmp. Condition: the rows read. -/
import Derived.Test.YteolfpgdpajldaaBits2
namespace Go.Proofs.Yteolfpgdpajldaa
open Go.ChangeShapes Go.WideShapes Go.ChangeAt Go.RowKit Go.Deep

def blen (n : Nat) : Nat := (bitsOf n).length
theorem blen_le {n k : Nat} (h : n < 2 ^ k) : blen n ≤ k := bitsOf_length_le h
theorem lt_blen (n : Nat) : n < 2 ^ blen n := lt_of_bitsOf_length (Nat.le_refl _)
theorem blen_mono {m n : Nat} (h : m ≤ n) : blen m ≤ blen n := blen_le (Nat.lt_of_le_of_lt h (lt_blen n))
theorem blen_mul (m n : Nat) : blen (m * n) ≤ blen m + blen n := by
  refine blen_le ?_
  rw [Nat.pow_add]
  have h1 := lt_blen m
  have h2 := lt_blen n
  exact Nat.mul_lt_mul'' h1 h2
theorem blen_add (m n k : Nat) (h1 : blen m ≤ k) (h2 : blen n ≤ k) : blen (m + n) ≤ k + 1 := by
  refine blen_le ?_
  have a1 := Nat.lt_of_lt_of_le (lt_blen m) (Nat.pow_le_pow_right (by decide) h1)
  have a2 := Nat.lt_of_lt_of_le (lt_blen n) (Nat.pow_le_pow_right (by decide) h2)
  rw [Nat.pow_succ]; omega

theorem add_num (v u : Value) (m n : Nat) (w : World) (hv : NumAt w v m) (hu : NumAt w u n) (h1 : blen m ≤ 100000) (h2 : blen n ≤ 100000) :
    Calls Try.prog 24 #[v, u] w fun e w' => (∃ r, e = .returned r ∧ NumAt w' r (m + n)) ∧ Below w.heap.size w w' := by
  obtain ⟨ao, la, ca, rfl, hA⟩ := hv
  obtain ⟨bo, lb, cb, rfl, hB⟩ := hu
  have e1 := hA.read.hlen
  have e2 := hB.read.hlen
  have := add_any01 _ _ _ _ la ca lb cb w hA hB (by rw [← e1]; exact h1) (by rw [← e2]; exact h2)
  rw [bval_bitsOf, bval_bitsOf] at this
  exact this

theorem bval_drop_le (l : List Nat) (k : Nat) : bval (l.drop k) ≤ bval l := by
  by_cases hk : k ≤ l.length
  · rw [bval_split l k hk]
    have : 1 ≤ 2 ^ k := Nat.one_le_two_pow
    have h := Nat.mul_le_mul_right (bval (l.drop k)) this
    omega
  · rw [List.drop_eq_nil_of_le (by omega)]; simp [bval]

set_option maxRecDepth 100000 in
set_option maxHeartbeats 2000000 in
theorem mul_num (v u : Value) (m n : Nat) (w : World) (hv : NumAt w v m) (hu : NumAt w u n) (h1 : blen m ≤ 10000) (h2 : blen n ≤ 10000) :
    Calls Try.prog 19 #[v, u] w fun e w' => (∃ r, e = .returned r ∧ NumAt w' r (m * n)) ∧ Below w.heap.size w w' := by
  obtain ⟨bo, lb, cb, rfl, hB⟩ := hu
  have c3 := hB.read.hmax; have c4 := hB.read.hcap
  have hlb : lb ≤ 10000 := by rw [← hB.read.hlen]; exact h2
  unfold maxLen at c3
  have HV := Lib.hid hv
  have HB := Lib.hid hB
  have hbl : ∀ k, blen (m * bval ((bitsOf n).drop k)) ≤ 20000 := fun k => by
    have h3 := blen_mul m (bval ((bitsOf n).drop k))
    have h4 := blen_mono (bval_drop_le (bitsOf n) k)
    rw [bval_bitsOf] at h4
    omega
  have Hbl := Lib.hid hbl
  clear hv hB hbl
  go_enter Try.func19, Try.ntmps19
  go_wp2_with fail
  go_loopw [5, 6] (fun s5 s6 wr => ∃ k : Nat, k ≤ lb ∧ s6 = .int .i64 ((k : Int) - 1) ∧ Hid (NumAt wr s5 (m * bval ((bitsOf n).drop k))) ∧ Below w.heap.size w wr) (fun _ s6 _ => (intOf s6 + 1).toNat)
  case atStart =>
    refine ⟨lb, Nat.le_refl _, rfl, ?_, (Below.refl _ _).alloc (Nat.le_refl _) _⟩
    show NumAt _ _ _
    rw [List.drop_eq_nil_of_le (by rw [HB.out.read.hlen]; omega)]
    obtain ⟨ao, cap, hv, hR⟩ := ownsRow_bits (l := []) (empty_owns w) rfl (fun d hd => by cases hd) (by simp)
    exact ⟨ao, 0, cap, hv, by rw [bval, Nat.mul_zero, bitsOf_zero]; exact hR⟩
  case round =>
    obtain ⟨k, hk, rfl, hN, hb⟩ := hrel
    cases k with
    | zero =>
      rw [show (((0 : Nat) : Int) - 1) = -1 from rfl]
      have HN : Hid (NumAt wr _ _) := hN.out
      rw [List.drop_zero, bval_bitsOf] at HN
      go_wp2
      go_ret
      exact ⟨⟨_, rfl, HN.out⟩, hb⟩
    | succ j =>
      rw [show (((j + 1 : Nat) : Int) - 1) = (j : Int) from by omega]
      obtain ⟨b, off, hbo⟩ := HB.out.read.ptr (by decide) (by omega)
      obtain rfl := Option.some.inj hbo
      have c := (HB.out.below hb).cell (i := j) (by omega)
      have hd2 := HB.out.bin.getD j
      have hdr := bval_drop (bitsOf n) j
      have g1 := Lib.hid (Hbl.out (j + 1))
      have g0 := Lib.hid (Hbl.out j)
      obtain ⟨x, hx⟩ : ∃ x, bval ((bitsOf n).drop (j + 1)) = x := ⟨_, rfl⟩
      obtain ⟨d, hd⟩ : ∃ d, (bitsOf n).getD j 0 = d := ⟨_, rfl⟩
      rw [hx] at hN hdr g1
      rw [hd] at c hd2 hdr
      have Hdr := Lib.hid hdr
      have hA := Lib.hid (add_num _ _ _ _ wr hN.out hN.out (by have := g1.out; omega) (by have := g1.out; omega))
      have Hb := Lib.hid hb
      have hb0 := blk c
      have hbz := hb.size
      clear hd hx hdr hb hN
      by_cases h0 : d = 0
      · have q : (((d : Nat) : Int) == 1) = false := by rw [beq_eq_false_iff_ne]; omega
        have e0 : Hid (m * x + m * x = m * bval ((bitsOf n).drop j)) := by
          rw [Hdr.out, h0, Nat.zero_add, Nat.mul_left_comm]
          show _ = _
          omega
        clear h0
        go_wp2_with fail
        refine hA.out.mono ?_
        rintro e w1 ⟨⟨r, rfl, hr⟩, hb1⟩
        have c' := (hb1.cell (p := ⟨b, off + j, none⟩) hb0).trans c
        rw [e0.out] at hr
        have HR := Lib.hid hr
        have Hb1 := Lib.hid (Hb.out.trans (hb1.mono Hb.out.size))
        clear hr hb1
        go_wp2_with fail
        go_roundw
        case rel => exact ⟨j, by omega, rfl, HR.out, Hb1.out⟩
        case measure => simp [intOf]
      · have q : (((d : Nat) : Int) == 1) = true := by rw [beq_iff_eq]; omega
        have e0 : Hid (m * x + m * x + m = m * bval ((bitsOf n).drop j)) := by
          rw [Hdr.out, show d = 1 from by omega, Nat.mul_add, Nat.mul_one, Nat.mul_left_comm]
          show _ = _
          omega
        clear h0
        go_wp2_with fail
        refine hA.out.mono ?_
        rintro e w1 ⟨⟨r, rfl, hr⟩, hb1⟩
        have c' := (hb1.cell (p := ⟨b, off + j, none⟩) hb0).trans c
        have Hb1 := Lib.hid (Hb.out.trans (hb1.mono Hb.out.size))
        have hA2 := Lib.hid (add_num _ _ _ _ w1 hr (HV.out.below Hb1.out) (by have := blen_add (m * x) (m * x) 20000 g1.out g1.out; omega) (by omega))
        clear hr hb1
        go_wp2_with fail
        refine hA2.out.mono ?_
        rintro e w2 ⟨⟨r2, rfl, hr2⟩, hb2⟩
        rw [e0.out] at hr2
        have HR := Lib.hid hr2
        have Hb2 := Lib.hid (Hb1.out.trans (hb2.mono Hb1.out.size))
        clear hr2 hb2
        go_wp2_with fail
        go_roundw
        case rel => exact ⟨j, by omega, rfl, HR.out, Hb2.out⟩
        case measure => simp [intOf]

/-- Which of two numbers is more. -/
theorem cmp_lt {a b : List Nat} (ha : Bin a) (hb : Bin b) {k : Nat} (he : bval (a.drop (k + 1)) = bval (b.drop (k + 1))) (hd : a.getD k 0 < b.getD k 0) : cmpN (bval a) (bval b) = -1 := by
  have := bval_top_lt ha hb he hd
  unfold cmpN
  rw [if_neg (by omega), if_pos this]
theorem cmp_gt {a b : List Nat} (ha : Bin a) (hb : Bin b) {k : Nat} (he : bval (a.drop (k + 1)) = bval (b.drop (k + 1))) (hd : b.getD k 0 < a.getD k 0) : cmpN (bval a) (bval b) = 1 := by
  have := bval_top_lt hb ha he.symm hd
  unfold cmpN
  rw [if_pos this]

set_option maxRecDepth 100000 in
set_option maxHeartbeats 2000000 in
theorem cmp_any01 (a b : List Nat) (ao bo : Option Addr) (la ca lb cb : Nat) (w : World) (ha : BitsAt w ao la ca a) (hb : BitsAt w bo lb cb b) (h1 : la ≤ 100000) (h2 : lb ≤ 100000) :
    Calls Try.prog 23 #[.slice ao la ca, .slice bo lb cb] w fun e w' => e = .returned (.int .i64 (cmpN (bval a) (bval b))) ∧ w = w' := by
  have c1 := ha.read.hmax; have c2 := ha.read.hcap
  have c3 := hb.read.hmax; have c4 := hb.read.hcap
  unfold maxLen at c1 c3
  have HA := Lib.hid ha
  have HB := Lib.hid hb
  clear ha hb
  by_cases hle : la < lb
  · go_enter Try.func23, Try.ntmps23
    go_wp2_with fail
    go_loopw [5] (fun s5 wr => ∃ k : Nat, k ≤ lb ∧ s5 = .int .i64 ((k : Int) - 1) ∧ Hid (bval (a.drop k) = bval (b.drop k)) ∧ w = wr) (fun s5 _ => (intOf s5 + 1).toNat)
    case atStart => exact ⟨lb, Nat.le_refl _, rfl, by show _ = _; rw [List.drop_eq_nil_of_le (by rw [HA.out.read.hlen]; omega), List.drop_eq_nil_of_le (by rw [HB.out.read.hlen]; omega)], rfl⟩
    case round =>
      obtain ⟨k, hk, rfl, he, rfl⟩ := hrel
      cases k with
      | zero =>
        rw [show (((0 : Nat) : Int) - 1) = -1 from rfl]
        have he2 : Hid (cmpN (bval a) (bval b) = 0) := by
          have h := he.out
          rw [List.drop_zero, List.drop_zero] at h
          show _ = _
          unfold cmpN
          rw [h, if_neg (by omega), if_neg (by omega)]
        go_wp2
        go_ret
        exact ⟨ret_int he2.out.symm, rfl⟩
      | succ j =>
        rw [show (((j + 1 : Nat) : Int) - 1) = (j : Int) from by omega]
        have hT1 := Lib.hid (at_any a j ao la ca w HA.out (by omega))
        have hT2 := Lib.hid (at_any b j bo lb cb w HB.out (by omega))
        have HL := Lib.hid (fun h => cmp_lt (k := j) HA.out.bin HB.out.bin he.out h)
        have HG := Lib.hid (fun h => cmp_gt (k := j) HA.out.bin HB.out.bin he.out h)
        have HE : Hid (a.getD j 0 = b.getD j 0 → bval (a.drop j) = bval (b.drop j)) := fun h => by rw [bval_drop a j, bval_drop b j, he.out, h]
        obtain ⟨d1, hd1⟩ : ∃ d, a.getD j 0 = d := ⟨_, rfl⟩
        obtain ⟨d2, hd2⟩ : ∃ d, b.getD j 0 = d := ⟨_, rfl⟩
        rw [hd1] at hT1 HL HG HE
        rw [hd2] at hT2 HL HG HE
        clear hd1 hd2 he
        rcases (show d2 < d1 ∨ (d1 ≤ d2 ∧ d1 < d2) ∨ (d1 ≤ d2 ∧ d2 ≤ d1) by omega) with q | ⟨q, q2⟩ | ⟨q, q2⟩
        · have qd : decide (d2 < d1) = true := decide_eq_true q
          go_wp2_with fail
          refine hT1.out.mono ?_
          rintro e w2 ⟨rfl, rfl⟩
          go_wp2_with fail
          refine hT2.out.mono ?_
          rintro e w2 ⟨rfl, rfl⟩
          go_wp2_with fail
          go_ret
          exact ⟨ret_int (HG.out q).symm, rfl⟩
        · have qd : decide (d2 < d1) = false := decide_eq_false (by omega)
          have qe : decide (d1 < d2) = true := decide_eq_true q2
          go_wp2_with fail
          refine hT1.out.mono ?_
          rintro e w2 ⟨rfl, rfl⟩
          go_wp2_with fail
          refine hT2.out.mono ?_
          rintro e w2 ⟨rfl, rfl⟩
          go_wp2_with fail
          refine hT1.out.mono ?_
          rintro e w2 ⟨rfl, rfl⟩
          go_wp2_with fail
          refine hT2.out.mono ?_
          rintro e w2 ⟨rfl, rfl⟩
          go_wp2_with fail
          go_ret
          exact ⟨ret_int (HL.out q2).symm, rfl⟩
        · have qd : decide (d2 < d1) = false := decide_eq_false (by omega)
          have qe : decide (d1 < d2) = false := decide_eq_false (by omega)
          have HE2 := Lib.hid (HE.out (by omega))
          go_wp2_with fail
          refine hT1.out.mono ?_
          rintro e w2 ⟨rfl, rfl⟩
          go_wp2_with fail
          refine hT2.out.mono ?_
          rintro e w2 ⟨rfl, rfl⟩
          go_wp2_with fail
          refine hT1.out.mono ?_
          rintro e w2 ⟨rfl, rfl⟩
          go_wp2_with fail
          refine hT2.out.mono ?_
          rintro e w2 ⟨rfl, rfl⟩
          go_wp2_with fail
          go_roundw
          case rel => exact ⟨j, by omega, rfl, HE2.out, by trivial⟩
          case measure => simp [intOf]
  · go_enter Try.func23, Try.ntmps23
    go_wp2_with fail
    go_loopw [5] (fun s5 wr => ∃ k : Nat, k ≤ la ∧ s5 = .int .i64 ((k : Int) - 1) ∧ Hid (bval (a.drop k) = bval (b.drop k)) ∧ w = wr) (fun s5 _ => (intOf s5 + 1).toNat)
    case atStart => exact ⟨la, Nat.le_refl _, rfl, by show _ = _; rw [List.drop_eq_nil_of_le (by rw [HA.out.read.hlen]; omega), List.drop_eq_nil_of_le (by rw [HB.out.read.hlen]; omega)], rfl⟩
    case round =>
      obtain ⟨k, hk, rfl, he, rfl⟩ := hrel
      cases k with
      | zero =>
        rw [show (((0 : Nat) : Int) - 1) = -1 from rfl]
        have he2 : Hid (cmpN (bval a) (bval b) = 0) := by
          have h := he.out
          rw [List.drop_zero, List.drop_zero] at h
          show _ = _
          unfold cmpN
          rw [h, if_neg (by omega), if_neg (by omega)]
        go_wp2
        go_ret
        exact ⟨ret_int he2.out.symm, rfl⟩
      | succ j =>
        rw [show (((j + 1 : Nat) : Int) - 1) = (j : Int) from by omega]
        have hT1 := Lib.hid (at_any a j ao la ca w HA.out (by omega))
        have hT2 := Lib.hid (at_any b j bo lb cb w HB.out (by omega))
        have HL := Lib.hid (fun h => cmp_lt (k := j) HA.out.bin HB.out.bin he.out h)
        have HG := Lib.hid (fun h => cmp_gt (k := j) HA.out.bin HB.out.bin he.out h)
        have HE : Hid (a.getD j 0 = b.getD j 0 → bval (a.drop j) = bval (b.drop j)) := fun h => by rw [bval_drop a j, bval_drop b j, he.out, h]
        obtain ⟨d1, hd1⟩ : ∃ d, a.getD j 0 = d := ⟨_, rfl⟩
        obtain ⟨d2, hd2⟩ : ∃ d, b.getD j 0 = d := ⟨_, rfl⟩
        rw [hd1] at hT1 HL HG HE
        rw [hd2] at hT2 HL HG HE
        clear hd1 hd2 he
        rcases (show d2 < d1 ∨ (d1 ≤ d2 ∧ d1 < d2) ∨ (d1 ≤ d2 ∧ d2 ≤ d1) by omega) with q | ⟨q, q2⟩ | ⟨q, q2⟩
        · have qd : decide (d2 < d1) = true := decide_eq_true q
          go_wp2_with fail
          refine hT1.out.mono ?_
          rintro e w2 ⟨rfl, rfl⟩
          go_wp2_with fail
          refine hT2.out.mono ?_
          rintro e w2 ⟨rfl, rfl⟩
          go_wp2_with fail
          go_ret
          exact ⟨ret_int (HG.out q).symm, rfl⟩
        · have qd : decide (d2 < d1) = false := decide_eq_false (by omega)
          have qe : decide (d1 < d2) = true := decide_eq_true q2
          go_wp2_with fail
          refine hT1.out.mono ?_
          rintro e w2 ⟨rfl, rfl⟩
          go_wp2_with fail
          refine hT2.out.mono ?_
          rintro e w2 ⟨rfl, rfl⟩
          go_wp2_with fail
          refine hT1.out.mono ?_
          rintro e w2 ⟨rfl, rfl⟩
          go_wp2_with fail
          refine hT2.out.mono ?_
          rintro e w2 ⟨rfl, rfl⟩
          go_wp2_with fail
          go_ret
          exact ⟨ret_int (HL.out q2).symm, rfl⟩
        · have qd : decide (d2 < d1) = false := decide_eq_false (by omega)
          have qe : decide (d1 < d2) = false := decide_eq_false (by omega)
          have HE2 := Lib.hid (HE.out (by omega))
          go_wp2_with fail
          refine hT1.out.mono ?_
          rintro e w2 ⟨rfl, rfl⟩
          go_wp2_with fail
          refine hT2.out.mono ?_
          rintro e w2 ⟨rfl, rfl⟩
          go_wp2_with fail
          refine hT1.out.mono ?_
          rintro e w2 ⟨rfl, rfl⟩
          go_wp2_with fail
          refine hT2.out.mono ?_
          rintro e w2 ⟨rfl, rfl⟩
          go_wp2_with fail
          go_roundw
          case rel => exact ⟨j, by omega, rfl, HE2.out, by trivial⟩
          case measure => simp [intOf]

theorem cmp_num (v u : Value) (m n : Nat) (w : World) (hv : NumAt w v m) (hu : NumAt w u n) (h1 : blen m ≤ 100000) (h2 : blen n ≤ 100000) :
    Calls Try.prog 23 #[v, u] w fun e w' => e = .returned (.int .i64 (cmpN m n)) ∧ w = w' := by
  obtain ⟨ao, la, ca, rfl, hA⟩ := hv
  obtain ⟨bo, lb, cb, rfl, hB⟩ := hu
  have e1 := hA.read.hlen
  have e2 := hB.read.hlen
  have := cmp_any01 _ _ _ _ la ca lb cb w hA hB (by rw [← e1]; exact h1) (by rw [← e2]; exact h2)
  rw [bval_bitsOf, bval_bitsOf] at this
  exact this
end Go.Proofs.Yteolfpgdpajldaa
