/- Contracts of window's Least, Greatest, Stable, Len, New. Condition: the memory lies in blocks of the call's own. -/
import Derived.Test.YtbhhjlnjhlagdaaWindow3
namespace Go.Proofs.Ytbhhjlnjhlagdaa
open Go.ChangeShapes Go.WideShapes Go.ChangeAt Go.RowKit Go.Deep

def leastOf : List Note → Int × Bool
  | [] => (0, false)
  | x :: xs => ((x :: xs).foldl (fun b y => min b y.low) x.low, true)
def greatestOf (l : List Note) : Int × Bool := (l.foldl (fun b y => max b y.high) 0, !l.isEmpty)

theorem foldl_take_succ {α β : Type} (f : β → α → β) (b : β) (xs : List α) (k : Nat) (h : k < xs.length) : (xs.take (k + 1)).foldl f b = f ((xs.take k).foldl f b) xs[k] := by
  rw [List.take_succ_eq_append_getElem h, List.foldl_append]; rfl

theorem least_nil (now window : Int) (w : World) :
    Calls Try.prog 40 #[.pointer none, .int .i64 now, .int .i64 window] w fun e w' => e = .returned (.tuple #[.int .i64 0, .bool false]) ∧ Below w.heap.size w w' := by
  go_enter Try.func40, Try.ntmps40
  go_wp2_with (first | go_in)
  go_ret2
  exact ⟨rfl, Below.refl _ _⟩

theorem greatest_nil (now window : Int) (w : World) :
    Calls Try.prog 41 #[.pointer none, .int .i64 now, .int .i64 window] w fun e w' => e = .returned (.tuple #[.int .i64 0, .bool false]) ∧ Below w.heap.size w w' := by
  go_enter Try.func41, Try.ntmps41
  go_wp2_with (first | go_in)
  refine wp_loop_rounds 1 ?_
  rw [rounds_succ]
  go_wp2
  go_ret2
  exact ⟨rfl, Below.refl _ _⟩

set_option maxHeartbeats 2000000 in
theorem least_any (B mb : Nat) (v : Value) (xs : List Note) (now window : Int) (w : World) (hM : MemAt w B mb v xs) (hlen : xs.length ≤ 1000000) (hnow : now ≤ 9223372036854775807) (h0 : ∀ x ∈ xs, 0 ≤ x.at_) :
    Calls Try.prog 40 #[.pointer (some ⟨mb, 0, none⟩), .int .i64 now, .int .i64 window] w fun e w' =>
      e = .returned (.tuple #[.int .i64 (leastOf (xs.filter (inSpan now (spanOf window)))).1, .bool (leastOf (xs.filter (inSpan now (spanOf window)))).2]) ∧ Below w.heap.size w w' := by
  have hll : (xs.filter (inSpan now (spanOf window))).length ≤ 1000000 := Nat.le_trans (List.length_filter_le _ _) hlen
  have HW := Lib.hid (within_any B mb v xs now window w hM hlen hnow h0)
  obtain ⟨ys, hys⟩ : ∃ ys, xs.filter (inSpan now (spanOf window)) = ys := ⟨_, rfl⟩
  rw [hys] at HW hll ⊢
  clear hys hM h0
  cases ys with
  | nil =>
    go_enter Try.func40, Try.ntmps40
    go_wp2_with fail
    refine HW.out.mono ?_
    rintro e w1 ⟨ao, n, cap, rfl, hS, hb⟩
    obtain rfl : 0 = n := hS.hlen
    have Hb := Lib.hid hb
    clear hb hS HW
    go_wp2
    go_ret2
    exact ⟨rfl, Hb.out⟩
  | cons y ys =>
    go_enter Try.func40, Try.ntmps40
    go_wp2_with fail
    refine HW.out.mono ?_
    rintro e w1 ⟨ao, n, cap, rfl, hS, hb1⟩
    have hn := hS.hlen
    have hn0 : 0 < n := by rw [← hn]; simp
    have hcm := hS.hmax
    have hlc := hS.hcap
    unfold maxLen at hcm
    obtain ⟨b, off, rfl⟩ := hS.ptr (by decide) hn0
    have d1 := hS.flat (i := 0) (by simp) 1 _ rfl
    rw [Nat.zero_mul, Nat.add_zero] at d1
    simp only [List.getElem_cons_zero] at d1
    have hne : ((n : Int) == 0) = false := by rw [beq_eq_false_iff_ne]; omega
    rw [hn] at hll
    have Hn := Lib.hid hn
    have HS := Lib.hid hS
    have Hb1 := Lib.hid hb1
    clear hn hS hb1 HW
    go_wp2_with fail
    go_loopw [9, 25] (fun o i wr => ∃ k : Nat, k ≤ n ∧ i = .int .i64 k ∧ o = .int .i64 (((y :: ys).take k).foldl (fun b z => min b z.low) y.low) ∧ Below w1.heap.size w1 wr) (fun _ i _ => n - (intOf i).toNat)
    case atStart => exact ⟨0, Nat.zero_le _, rfl, rfl, Below.refl _ _⟩
    case round =>
      obtain ⟨k, hk, rfl, rfl, hb⟩ := hrel
      obtain ⟨best, hbest⟩ : ∃ best, ((y :: ys).take k).foldl (fun b z => min b z.low) y.low = best := ⟨_, rfl⟩
      rw [hbest]
      have Hbest := Lib.hid hbest
      clear hbest
      by_cases hlt : k < n
      · have kx : k < (y :: ys).length := by rw [Hn.out]; exact hlt
        have hc := (HS.out.flatKeeps (Keeps.below hb)).flat kx
        have c1 := hc 0 _ rfl
        have c2 := hc 1 _ rfl
        have c3 := hc 2 _ rfl
        rw [Nat.add_zero] at c1
        have Hft := Lib.hid (foldl_take_succ (fun (b : Int) (z : Note) => min b z.low) y.low (y :: ys) k kx)
        obtain ⟨x, hx⟩ : ∃ x, (y :: ys)[k] = x := ⟨_, rfl⟩
        rw [hx] at c1 c2 c3 Hft
        obtain ⟨a, lo, hi⟩ := x
        dsimp only at c1 c2 c3
        have hB := hb.size
        have Hb := Lib.hid (hb.alloc hb.size (.cells #[.int .i64 a, .int .i64 lo, .int .i64 hi] 141))
        clear hc hx hb
        by_cases hm : lo < best
        all_goals
          go_wp2
          go_roundw
          case rel =>
            refine ⟨k + 1, by omega, by go_num, ?_, Hb.out⟩
            have h := Hft.out
            rw [Hbest.out] at h
            rw [h]
            congr 1
            show _ = min best lo
            omega
          case measure => simp [intOf]; omega
      · have hkn : k = n := by omega
        have Ht : Hid ((y :: ys).take k = y :: ys) := List.take_of_length_le (by rw [Hn.out]; omega)
        have Hb := Lib.hid (Hb1.out.trans (hb.mono Hb1.out.size))
        clear hb hkn
        go_wp2
        go_ret2
        refine ⟨?_, Hb.out⟩
        have h := Hbest.out
        rw [Ht.out] at h
        show Ending.returned (.tuple #[.int .i64 best, .bool true]) = _
        rw [← h]
        rfl

set_option maxHeartbeats 2000000 in
theorem greatest_any (B mb : Nat) (v : Value) (xs : List Note) (now window : Int) (w : World) (hM : MemAt w B mb v xs) (hlen : xs.length ≤ 1000000) (hnow : now ≤ 9223372036854775807) (h0 : ∀ x ∈ xs, 0 ≤ x.at_) :
    Calls Try.prog 41 #[.pointer (some ⟨mb, 0, none⟩), .int .i64 now, .int .i64 window] w fun e w' =>
      e = .returned (.tuple #[.int .i64 (greatestOf (xs.filter (inSpan now (spanOf window)))).1, .bool (greatestOf (xs.filter (inSpan now (spanOf window)))).2]) ∧ Below w.heap.size w w' := by
  have hll : (xs.filter (inSpan now (spanOf window))).length ≤ 1000000 := Nat.le_trans (List.length_filter_le _ _) hlen
  have HW := Lib.hid (within_any B mb v xs now window w hM hlen hnow h0)
  obtain ⟨ys, hys⟩ : ∃ ys, xs.filter (inSpan now (spanOf window)) = ys := ⟨_, rfl⟩
  rw [hys] at HW hll ⊢
  clear hys hM h0
  go_enter Try.func41, Try.ntmps41
  go_wp2_with fail
  refine HW.out.mono ?_
  rintro e w1 ⟨ao, n, cap, rfl, hS, hb1⟩
  have hn := hS.hlen
  have hcm := hS.hmax
  have hlc := hS.hcap
  unfold maxLen at hcm
  rw [hn] at hll
  have Hn := Lib.hid hn
  have HS := Lib.hid hS
  have Hb1 := Lib.hid hb1
  clear hn hS hb1 HW
  go_wp2_with fail
  go_loopw [9, 18] (fun o i wr => ∃ k : Nat, k ≤ n ∧ i = .int .i64 k ∧ o = .int .i64 ((ys.take k).foldl (fun b z => max b z.high) 0) ∧ Below w1.heap.size w1 wr) (fun _ i _ => n - (intOf i).toNat)
  case atStart => exact ⟨0, Nat.zero_le _, rfl, rfl, Below.refl _ _⟩
  case round =>
    obtain ⟨k, hk, rfl, rfl, hb⟩ := hrel
    obtain ⟨best, hbest⟩ : ∃ best, (ys.take k).foldl (fun b z => max b z.high) 0 = best := ⟨_, rfl⟩
    rw [hbest]
    have Hbest := Lib.hid hbest
    clear hbest
    by_cases hlt : k < n
    · obtain ⟨b, off, rfl⟩ := HS.out.ptr (by decide) (by omega)
      have kx : k < ys.length := by rw [Hn.out]; exact hlt
      have hc := (HS.out.flatKeeps (Keeps.below hb)).flat kx
      have c1 := hc 0 _ rfl
      have c2 := hc 1 _ rfl
      have c3 := hc 2 _ rfl
      rw [Nat.add_zero] at c1
      have Hft := Lib.hid (foldl_take_succ (fun (b : Int) (z : Note) => max b z.high) 0 ys k kx)
      obtain ⟨x, hx⟩ : ∃ x, ys[k] = x := ⟨_, rfl⟩
      rw [hx] at c1 c2 c3 Hft
      obtain ⟨a, lo, hi⟩ := x
      dsimp only at c1 c2 c3
      have hB := hb.size
      have Hb := Lib.hid (hb.alloc hb.size (.cells #[.int .i64 a, .int .i64 lo, .int .i64 hi] 141))
      clear hc hx hb
      by_cases hm : best < hi
      all_goals
        go_wp2
        go_roundw
        case rel =>
          refine ⟨k + 1, by omega, by go_num, ?_, Hb.out⟩
          have h := Hft.out
          rw [Hbest.out] at h
          rw [h]
          congr 1
          show _ = max best hi
          omega
        case measure => simp [intOf]; omega
    · have hkn : k = n := by omega
      have Ht : Hid (ys.take k = ys) := List.take_of_length_le (by rw [Hn.out]; omega)
      have Hb := Lib.hid (Hb1.out.trans (hb.mono Hb1.out.size))
      clear hb hkn
      go_wp2
      go_ret2
      refine ⟨?_, Hb.out⟩
      have h := Hbest.out
      rw [Ht.out] at h
      have e2 : decide (0 < n) = !ys.isEmpty := by
        rw [← Hn.out]
        cases ys <;> simp
      show Ending.returned (.tuple #[.int .i64 best, .bool (decide _)]) = Ending.returned (.tuple #[.int .i64 (ys.foldl (fun b y => max b y.high) 0), .bool (!ys.isEmpty)])
      rw [← h, ← e2]
end Go.Proofs.Ytbhhjlnjhlagdaa
