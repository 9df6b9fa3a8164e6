/- The contract of replay.Rounds at (2, 5), as the layer's example calls it, and of the example. No condition. -/
import Derived.Test.YtbhhjlnjhlagdaaRows
import Derived.Test.YtbhhjlnjhlagdaaBase
namespace Go.Proofs.Ytbhhjlnjhlagdaa
open Go.ChangeShapes Go.WideShapes Go.ChangeAt Go.RowKit Go.Deep

/-- A step's cells, all zero but its kind, its number and its writes. -/
def stepC (k n m : Int) : Array Value := #[.int .i64 k, .int .i64 n, .string ⟨#[]⟩, .string ⟨#[]⟩, .int .u64 0, .int .i64 0, .string ⟨#[]⟩, .int .u64 0, .int .i64 0, .int .i64 0, .int .i64 0, .slice none 0 0, .slice none 0 0, .slice none 0 0, .int .i64 0, .string ⟨#[]⟩, .string ⟨#[]⟩, .int .i64 0, .int .i64 0, .int .i64 0, .int .i64 0, .slice none 0 0, .slice none 0 0, .slice none 0 0, .int .i64 0, .string ⟨#[]⟩, .int .i64 0, .int .i64 0, .slice none 0 0, .slice none 0 0, .int .i64 0, .bool false, .int .i64 0, .int .i64 0, .int .i64 0, .int .i64 0, .int .i64 0, .slice none 0 0, .slice none 0 0, .int .i64 0, .string ⟨#[]⟩, .int .i64 0, .int .i64 0, .slice none 0 0, .int .i64 0, .int .i64 0, .int .i64 0, .slice none 0 0, .int .i64 0, .int .i64 0, .slice none 0 0, .slice none 0 0, .int .i64 0, .int .i64 0, .bool false, .int .i64 0, .int .i64 m]

theorem elemStep : ElemOK Try.prog 96 120 57 736 := .mk' Try.underlying96 (by kernel_rfl) (by decide)

theorem buildTick (n : Int) (w : World) : (Instr.build 120 [(0, .int .i64 4), (1, .int .i64 n)].toArray).run Try.prog w = .ok (.agg (stepC 4 n 0)) w := by kernel_rfl
theorem buildPick (n : Int) (w : World) : (Instr.build 120 [(0, .int .i64 5), (1, .int .i64 n), (7, .int .i64 (-1))].toArray).run Try.prog w = .ok (.agg (stepC 5 n (-1))) w := by kernel_rfl
theorem oneStep (k n m : Int) (w : World) : (Instr.buildSlice 96 1 [(0, .agg (stepC k n m))].toArray).run Try.prog w = .ok (.slice (some ⟨w.heap.size, 0, none⟩) 1 1) (w.alloc (.cells (stepC k n m) 120)) := by kernel_rfl
theorem stepC_size (k n m : Int) : (stepC k n m).size = 57 := rfl
theorem stepC_one (k n m : Int) : (stepC k n m).toList.all (fun u => u.oneCell') = true := rfl

/-- The cells of the first j picks of a round. -/
def picks : Nat → List Value
  | 0 => []
  | j + 1 => picks j ++ (stepC 5 j (-1)).toList
def rnds (n : Int) : Nat → List Value
  | 0 => []
  | i + 1 => rnds n i ++ ((stepC 4 n 0).toList ++ picks 6)

set_option maxRecDepth 100000 in
set_option maxHeartbeats 1000000 in
theorem rounds_any (c : Nat) (n : Int) (w : World) (h0 : 0 < c) (hc : c ≤ 64) :
    Calls Try.prog 52 #[.int .i64 c, .int .i64 n] w fun e w' => ∃ v, e = .returned v ∧ w'.ownsRow w.heap.size 120 57 v (7 * c) (rnds n c) ∧ Below w.heap.size w w' := by
  go_enter Try.func52, Try.ntmps52
  go_wp2_with fail
  go_loopw [5, 10] (fun v i wr => ∃ k : Nat, k ≤ c ∧ i = .int .i64 k ∧ wr.ownsRow w.heap.size 120 57 v (7 * k) (rnds n k) ∧ Below w.heap.size w wr) (fun _ i _ => c - (intOf i).toNat)
  case atStart => exact ⟨0, Nat.zero_le _, rfl, World.ownsRow_nil _ _ _ _, Below.refl _ _⟩
  case round =>
    obtain ⟨k, hk, rfl, hown, hb⟩ := hrel
    by_cases hlt : k < c
    · have hsz := hb.size
      go_wp2_with ((with_reducible refine at_slot 14 ?_); refine wpList_build rfl 120 _ rfl [(0, .int .i64 4), (1, .int .i64 n)] rfl _ (buildTick n) ?_; refine wpList_buildSlice rfl 96 1 _ rfl [(0, .agg (stepC 4 n 0))] rfl _ _ (oneStep _ _ _) ?_; go_must (refine wpList_append_one elemStep rfl _ _ rfl w wr w.heap.size _ _ (7 * k) _ rfl hown hb hsz rfl (stepC_size _ _ _) (stepC_one _ _ _) (by unfold maxLen; omega) (by omega) ?_); intro v1 w1 hown1 hb1 _)
      have Hn1 := Lib.hid hown1
      clear hown1 hown hb
      obtain ⟨wo, rfl⟩ : ∃ wo : World, wo = wr := ⟨_, rfl⟩
      go_loopw [5, 17] (fun v i wr => ∃ j : Nat, j ≤ 6 ∧ i = .int .i64 j ∧ wr.ownsRow w.heap.size 120 57 v (7 * k + 1 + j) (rnds n k ++ ((stepC 4 n 0).toList ++ picks j)) ∧ Below w.heap.size w wr) (fun _ i _ => 6 - (intOf i).toNat)
      case atStart => exact ⟨0, Nat.zero_le _, rfl, by simpa [picks] using Hn1.out, hb1⟩
      case round =>
        obtain ⟨j, hj, rfl, hown, hb⟩ := hrel
        by_cases hjt : j < 6
        · have hsz' := hb.size
          go_wp2_with ((with_reducible refine at_slot 22 ?_); refine wpList_build rfl 120 _ rfl [(0, .int .i64 5), (1, .int .i64 j), (7, .int .i64 (-1))] rfl _ (buildPick j) ?_; refine wpList_buildSlice rfl 96 1 _ rfl [(0, .agg (stepC 5 j (-1)))] rfl _ _ (oneStep _ _ _) ?_; go_must (refine wpList_append_one elemStep rfl _ _ rfl w wr w.heap.size _ _ (7 * k + 1 + j) _ rfl hown hb hsz' rfl (stepC_size _ _ _) (stepC_one _ _ _) (by unfold maxLen; omega) (by omega) ?_); intro v2 w2 hown2 hb2 _)
          have Hn2 := Lib.hid hown2
          clear hown2 hown hb
          go_roundw
          case rel => exact ⟨j + 1, by omega, by go_num, by simpa [picks, Nat.add_assoc, List.append_assoc] using Hn2.out, hb2⟩
          case measure => simp [intOf]; omega
        · obtain rfl : j = 6 := by omega
          go_wp2
          go_roundw
          case rel => exact ⟨k + 1, by omega, by go_num, by simpa [rnds, Nat.mul_add, Nat.add_assoc] using hown, hb⟩
          case measure => simp [intOf]; omega
    · obtain rfl : k = c := by omega
      have Hn := Lib.hid hown
      clear hown
      go_wp2
      go_ret
      exact ⟨_, rfl, Hn.out, hb⟩

theorem at399 : (rnds 5 2)[399]? = some (.int .i64 4) := by kernel_rfl
theorem at400 : (rnds 5 2)[400]? = some (.int .i64 5) := by kernel_rfl
theorem at742 : (rnds 5 2)[742]? = some (.int .i64 5) := by kernel_rfl
theorem at797 : (rnds 5 2)[797]? = some (.int .i64 (-1)) := by kernel_rfl

theorem rounds_25 (w : World) : Calls Try.prog 52 #[.int .i64 2, .int .i64 5] w fun e w' => ∃ g cap, e = .returned (.slice (some ⟨g, 0, none⟩) 14 cap) ∧ 14 ≤ cap ∧ cap ≤ maxLen ∧
    w'.cell? ⟨g, 399, none⟩ = some (.int .i64 4) ∧ w'.cell? ⟨g, 400, none⟩ = some (.int .i64 5) ∧ w'.cell? ⟨g, 742, none⟩ = some (.int .i64 5) ∧ w'.cell? ⟨g, 797, none⟩ = some (.int .i64 (-1)) ∧ Below w.heap.size w w' := by
  refine (rounds_any 2 5 w (by decide) (by decide)).mono ?_
  rintro e w1 ⟨v, rfl, hown, hb⟩
  obtain ⟨g, cap, rfl, _, hc, hm, hcell⟩ := owns_shape hown (by decide)
  exact ⟨g, cap, rfl, hc, hm, hcell 399 _ at399, hcell 400 _ at400, hcell 742 _ at742, hcell 797 _ at797, hb⟩

theorem lives45 (w : World) : Calls Try.prog 15 #[] w fun e w' => e = .returned (.bool true) ∧ Below w.heap.size w w' := by
  go_enter Try.func15, Try.ntmps15
  go_wp2_with fail
  refine (rounds_25 w).mono ?_
  rintro e w1 ⟨g, cap, rfl, hc, hm, c1, c2, c3, c4, hb⟩
  have Hb := Lib.hid hb
  unfold maxLen at hm
  clear hb
  go_wp2
  go_ret
  exact ⟨rfl, Hb.out⟩
end Go.Proofs.Ytbhhjlnjhlagdaa
