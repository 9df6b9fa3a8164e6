/- Contracts of the reference's numbers in bits: power, Div. Condition: the rows read. -/
import Derived.Test.YteolfpgdpajldaaBitsMk
import Derived.Test.YteolfpgdpajldaaList
import Derived.OwnWalk
namespace Go.Proofs.Yteolfpgdpajldaa
open Go.ChangeShapes Go.WideShapes Go.ChangeAt Go.RowKit Go.Deep

set_option maxHeartbeats 1000000 in
theorem power_any (n : Nat) (w : World) (h : n ≤ 10000) :
    Calls Try.prog 21 #[.int .i64 n] w fun e w' => (∃ v, e = .returned v ∧ NumAt w' v (2 ^ n)) ∧ Below w.heap.size w w' := by
  obtain ⟨i0, hi, hz0, hz1, hz2⟩ := info_parts infoByte
  go_enter Try.func21, Try.ntmps21
  go_wp2_with (first | (at_make; go_must (refine wpList_make_full _ rfl _ _ 44 rfl w.heap.size 5 i0 (.int .u8 0) 1 Try.underlying44 hi hz0 hz1 .i64 .i64 n n n rfl rfl rfl rfl (by rw [hz2]; omega) (by unfold maxLen; omega) (Nat.le_refl _) ?_; intro w1 hown1 hg1; have Hown1 := Lib.hid hown1; have Hg1 := Lib.hid hg1; clear hown1 hg1)) | (at_builtin; go_must (refine wpList_append_one elemByte rfl (.tmp 6) (.tmp 7) rfl w w1 w.heap.size _ _ n _ rfl Hown1.out ((Below.refl _ w).grown Hg1.out (Nat.le_refl _) (fun _ h => by cases h)) Hg1.out.size rfl rfl rfl (by unfold maxLen; omega) (by omega) ?_); intro v1 w2 hown2 hb2 _))
  go_ret
  have hown3 : w2.ownsRow w.heap.size 5 1 v1 (n + 1) ((bitsOf (2 ^ n)).flatMap bitC) := by
    rw [bitsOf_two_pow, List.flatMap_append, ← made_bits]
    exact hown2
  obtain ⟨ao, cap, hv, hR⟩ := ownsRow_bits hown3 (by rw [bitsOf_two_pow]; simp) (bin_bitsOf _) (owns_some hown3 (by omega))
  exact ⟨⟨_, rfl, ao, _, cap, hv, hR⟩, hb2⟩
end Go.Proofs.Yteolfpgdpajldaa
