/- The chapter's example. No condition. -/
import Derived.Test.YtbhhjlnjhlagdaaRateRow
import Derived.Test.YtbhhjlnjhlagdaaRate3
import Derived.Test.YtbhhjlnjhlagdaaRate4
namespace Go.Proofs.Ytbhhjlnjhlagdaa
open Go.ChangeShapes Go.WideShapes Go.ChangeAt Go.RowKit Go.Deep

def exS : List Smp := [⟨0, 10⟩, ⟨10, 15⟩, ⟨20, 3⟩]
theorem exS_inc : incOf exS = (8, 0) := by decide +kernel
theorem exS_res : resetsOf exS = 1 := by decide +kernel

set_option maxRecDepth 100000 in
theorem rate_ex (b : Nat) (w : World) (hS : SlR (Flat Smp.cells) 2 w (some ⟨b, 0, none⟩) 3 3 exS) :
    Calls Try.prog 63 #[.slice (some ⟨b, 0, none⟩) 3 3] w fun e w' => e = .returned (.tuple #[.int .i64 0, .int .i64 0]) ∧ Below w.heap.size w w' := by
  have HI := inc_any exS _ _ _ w hS
  rw [exS_inc] at HI
  have HI := Lib.hid HI
  have c0 : w.cell? ⟨b, 0, none⟩ = some (.int .i64 0) := hS.flat (i := 0) (by decide) 0 _ rfl
  have c4 : w.cell? ⟨b, 4, none⟩ = some (.int .i64 20) := hS.flat (i := 2) (by decide) 0 _ rfl
  have hb := blk c0
  clear hS
  go_enter Try.func63, Try.ntmps63
  go_wp2_with fail
  refine HI.out.mono ?_
  rintro e w1 ⟨rfl, hb1⟩
  have c0 := (hb1.cell (p := ⟨b, 0, none⟩) hb).trans c0
  have c4 := (hb1.cell (p := ⟨b, 4, none⟩) hb).trans c4
  have H1 := Lib.hid hb1
  clear hb1
  go_wp2_with fail
  go_quiet (fail)
  go_wp2
  go_ret2
  exact ⟨rfl, below_dn H1.out _⟩

set_option maxRecDepth 100000 in
theorem lives12 (w : World) : Calls Try.prog 28 #[] w fun e w' => e = .returned (.bool true) ∧ Below w.heap.size w w' := by
  have hS := SlR.of_new (f := Smp.cells) (sz := 2) w exS 51 #[.int .i64 0, .int .i64 10, .int .i64 10, .int .i64 15, .int .i64 20, .int .i64 3] 3 rfl (by decide) (fun _ => rfl) rfl
  have H0 := Lib.hid ((Below.refl w.heap.size w).alloc (Nat.le_refl _) (.cells #[.int .i64 0, .int .i64 10, .int .i64 10, .int .i64 15, .int .i64 20, .int .i64 3] 51))
  have HI := inc_any exS _ _ _ _ hS
  rw [exS_inc] at HI
  have HI := Lib.hid HI
  have HR : Hid (∀ w1, Below _ _ w1 → _) := fun w1 hb => rate_ex _ w1 (hS.flatKeeps (Keeps.below hb))
  have HT : Hid (∀ w1, Below _ _ w1 → _) := fun w1 hb => resets_any exS _ _ _ w1 (hS.flatKeeps (Keeps.below hb))
  clear hS
  go_enter Try.func28, Try.ntmps28
  go_wp2_with fail
  refine HI.out.mono ?_
  rintro e w1 ⟨rfl, hb1⟩
  have HR1 := Lib.hid (HR.out w1 hb1)
  have H1 := Lib.hid hb1
  clear hb1
  go_wp2_with fail
  refine HR1.out.mono ?_
  rintro e w2 ⟨rfl, hb2⟩
  have H2 := Lib.hid (H1.out.trans (hb2.mono H1.out.size))
  clear hb2
  have HT2 := HT.out w2 H2.out
  rw [exS_res] at HT2
  have HT2 := Lib.hid HT2
  go_wp2_with fail
  refine HT2.out.mono ?_
  rintro e w3 ⟨rfl, m, rfl⟩
  go_wp2_with fail
  go_ret
  exact ⟨rfl, below_dn (H0.out.trans (H2.out.mono H0.out.size)) _⟩
end Go.Proofs.Ytbhhjlnjhlagdaa
