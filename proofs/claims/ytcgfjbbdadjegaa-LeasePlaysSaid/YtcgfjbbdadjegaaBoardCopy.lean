/- The contract of lease.Board's Copy. Condition: the board lies in blocks of the call's own. -/
import Derived.Test.YtcgfjbbdadjegaaLease5
import Derived.Shelf.SlMaps.Clone
import Derived.Ground.SlmcProg
import Derived.Shelf.SlGeneric
namespace Go.Proofs.Ytcgfjbbdadjegaa
open Go.ChangeShapes Go.WideShapes Go.ChangeAt Go.RowKit Go.Deep Go.Maps Go.Shelf

def kClone_ren : Go.Shelf.Ren := ⟨fun | 5 => 12 | 7 => 26 | n => n, fun | 23 => 44 | 25 => 9 | 3 => 34 | 4 => 4 | 20 => 20 | n => n, fun | n => n⟩
theorem kClone : Go.Proofs.SlLaysW.n5 Try.prog kClone_ren := {
  mixed := by kernel_rfl
  f5 := ⟨Try.f12.name, by decide, Try.func12.trans (congrArg some (by kernel_rfl))⟩
  f7 := Try.func26.trans (congrArg some (by kernel_rfl))
  t4 := Try.underlying4
  a4 := Try.isAgg4
  z4 := Try.sizeOf4
  v4 := Try.zeroValue4
  t20 := Try.underlying20
  a20 := Try.isAgg20
  z20 := Try.sizeOf20
  v20 := Try.zeroValue20
  t23 := Try.underlying44
  a23 := Try.isAgg44
  z23 := Try.sizeOf44
  v23 := Try.zeroValue44 }

theorem clone_board {b n : Nat} {f : Lit → Option Value} {w : World} (h : MapIs w Try.prog 9 b n f) :
    Calls Try.prog 12 #[.map (some b)] w fun e w' => e = .returned (.map (some w.heap.size)) ∧ MapIs w' Try.prog 9 w.heap.size n f ∧ Below w.heap.size w w' := by
  obtain ⟨D, h1, h2, h3⟩ := h
  exact (AnyW.maps_Clone_owns kClone _ _ b n D w h1).mono fun e w' ⟨he, h4, _, h5⟩ => ⟨he, ⟨D, h4, h2, h3⟩, h5⟩

set_option maxRecDepth 100000 in
theorem boardCopy_any (bb bm : Nat) (b : Bd) (w : World) (hB : BoardAt w bb bm b) :
    Calls Try.prog 6 #[.pointer (some ⟨bb, 0, none⟩)] w fun e w' => ∃ bb' bm', e = .returned (.pointer (some ⟨bb', 0, none⟩)) ∧ BoardAt w' bb' bm' b ∧ w.heap.size ≤ bb' ∧ w.heap.size ≤ bm' ∧ Below w.heap.size w w' := by
  have c0 : w.cell? ⟨bb, 0, none⟩ = some (.map (some bm)) := by rw [cell_of_row w bb 0 _ _ _ hB.blk]; rfl
  have HC := Lib.hid (clone_board hB.map)
  clear hB
  go_enter Try.func6, Try.ntmps6
  go_wp2_with fail
  refine HC.out.mono ?_
  rintro e w1 ⟨rfl, hM1, hb1⟩
  have HM1 := Lib.hid hM1
  have Hb1 := Lib.hid hb1
  clear hM1 hb1
  go_wp2_with fail
  go_ret
  exact ⟨w1.heap.size, w.heap.size, rfl, ⟨heap_alloc_new w1 _, MapIs.below HM1.out ((Below.refl _ _).alloc (Nat.le_refl _) _)⟩, Hb1.out.size, Nat.le_refl _, Hb1.out.alloc Hb1.out.size _⟩
end Go.Proofs.Ytcgfjbbdadjegaa
