/- Objects as rows of cells, of which five are told; pod. No condition. -/
import Derived.Test.YteajdcldebegmaaRows
import Derived.Test.YteajdcldebegmaaList
import Derived.Test.YteajdcldebegmaaFrame
namespace Go.Proofs.Yteajdcldebegmaa
open Go.ChangeShapes Go.WideShapes Go.ChangeAt Go.RowKit Go.Deep

/-- An object's cells, and those that chapter 15 looks at. -/
structure OV where
  cells : List Value
  kind : Int
  name : ByteArray
  owner : ByteArray
  phase : Int
  since : Int
  hlen : cells.length = 47
  h0 : cells[0]? = some (.int .i64 kind)
  h1 : cells[1]? = some (.string name)
  h10 : cells[10]? = some (.string owner)
  h12 : cells[12]? = some (.int .i64 phase)
  h13 : cells[13]? = some (.int .i64 since)
  one : cells.all (fun u => u.oneCell') = true

theorem aggObj : AggOK Try.prog 48 47 := .mk' (by kernel_rfl) (by kernel_rfl)
theorem elemObj : ElemOK Try.prog 22 48 47 640 := .mk' Try.underlying22 (by kernel_rfl) (by decide)

theorem pod_any (x : OV) (w : World) : Calls Try.prog 7 #[.agg x.cells.toArray] w fun e w' => e = .returned (.bool (x.kind == 1)) ∧ Below w.heap.size w w' := by
  have k0 : (w.alloc (.cells x.cells.toArray 48)).cell? ⟨w.heap.size, 0, none⟩ = some (.int .i64 x.kind) := (cell_new w _ _ 0).trans (by simpa using x.h0)
  go_enter Try.func7, Try.ntmps7
  go_wp2
  go_ret
  exact ⟨rfl, (Below.refl _ _).alloc (Nat.le_refl _) _⟩
end Go.Proofs.Yteajdcldebegmaa
