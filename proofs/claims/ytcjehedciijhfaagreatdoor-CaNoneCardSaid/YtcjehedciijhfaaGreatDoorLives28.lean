/- The example of chapter 28 answers true, by the executor. No condition but the tables. -/
import Derived.Test.YtcjehedciijhfaaGreatDoorTabs
namespace Go.Proofs.YtcjehedciijhfaaGreatDoor.E
open Go.ChangeShapes Go.WideShapes Go.ChangeAt Go.RowKit Go.Deep

theorem mixed : Tryz.prog.follows .mixedOrders = true := by kernel_rfl
theorem lives28_says : says drK Tryz.prog 100000 18 nG noA noL noI noS noX tabs [] true = true := by kernel_rfl
end Go.Proofs.YtcjehedciijhfaaGreatDoor.E
