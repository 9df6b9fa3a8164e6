/- The package-level variables that are listed, as the executor's tables: they lie in every world that fits. Condition: the row's own. -/
import Derived.Test.YtcjehedciijhfaaGreatDoorE38
import Derived.Test.YtcjehedciijhfaaGreatDoorRows
import Derived.Lib.LaidTab
import Derived.Stop.LaidErr
namespace Go.Proofs.YtcjehedciijhfaaGreatDoor.E
open Go.ChangeShapes Go.WideShapes Go.ChangeAt Go.RowKit Go.Deep

def tab1 : Tab := ⟨1, 424, .u64, [1, 10, 100, 1000, 10000, 100000, 1000000, 10000000, 100000000, 1000000000, 10000000000, 100000000000, 1000000000000, 10000000000000, 100000000000000, 1000000000000000, 10000000000000000, 100000000000000000, 1000000000000000000, 10000000000000000000]⟩
def tabs : List Tab := [tab1]
def nG : Nat := 7
section
variable {W : World}

theorem size_of (hsh : W.ShapedOpen Tryz.prog) : nG ≤ W.heap.size := by
  obtain ⟨o, _, h, _⟩ := hsh.2 7 (Nat.le_of_eq (by kernel_rfl)) (by rw [← Nat.blt_eq]; kernel_rfl)
  exact Nat.le_of_lt (Array.getElem?_eq_some_iff.1 h).1
theorem lies1 (hL : laidMet Tryz.prog [("math/bits.deBruijn32tab", Rows.laid_math_bits_deBruijn32tab), ("math/bits.deBruijn64tab", Rows.laid_math_bits_deBruijn64tab), ("internal/strconv.uint64pow10", Rows.laid_internal_strconv_uint64pow10)] W) (hsh : W.ShapedOpen Tryz.prog) : W.heap[1]? = some tab1.obj := by
  have h1 : Lib.TabIs Tryz.prog W "internal/strconv.uint64pow10" .u64 tab1.zs := Lib.tabIs_of_head (g := 1) (t := 424) (e := 44) (n := 20) (by kernel_rfl) (by kernel_rfl) Tryz.underlying424 Tryz.underlying44 (by kernel_rfl) (by kernel_rfl) (laidMet.tail (laidMet.tail hL))
  obtain ⟨cs, h2, _⟩ := hsh.1 1 (Array.replicate 20 (Value.int .u64 0)) 424 (by rw [show Tryz.prog.globals.size = 7 by kernel_rfl]; decide) (by kernel_rfl)
  have h3 : W.var? Tryz.prog "internal/strconv.uint64pow10" = some cs := by
    unfold World.var?
    rw [show Tryz.prog.globalNamed "internal/strconv.uint64pow10" = some 1 by kernel_rfl]
    simp [h2]
  rw [h2]
  unfold Lib.TabIs at h1
  rw [h3] at h1
  cases h1
  rfl
theorem tabs_laid (hL : laidMet Tryz.prog [("math/bits.deBruijn32tab", Rows.laid_math_bits_deBruijn32tab), ("math/bits.deBruijn64tab", Rows.laid_math_bits_deBruijn64tab), ("internal/strconv.uint64pow10", Rows.laid_internal_strconv_uint64pow10)] W) (hsh : W.ShapedOpen Tryz.prog) : Laid W nG tabs := by
  refine ⟨size_of hsh, fun x hx => ?_⟩
  simp only [tabs, List.mem_cons, List.not_mem_nil, or_false] at hx
  rcases hx with rfl
  · exact ⟨by decide, lies1 hL hsh⟩
end
end Go.Proofs.YtcjehedciijhfaaGreatDoor.E
