/- watch.Folded at three events of one thing, none of which deletes it. Condition: the events lie in a block. -/
import Derived.Test.YtkppmdbapcfmnaaWatchCmp
import Derived.Test.YtkppmdbapcfmnaaMap
import Derived.Test.YtkppmdbapcfmnaaCells
import Derived.DeepKeys4
namespace Go.Proofs.Ytkppmdbapcfmnaa
open Go.ChangeShapes Go.WideShapes Go.ChangeAt Go.RowKit Go.Deep Go.Maps

theorem laidOutW : laidOutB Try.prog = true := by kernel_rfl
theorem thKeyed : Keyed Try.prog 74 := Keyed.of_law (deep_law_laid laidOutW (m := 5) (by decide) (of_decide_eq_true (by kernel_rfl)) (by kernel_rfl) (by kernel_rfl))

def thBytes (a : List UInt8) : List UInt8 := keyBytes [.int .i64 0, .string a]

theorem thKey {b : ByteArray} (hb : b.size ≤ maxLen) : keyOf Try.prog 74 (.agg #[.int .i64 0, .string b]) = some (.string (thBytes b.data.toList)) := by
  have hu := Try.underlying74
  have hs := Try.underlying9
  have hi := Try.underlying3
  have hk : Try.prog.keyType 74 = true := by kernel_rfl
  have hc : Try.prog.cellsOf 74 = 2 := by kernel_rfl
  have hc1 : Try.prog.cellsOf 9 = 1 := by kernel_rfl
  have hc2 : Try.prog.cellsOf 3 = 1 := by kernel_rfl
  have hw : (Lit.int .i64 0).wf = true := by decide
  obtain ⟨d, hd⟩ : ∃ d, Try.prog.types.size = d + 1 := ⟨Try.prog.types.size - 1, by kernel_rfl⟩
  unfold keyOf
  rw [hu]
  simp only [hk, Value.formed, hu, Bool.true_and]
  rw [hd]
  simp [Program.keyLits, hu, hs, hi, hc, hc1, hc2, Value.cells, hb, thBytes, hw]

theorem zeroFold (w : World) : (zeroValue 76).run Try.prog w = .ok (.agg #[.bool false, .bool false, .int .i64 0, .int .i64 0, .string ⟨#[]⟩, .int .u64 0]) w := by kernel_rfl
theorem aggFold : AggOK Try.prog 76 6 := .mk' (by kernel_rfl) (by kernel_rfl)
theorem aggEvent : AggOK Try.prog 38 4 := .mk' (by kernel_rfl) (by kernel_rfl)

def foldV (nm : ByteArray) (ty ver : Int) : Value := .agg #[.bool false, .bool true, .int .i64 ty, .int .i64 0, .string nm, .int .u64 ver]

theorem fset_twice (kl : List UInt8) (a b : Value) : fset (fset (fun _ => none) (.string kl) a) (.string kl) b = fset (fun _ => none) (.string kl) b := by
  funext x
  unfold fset
  split <;> rfl
end Go.Proofs.Ytkppmdbapcfmnaa
