/- Series as keys of maps. No condition. -/
import Derived.Test.YtolgkehlnhkgiaaMap
import Derived.DeepKeys4
import Derived.Test.YtolgkehlnhkgiaaChecked
namespace Go.Proofs.Ytolgkehlnhkgiaa
open Go.ChangeShapes Go.WideShapes Go.ChangeAt Go.RowKit Go.Deep Go.Maps

theorem laidOut : laidOutB Try.prog = true := by kernel_rfl
theorem serKeyed : Keyed Try.prog 36 := Keyed.of_law (deep_law_laid laidOut (m := 5) (by decide) (of_decide_eq_true (by kernel_rfl)) (by kernel_rfl) (by kernel_rfl))

/-- A series as a key: its bytes. -/
def serBytes (a b : List UInt8) : List UInt8 := keyBytes [.string a, .string b]

theorem serKey {a b : ByteArray} (ha : a.size ≤ maxLen) (hb : b.size ≤ maxLen) : keyOf Try.prog 36 (.agg #[.string a, .string b]) = some (.string (serBytes a.data.toList b.data.toList)) := by
  have hu := Try.underlying36
  have hs := Try.underlying9
  have hk : Try.prog.keyType 36 = true := by kernel_rfl
  have hc : Try.prog.cellsOf 36 = 2 := by kernel_rfl
  have hc1 : Try.prog.cellsOf 9 = 1 := by kernel_rfl
  obtain ⟨d, hd⟩ : ∃ d, Try.prog.types.size = d + 1 := ⟨Try.prog.types.size - 1, by kernel_rfl⟩
  unfold keyOf
  rw [hu]
  simp only [hk, Value.formed, hu, Bool.true_and]
  rw [hd]
  simp [Program.keyLits, hu, hs, hc, hc1, Value.cells, ha, hb, serBytes]
end Go.Proofs.Ytolgkehlnhkgiaa
