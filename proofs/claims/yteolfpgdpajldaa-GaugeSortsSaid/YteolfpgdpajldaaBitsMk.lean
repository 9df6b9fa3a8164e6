/- Plain facts on rows of bits that are made. No condition. -/
import Derived.Test.YteolfpgdpajldaaBits4
import Derived.Test.YteolfpgdpajldaaList
import Derived.OwnWalk
namespace Go.Proofs.Yteolfpgdpajldaa
open Go.ChangeShapes Go.WideShapes Go.ChangeAt Go.RowKit Go.Deep

theorem infoByte : (Try.prog.info? 5).map (fun i => (i.zero, i.size, i.bytes)) = some (some (.int .u8 0), 1, 1) := by kernel_rfl

theorem made_bits (n : Nat) : (madeCells (Value.int .u8 0).cells (n * 1)).toList = (List.replicate n 0).flatMap bitC := by
  apply List.ext_getElem
  · rw [Array.length_toList, size_madeCells, flatMap_len (fun _ => rfl : ∀ d, (bitC d).length = 1)]; simp
  · intro i h1 h2
    have e : (List.replicate n 0).flatMap bitC = List.replicate n (Value.int .u8 0) := by
      clear h1 h2
      induction n with
      | zero => rfl
      | succ n ih => rw [List.replicate_succ, List.flatMap_cons, ih]; rfl
    simp only [e, List.getElem_replicate]
    simp [madeCells, Value.cells, Nat.mod_one]

end Go.Proofs.Yteolfpgdpajldaa
