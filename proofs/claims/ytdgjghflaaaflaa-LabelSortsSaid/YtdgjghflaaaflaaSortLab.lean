/- A row of elements of the call's own that is sorted in place (api.Label). No condition. -/
import Derived.Test.YtdgjghflaaaflaaSortPlain
import Derived.Test.YtdgjghflaaaflaaFrame
import Derived.Test.YtdgjghflaaaflaaCells
import Derived.Test.YtdgjghflaaaflaaList
import Derived.Test.YtdgjghflaaaflaaHeadLit
import Derived.Test.YtdgjghflaaaflaaLab
import Derived.BigRegion
import Derived.Shelf.RegionOpenPlain
namespace Go.Proofs.Ytdgjghflaaaflaa
open Go.ChangeShapes Go.WideShapes Go.ChangeAt Go.RowKit Go.Deep

theorem Fr.setCell {S : Nat → Prop} {a b : World} (h : Fr S a b) (p : Addr) (v : Value) (hp : S p.block) : Fr S a (b.setCell p v) := by
  refine ⟨h.os, h.tape, h.output, by simpa [World.setCell] using h.size, fun k hk hs => ?_⟩
  rw [Below.heap_setCell _ _ _ _ (fun e => hs (by rw [e]; exact hp))]
  exact h.block k hk hs
/-- An element, and its place at first. -/
abbrev TLab := Label × Nat
def tLab (x : TLab) : List Value := [.string x.1.key, .string x.1.val]

structure SRowLab (w0 w : World) (gb : Nat) (rest : List Value) (d : List TLab) : Prop where
  row : w.heap[gb]? = some (.cells (d.flatMap tLab ++ rest).toArray 54 (0, 0))
  fr : Fr (fun k => k = gb) w0 w

namespace SRowLab
variable {w0 w w' : World} {gb : Nat} {rest : List Value} {d : List TLab}

theorem lt (h : SRowLab w0 w gb rest d) : gb < w.heap.size := (Array.getElem?_eq_some_iff.1 h.row).1

theorem get (h : SRowLab w0 w gb rest d) {i : Nat} (hi : i < d.length) {j : Nat} (hj : j < 2) : w.cell? ⟨gb, i * 2 + j, none⟩ = (tLab d[i])[j]? := by
  have hl : i * 2 + j < (d.flatMap tLab).length := by rw [flatMap_len (f := tLab) (sz := 2) (fun _ => rfl)]; omega
  rw [cell_of_row _ gb _ _ _ (0, 0) h.row, List.getElem?_toArray, List.getElem?_append_left hl, flatMap_get (f := tLab) (sz := 2) (fun _ => rfl) d i j hi hj]

theorem next (h : SRowLab w0 w gb rest d) (hb : Below w.heap.size w w') : SRowLab w0 w' gb rest d := ⟨(hb.block gb h.lt).trans h.row, h.fr.then hb⟩

theorem drewN (h : SRowLab w0 w gb rest d) (n : Nat) : SRowLab w0 (w.drewN n) gb rest d := ⟨h.row, h.fr.drewN n⟩
theorem drew (h : SRowLab w0 w gb rest d) : SRowLab w0 w.drew gb rest d := ⟨h.row, h.fr.drew⟩
theorem free (h : SRowLab w0 w gb rest d) (j : Nat) : w.frozen? ⟨gb, j, none⟩ = false := row_free h.row j
end SRowLab

theorem tsetLab (y : TLab) (rest : List Value) : ∀ (d : List TLab) (i : Nat), i < d.length → ((d.flatMap tLab ++ rest).set (i * 2) (.string y.1.key)).set (i * 2 + 1) (.string y.1.val) = (d.set i y).flatMap tLab ++ rest
  | x :: d, 0, _ => rfl
  | x :: d, i + 1, h => by
    have e := tsetLab y rest d i (by simpa using h)
    rw [List.flatMap_cons, List.append_assoc, List.set_cons_succ, List.flatMap_cons, List.append_assoc, ← e]
    have hl : (tLab x).length = 2 := rfl
    rw [List.set_append_right _ _ (by rw [hl]; omega)]; rw [List.set_append_right _ _ (by rw [hl]; omega)]
    rw [hl]
    rw [show (i + 1) * 2 - 2 = i * 2 by omega]; rw [show (i + 1) * 2 + 1 - 2 = i * 2 + 1 by omega]

theorem SRowLab.put {w0 w : World} {gb : Nat} {rest : List Value} {d : List TLab} (h : SRowLab w0 w gb rest d) {i : Nat} (hi : i < d.length) (y : TLab) :
    SRowLab w0 ((w.setCell ⟨gb, i * 2, none⟩ (.string y.1.key)).setCell ⟨gb, i * 2 + 1, none⟩ (.string y.1.val)) gb rest (d.set i y) := by
  refine ⟨?_, ((h.fr.setCell _ _ rfl).setCell _ _ rfl)⟩
  have e := tsetLab y rest d i hi
  rw [row_setCell (row_setCell h.row _) _, ← e]
  simp


/-- The two cells of an element. -/
theorem SRowLab.two {w0 w : World} {gb : Nat} {rest : List Value} {d : List TLab} (h : SRowLab w0 w gb rest d) {i : Nat} (hi : i < d.length) :
    w.cell? ⟨gb, i * 2, none⟩ = some (.string d[i].1.key) ∧ w.cell? ⟨gb, i * 2 + 1, none⟩ = some (.string d[i].1.val) := ⟨h.get hi (j := 0) (by decide), h.get hi (j := 1) (by decide)⟩
end Go.Proofs.Ytdgjghflaaaflaa
