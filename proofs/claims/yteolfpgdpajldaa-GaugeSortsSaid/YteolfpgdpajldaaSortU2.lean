/- A row of samples of the call's own that is sorted in place (uint64). No condition. -/
import Derived.Test.YteolfpgdpajldaaRows
import Derived.Test.YteolfpgdpajldaaSortPlain2
import Derived.Test.YteolfpgdpajldaaFrame
import Derived.Test.YteolfpgdpajldaaCells
import Derived.Test.YteolfpgdpajldaaList
import Derived.Test.YteolfpgdpajldaaHeadLit
import Derived.BigRegion
import Derived.Shelf.RegionOpenPlain
import Derived.Deep.QuietTactic
namespace Go.Proofs.Yteolfpgdpajldaa
open Go.ChangeShapes Go.WideShapes Go.ChangeAt Go.RowKit Go.Deep

theorem Fr.setCell {S : Nat → Prop} {a b : World} (h : Fr S a b) (p : Addr) (v : Value) (hp : S p.block) : Fr S a (b.setCell p v) := by
  refine ⟨h.os, h.tape, h.output, by simpa [World.setCell] using h.size, fun k hk hs => ?_⟩
  rw [Below.heap_setCell _ _ _ _ (fun e => hs (by rw [e]; exact hp))]
  exact h.block k hk hs

/-- A sample that has a quantity: not below 0 and finite, or -0. -/
def GoodW (x : Nat) : Prop := x < 9218868437227405312 ∨ x = 9223372036854775808
abbrev QWord := {x : Nat // GoodW x}
/-- An element, and its place at first. -/
abbrev TU := QWord × Nat
def tU (x : TU) : List Value := [.int .u64 (x.1.1 : Nat)]

structure SRowU (w0 w : World) (gb : Nat) (rest : List Value) (d : List TU) : Prop where
  row : w.heap[gb]? = some (.cells (d.flatMap tU ++ rest).toArray 26 (0, 0))
  fr : Fr (fun k => k = gb) w0 w

namespace SRowU
variable {w0 w w' : World} {gb : Nat} {rest : List Value} {d : List TU}

theorem lt (h : SRowU w0 w gb rest d) : gb < w.heap.size := (Array.getElem?_eq_some_iff.1 h.row).1
theorem get (h : SRowU w0 w gb rest d) {i : Nat} (hi : i < d.length) : w.cell? ⟨gb, i, none⟩ = some (.int .u64 (d[i].1.1 : Nat)) := by
  have hl : i < (d.flatMap tU).length := by rw [flatMap_len (f := tU) (sz := 1) (fun _ => rfl)]; omega
  rw [cell_of_row _ gb _ _ _ (0, 0) h.row, List.getElem?_toArray, List.getElem?_append_left hl]
  have := flatMap_get (f := tU) (sz := 1) (fun _ => rfl) d i 0 hi (by decide)
  rw [Nat.mul_one, Nat.add_zero] at this
  rw [this]
  rfl
theorem next (h : SRowU w0 w gb rest d) (hb : Below w.heap.size w w') : SRowU w0 w' gb rest d := ⟨(hb.block gb h.lt).trans h.row, h.fr.then hb⟩
theorem drewN (h : SRowU w0 w gb rest d) (n : Nat) : SRowU w0 (w.drewN n) gb rest d := ⟨h.row, h.fr.drewN n⟩
theorem drew (h : SRowU w0 w gb rest d) : SRowU w0 w.drew gb rest d := ⟨h.row, h.fr.drew⟩
theorem free (h : SRowU w0 w gb rest d) (j : Nat) : w.frozen? ⟨gb, j, none⟩ = false := row_free h.row j
end SRowU

theorem tsetU (y : TU) (rest : List Value) : ∀ (d : List TU) (i : Nat), i < d.length → (d.flatMap tU ++ rest).set i (.int .u64 (y.1.1 : Nat)) = (d.set i y).flatMap tU ++ rest
  | x :: d, 0, _ => rfl
  | x :: d, i + 1, h => by
    have e := tsetU y rest d i (by simpa using h)
    rw [List.flatMap_cons, List.append_assoc, List.set_cons_succ, List.flatMap_cons, List.append_assoc, ← e]
    rfl

theorem SRowU.put {w0 w : World} {gb : Nat} {rest : List Value} {d : List TU} (h : SRowU w0 w gb rest d) {i : Nat} (hi : i < d.length) (y : TU) :
    SRowU w0 (w.setCell ⟨gb, i, none⟩ (.int .u64 (y.1.1 : Nat))) gb rest (d.set i y) := by
  refine ⟨?_, h.fr.setCell _ _ rfl⟩
  have e := tsetU y rest d i hi
  rw [row_setCell h.row _, ← e]
  simp

/-- The one cell of an element. -/
theorem SRowU.two {w0 w : World} {gb : Nat} {rest : List Value} {d : List TU} (h : SRowU w0 w gb rest d) {i : Nat} (hi : i < d.length) : w.cell? ⟨gb, i, none⟩ = some (.int .u64 (d[i].1.1 : Nat)) := h.get hi

/-- What is ahead: -0, then as the bits rise. -/
def keyU (x : TU) : Int := if x.1.1 = 9223372036854775808 then -1 else (x.1.1 : Nat)
def cfU (x y : TU) : Int := if keyU x < keyU y then -1 else if keyU y < keyU x then 1 else 0
def TOU (x y : TU) : Prop := keyU x < keyU y ∨ (keyU x = keyU y ∧ x.2 < y.2)
/-- The comparison's contract (a hypothesis of the texts that follow). -/
def CmpU : Prop := ∀ (x y : TU) (w : World), Calls Try.prog 12 #[.int .u64 (x.1.1 : Nat), .int .u64 (y.1.1 : Nat)] w fun e w' => e = .returned (.int .i64 (cfU x y)) ∧ Below w.heap.size w w'

theorem ordU : StOrd cfU (fun x : TU => x.2) TOU where
  trans := fun x y z h1 h2 => by unfold TOU at *; omega
  tri := fun x y h => by unfold TOU; omega
  agree := fun x y h => by
    unfold cfU TOU
    split
    · exact ⟨fun _ => .inl (by assumption), fun _ => by omega⟩
    · split
      · exact ⟨fun hh => by omega, fun hh => by omega⟩
      · exact ⟨fun hh => by omega, fun hh => by omega⟩
end Go.Proofs.Yteolfpgdpajldaa
