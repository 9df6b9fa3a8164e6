/- Classes of worlds: what was there stays, no draw is undone. No condition. -/
import Derived.Test.YtkppmdbapcfmnaaHeadLit
import Derived.Sort.Walk0
import Derived.Sort.Grow
namespace Go.Proofs.Ytkppmdbapcfmnaa
open Go.ChangeShapes Go.WideShapes Go.ChangeAt Go.RowKit Go.Deep

/-- What was there stays, and no draw is undone. -/
def Dn (w w' : World) : Prop := Below w.heap.size w w' ∧ w.drawn ≤ w'.drawn
theorem Dn.refl (w : World) : Dn w w := ⟨Below.refl _ _, Nat.le_refl _⟩
theorem Dn.trans {a b c : World} (h : Dn a b) (k : Dn b c) : Dn a c := ⟨h.1.trans (k.1.mono h.1.size), Nat.le_trans h.2 k.2⟩
theorem Dn.alloc {a b : World} (h : Dn a b) (o : Obj) : Dn a (b.alloc o) := ⟨h.1.alloc h.1.size o, h.2⟩
theorem Dn.drew (w : World) : Dn w { w with drawn := w.drawn + 1 } := ⟨⟨rfl, rfl, rfl, Nat.le_refl _, fun _ _ => rfl⟩, Nat.le_succ _⟩

/-- The worlds behind w in which all that was there stays. -/
structure DW (w : World) where
  w' : World
  h : Dn w w'
theorem DW.cell {w : World} {p : Addr} {v : Value} (h : w.cell? p = some v) (b : DW w) : b.w'.cell? p = some v := Below.cell_some b.h.1 h
theorem DW.call {P : Program} {f : FuncId} {args : Array Value} {w : World} {v : Value} (b : DW w) (h : Calls P f args b.w' fun e w' => e = .returned v ∧ Dn b.w' w') : Calls P f args b.w' fun e w' => e = .returned v ∧ ∃ q : DW w, w' = q.w' :=
  h.mono fun _ w' ⟨he, hb⟩ => ⟨he, ⟨w', b.h.trans hb⟩, rfl⟩

theorem Dn.grow {w w' : World} (h : Dn w w') : ∃ q os, w' = Sort.grow (w.drewN q) os := by
  obtain ⟨⟨h1, h2, h3, h4, h5⟩, h6⟩ := h
  refine ⟨w'.drawn - w.drawn, w'.heap.extract w.heap.size w'.heap.size, ?_⟩
  have hh : w'.heap = w.heap ++ w'.heap.extract w.heap.size w'.heap.size := by
    apply Array.ext_getElem?
    intro i
    rw [Array.getElem?_append]
    split
    · rename_i hi; exact h5 i hi
    · rename_i hi
      rw [Array.getElem?_extract]
      by_cases hj : i < w'.heap.size
      · rw [if_pos (by omega)]; congr 1; omega
      · rw [if_neg (by omega)]; exact Array.getElem?_eq_none (by omega)
  unfold Sort.grow World.drewN
  cases w
  cases w'
  simp only [World.mk.injEq] at *
  subst h1 h2 h3
  exact ⟨hh, rfl, by omega, rfl, rfl⟩

end Go.Proofs.Ytkppmdbapcfmnaa
