/- A struct variable of the call's own that is filled field by field, and rows of its own. No condition. -/
import Derived.Test.YtmoeddpbmclckaaChain5M
import Derived.Test.YtmoeddpbmclckaaFrame
namespace Go.Proofs.Ytmoeddpbmclckaa
open Go.ChangeShapes Go.WideShapes Go.ChangeAt Go.RowKit Go.Deep

/-- A row that the call made: its type, size, word, length, cells. -/
structure OwnR where
  e : TypeId
  sz : Nat
  v : Value
  n : Nat
  xs : List Value

/-- Block bo is a variable with these cells; these rows are the call's own; all that was there at w0 stays. -/
structure VarSt (w0 : World) (t : TypeId) (bo : Nat) (cells : List Value) (l : List OwnR) (w : World) : Prop where
  obj : w.heap[bo]? = some (.cells cells.toArray t (0, 0))
  new : w0.heap.size ≤ bo
  keep : Below w0.heap.size w0 w
  own : ∀ r ∈ l, w.ownsRow w0.heap.size r.e r.sz r.v r.n r.xs ∧ r.v.ownBlock ≠ some bo

variable {w0 w w' : World} {t : TypeId} {bo : Nat} {cells : List Value} {l : List OwnR}

theorem VarSt.below (h : VarSt w0 t bo cells l w) (hb : Below w.heap.size w w') : VarSt w0 t bo cells l w' where
  obj := by
    rw [hb.block bo (by
      have := (Array.getElem?_eq_some_iff.1 h.obj).1
      exact this)]
    exact h.obj
  new := h.new
  keep := h.keep.trans (hb.mono h.keep.size)
  own := fun r hr => ⟨owns_fr (Fr.of_below hb (fun _ => False)) (h.own r hr).1 (fun _ _ hf => hf), (h.own r hr).2⟩

theorem VarSt.call (h : VarSt w0 t bo cells l w) (hb : Below w.heap.size w w') {e : TypeId} {sz n : Nat} {v : Value} {xs : List Value} (ho : w'.ownsRow w.heap.size e sz v n xs) : VarSt w0 t bo cells (⟨e, sz, v, n, xs⟩ :: l) w' where
  obj := (h.below hb).obj
  new := h.new
  keep := (h.below hb).keep
  own := fun r hr => by
    rcases List.mem_cons.1 hr with rfl | hr
    · refine ⟨⟨ho.1, ?_⟩, ?_⟩
      · rcases ho.2 with hn | ⟨g, cap, cur, e1, hg, r⟩
        · exact .inl hn
        · exact .inr ⟨g, cap, cur, e1, Nat.le_trans h.keep.size hg, r⟩
      · have hlt := (Array.getElem?_eq_some_iff.1 h.obj).1
        rcases ho.2 with ⟨e1, _⟩ | ⟨g, cap, cur, e1, hg, _⟩
        · dsimp only; rw [e1]; intro hh; cases hh
        · dsimp only; rw [e1]; intro hh
          have : g = bo := Option.some.inj hh
          omega
    · exact (h.below hb).own r hr

theorem VarSt.set (h : VarSt w0 t bo cells l w) (i : Nat) (v : Value) : VarSt w0 t bo (cells.set i v) l (w.setCell ⟨bo, i, none⟩ v) where
  obj := by
    have := heap_setCell_same w bo i cells.toArray t v h.obj
    rw [this]
    congr 1
    congr 1
    simp
  new := h.new
  keep := h.keep.setCell (p := ⟨bo, i, none⟩) h.new v
  own := fun r hr => by
    refine ⟨?_, (h.own r hr).2⟩
    obtain ⟨⟨o1, o2⟩, hne⟩ := h.own r hr
    refine ⟨o1, ?_⟩
    rcases o2 with hn | ⟨g, cap, cur, e1, hg, hh, rr⟩
    · exact .inl hn
    · refine .inr ⟨g, cap, cur, e1, hg, ?_, rr⟩
      rw [heap_setCell_other w ⟨bo, i, none⟩ g v (fun e => hne (by rw [e1]; exact congrArg some e))]
      exact hh

theorem VarSt.far (h : VarSt w0 t bo cells l w) {b : Nat} (hb : w0.heap.size ≤ b) (hne : bo ≠ b) (hl : l = []) (i : Nat) (v : Value) : VarSt w0 t bo cells l (w.setCell ⟨b, i, none⟩ v) where
  obj := by
    rw [heap_setCell_other w ⟨b, i, none⟩ bo v hne]
    exact h.obj
  new := h.new
  keep := h.keep.setCell (p := ⟨b, i, none⟩) hb v
  own := fun r hr => by subst hl; cases hr
theorem VarSt.nil (h : VarSt w0 t bo cells l w) : VarSt w0 t bo cells [] w := ⟨h.obj, h.new, h.keep, fun r hr => by cases hr⟩
theorem VarSt.of_alloc {t : TypeId} {cells : List Value} (hb : Below w0.heap.size w0 w) : VarSt w0 t w.heap.size cells [] (w.alloc (.cells cells.toArray t)) where
  obj := heap_alloc_new w _
  new := hb.size
  keep := hb.alloc hb.size _
  own := fun r hr => by cases hr
theorem owns_slice {w : World} {B : Nat} {e : TypeId} {sz n : Nat} {v : Value} {xs : List Value} (h : w.ownsRow B e sz v n xs) : ∃ ao cap, v = .slice ao n cap := by
  rcases h.2 with ⟨e, hn⟩ | ⟨g, cap, cur, e, _⟩
  · exact ⟨none, 0, by rw [e, hn]⟩
  · exact ⟨_, cap, e⟩
theorem VarSt.row (h : VarSt w0 t bo cells l w) : RowAt w bo cells := RowAt.of_heap h.obj
theorem VarSt.cell (h : VarSt w0 t bo cells l w) (i : Nat) {v : Value} (hv : cells[i]? = some v) : w.cell? ⟨bo, i, none⟩ = some v := h.row i v hv
theorem VarSt.free (h : VarSt w0 t bo cells l w) (i : Nat) : w.frozen? ⟨bo, i, none⟩ = false := frozen_of_row w bo i _ t h.obj
theorem VarSt.lt (h : VarSt w0 t bo cells l w) : bo < w.heap.size := (Array.getElem?_eq_some_iff.1 h.obj).1
theorem VarSt.cons_of (h : VarSt w0 t bo cells l w) {r : OwnR} (hr : r ∈ l) : ∃ ao cap, r.v = .slice ao r.n cap := by
  rcases (h.own r hr).1.2 with ⟨e, hn⟩ | ⟨g, cap, cur, e, _⟩
  · exact ⟨none, 0, by rw [e, hn]⟩
  · exact ⟨_, cap, e⟩
end Go.Proofs.Ytmoeddpbmclckaa
