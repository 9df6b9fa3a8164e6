/- Blocks that are known whole, and contracts, for the reckoner. No condition. || A struct variable of the call's own that is filled field by field, and rows of its own. No condition. -/
import Derived.Test.YtpbppgfogepjeaaChain4
import Derived.Test.YtpbppgfogepjeaaBase
import Derived.Test.YtpbppgfogepjeaaCutListM
namespace Go.Proofs.Ytpbppgfogepjeaa
open Go.ChangeShapes Go.WideShapes Go.ChangeAt Go.RowKit Go.Deep

def RowAt (w : World) (b : Nat) (vs : List Value) : Prop := ∀ (i : Nat) (v : Value), vs[i]? = some v → w.cell? ⟨b, i, none⟩ = some v
def RowFrom (w : World) (b off : Nat) (vs : List Value) : Prop := ∀ (i : Nat) (v : Value), vs[i]? = some v → w.cell? ⟨b, off + i, none⟩ = some v
theorem RowAt.from_ {w : World} {b : Nat} {vs : List Value} (h : RowAt w b vs) : RowFrom w b 0 vs := fun i v hv => by rw [Nat.zero_add]; exact h i v hv
theorem RowFrom.below {n : Nat} {w w' : World} {b off : Nat} {vs : List Value} (hb : Below n w w') (hn : w.heap.size = n) (h : RowFrom w b off vs) : RowFrom w' b off vs := fun i v hv => by
  subst hn
  exact Below.cell_some hb (h i v hv)
theorem RowAt.of_heap {w : World} {b : Nat} {vs : List Value} {t : TypeId} {fr : Nat × Nat} (h : w.heap[b]? = some (.cells vs.toArray t fr)) : RowAt w b vs := fun i v hv => by
  rw [cell_of_row w b i _ t fr h]
  simpa using hv
theorem RowAt.below {n : Nat} {w w' : World} {b : Nat} {vs : List Value} (hb : Below n w w') (hn : w.heap.size = n) (h : RowAt w b vs) : RowAt w' b vs := fun i v hv => by
  subst hn
  exact Below.cell_some hb (h i v hv)
theorem RowAt.cell {w : World} {b : Nat} {vs : List Value} (h : RowAt w b vs) (i : Nat) {v : Value} (hv : vs[i]? = some v) : w.cell? ⟨b, i, none⟩ = some v := h i v hv

def Kept (w : World) (w' : World) : Prop := Below w.heap.size w w'
theorem Kept.refl (w : World) : Kept w w := Below.refl _ _
theorem Kept.drawn (w : World) : Kept w { w with drawn := w.drawn + 1 } := ⟨rfl, rfl, rfl, Nat.le_refl _, fun _ _ => rfl⟩

def BlkOk (β : Nat → Nat × Nat) (w : World) (l : List (Nat × List Value)) : Prop := ∀ x ∈ l, ∀ (i : Nat) (v : Value), x.2[i]? = some v → ∀ w', Kept w w' → w'.cell? ⟨(β x.1).1, (β x.1).2 + i, none⟩ = some v
theorem blk_nil {w : World} {β : Nat → Nat × Nat} : BlkOk β w [] := fun x hx => by cases hx
theorem blk_cons {w : World} {β : Nat → Nat × Nat} {k : Nat} {vs : List Value} {l : List (Nat × List Value)} (h : RowFrom w (β k).1 (β k).2 vs) (hl : BlkOk β w l) : BlkOk β w ((k, vs) :: l) := by
  intro x hx i v hv w' hw'
  rcases List.mem_cons.1 hx with rfl | hx
  · exact Below.cell_some hw' (h i v hv)
  · exact hl x hx i v hv w' hw'
theorem tab_ok {P : Program} {s : Sta} {β : Nat → Nat × Nat} {w : World} {l : List (Nat × List Value)} {cs : List (Nat × Value)} {ix : List (Nat × SV)} (hs : s.Ok P) (h : BlkOk β w l) : Tab.Ok ⟨s, l, cs, ix⟩ P β (Kept w) := ⟨hs, h⟩

theorem ob_nil {P : Program} {β : Nat → Nat × Nat} {C : World → Prop} : ∀ ob ∈ ([] : List Ob), ob.holds P β C := fun x hx => by cases hx
theorem ob_cons {P : Program} {β : Nat → Nat × Nat} {C : World → Prop} {o : Ob} {l : List Ob} (h : o.holds P β C) (hl : ∀ ob ∈ l, ob.holds P β C) : ∀ ob ∈ o :: l, ob.holds P β C := by
  intro x hx
  rcases List.mem_cons.1 hx with rfl | hx
  · exact h
  · exact hl x hx
theorem ob_kept {P : Program} {β : Nat → Nat × Nat} {w : World} {f : Nat} {args : List SV} {v : Value} {fn : Func} {c : Code} (hf : P.funcs[f]? = some fn) (hn : (fn.name == "runtime.NumGoroutine") = false) (hb : fn.body = some c)
    (h : ∀ w', Kept w w' → Calls P f (args.map (SV.den β)).toArray w' fun e w'' => e = .returned v ∧ Below w'.heap.size w' w'') : Ob.holds P β (Kept w) (.call f args v) :=
  ⟨⟨fn, hf, hn, by rw [hb]; rfl⟩, fun w' hw' => (h w' hw').mono fun _ w'' ⟨he, hb⟩ => ⟨he, hw'.trans (hb.mono hw'.size)⟩⟩

theorem act_to {Q : Exit → Act → World → Prop} {e : Exit} {a L : Act} {w : World} (h : a = L) (hq : Q e L w) : Q e a w := h ▸ hq
end Go.Proofs.Ytpbppgfogepjeaa
namespace Go.Proofs.Ytpbppgfogepjeaa
open Go.ChangeShapes Go.WideShapes Go.ChangeAt Go.RowKit Go.Deep

structure OwnR where
  e : TypeId
  sz : Nat
  v : Value
  n : Nat
  xs : List Value

structure VarSt (w0 : World) (t : TypeId) (bo : Nat) (cells : List Value) (l : List OwnR) (w : World) : Prop where
  obj : w.heap[bo]? = some (.cells cells.toArray t (0, 0))
  new : w0.heap.size ≤ bo
  keep : Below w0.heap.size w0 w
  own : ∀ r ∈ l, w.ownsRow w0.heap.size r.e r.sz r.v r.n r.xs ∧ r.v.ownBlock ≠ some bo

variable {w0 w w' : World} {t : TypeId} {bo : Nat} {cells : List Value} {l : List OwnR}

theorem VarSt.below (h : VarSt w0 t bo cells l w) (hb : Below w.heap.size w w') : VarSt w0 t bo cells l w' where
  obj := by
    rw [hb.block bo (by
      have := (Array.getElem?_eq_some_iff.1 h.obj).1
      exact this)]
    exact h.obj
  new := h.new
  keep := h.keep.trans (hb.mono h.keep.size)
  own := fun r hr => ⟨owns_fr (Fr.of_below hb (fun _ => False)) (h.own r hr).1 (fun _ _ hf => hf), (h.own r hr).2⟩

theorem VarSt.call (h : VarSt w0 t bo cells l w) (hb : Below w.heap.size w w') {e : TypeId} {sz n : Nat} {v : Value} {xs : List Value} (ho : w'.ownsRow w.heap.size e sz v n xs) : VarSt w0 t bo cells (⟨e, sz, v, n, xs⟩ :: l) w' where
  obj := (h.below hb).obj
  new := h.new
  keep := (h.below hb).keep
  own := fun r hr => by
    rcases List.mem_cons.1 hr with rfl | hr
    · refine ⟨⟨ho.1, ?_⟩, ?_⟩
      · rcases ho.2 with hn | ⟨g, cap, cur, e1, hg, r⟩
        · exact .inl hn
        · exact .inr ⟨g, cap, cur, e1, Nat.le_trans h.keep.size hg, r⟩
      · have hlt := (Array.getElem?_eq_some_iff.1 h.obj).1
        rcases ho.2 with ⟨e1, _⟩ | ⟨g, cap, cur, e1, hg, _⟩
        · dsimp only; rw [e1]; intro hh; cases hh
        · dsimp only; rw [e1]; intro hh
          have : g = bo := Option.some.inj hh
          omega
    · exact (h.below hb).own r hr

theorem VarSt.set (h : VarSt w0 t bo cells l w) (i : Nat) (v : Value) : VarSt w0 t bo (cells.set i v) l (w.setCell ⟨bo, i, none⟩ v) where
  obj := by
    have := heap_setCell_same w bo i cells.toArray t v h.obj
    rw [this]
    congr 1
    congr 1
    simp
  new := h.new
  keep := h.keep.setCell (p := ⟨bo, i, none⟩) h.new v
  own := fun r hr => by
    refine ⟨?_, (h.own r hr).2⟩
    obtain ⟨⟨o1, o2⟩, hne⟩ := h.own r hr
    refine ⟨o1, ?_⟩
    rcases o2 with hn | ⟨g, cap, cur, e1, hg, hh, rr⟩
    · exact .inl hn
    · refine .inr ⟨g, cap, cur, e1, hg, ?_, rr⟩
      rw [heap_setCell_other w ⟨bo, i, none⟩ g v (fun e => hne (by rw [e1]; exact congrArg some e))]
      exact hh

theorem VarSt.far (h : VarSt w0 t bo cells l w) {b : Nat} (hb : w0.heap.size ≤ b) (hne : bo ≠ b) (hl : l = []) (i : Nat) (v : Value) : VarSt w0 t bo cells l (w.setCell ⟨b, i, none⟩ v) where
  obj := by
    rw [heap_setCell_other w ⟨b, i, none⟩ bo v hne]
    exact h.obj
  new := h.new
  keep := h.keep.setCell (p := ⟨b, i, none⟩) hb v
  own := fun r hr => by subst hl; cases hr
theorem VarSt.nil (h : VarSt w0 t bo cells l w) : VarSt w0 t bo cells [] w := ⟨h.obj, h.new, h.keep, fun r hr => by cases hr⟩
theorem VarSt.of_alloc {t : TypeId} {cells : List Value} (hb : Below w0.heap.size w0 w) : VarSt w0 t w.heap.size cells [] (w.alloc (.cells cells.toArray t)) where
  obj := heap_alloc_new w _
  new := hb.size
  keep := hb.alloc hb.size _
  own := fun r hr => by cases hr
theorem owns_slice {w : World} {B : Nat} {e : TypeId} {sz n : Nat} {v : Value} {xs : List Value} (h : w.ownsRow B e sz v n xs) : ∃ ao cap, v = .slice ao n cap := by
  rcases h.2 with ⟨e, hn⟩ | ⟨g, cap, cur, e, _⟩
  · exact ⟨none, 0, by rw [e, hn]⟩
  · exact ⟨_, cap, e⟩
theorem VarSt.row (h : VarSt w0 t bo cells l w) : RowAt w bo cells := RowAt.of_heap h.obj
theorem VarSt.cell (h : VarSt w0 t bo cells l w) (i : Nat) {v : Value} (hv : cells[i]? = some v) : w.cell? ⟨bo, i, none⟩ = some v := h.row i v hv
theorem VarSt.free (h : VarSt w0 t bo cells l w) (i : Nat) : w.frozen? ⟨bo, i, none⟩ = false := frozen_of_row w bo i _ t h.obj
theorem VarSt.lt (h : VarSt w0 t bo cells l w) : bo < w.heap.size := (Array.getElem?_eq_some_iff.1 h.obj).1
end Go.Proofs.Ytpbppgfogepjeaa
