/- Blocks that are known whole, and contracts, for the reckoner. No condition. -/
import Derived.Test.YtmoeddpbmclckaaChain4
import Derived.Test.YtmoeddpbmclckaaBase
namespace Go.Proofs.Ytmoeddpbmclckaa
open Go.ChangeShapes Go.WideShapes Go.ChangeAt Go.RowKit Go.Deep

def RowAt (w : World) (b : Nat) (vs : List Value) : Prop := ∀ (i : Nat) (v : Value), vs[i]? = some v → w.cell? ⟨b, i, none⟩ = some v
/-- The like from a place within the block. -/
def RowFrom (w : World) (b off : Nat) (vs : List Value) : Prop := ∀ (i : Nat) (v : Value), vs[i]? = some v → w.cell? ⟨b, off + i, none⟩ = some v
theorem RowAt.from_ {w : World} {b : Nat} {vs : List Value} (h : RowAt w b vs) : RowFrom w b 0 vs := fun i v hv => by rw [Nat.zero_add]; exact h i v hv
theorem RowFrom.below {n : Nat} {w w' : World} {b off : Nat} {vs : List Value} (hb : Below n w w') (hn : w.heap.size = n) (h : RowFrom w b off vs) : RowFrom w' b off vs := fun i v hv => by
  subst hn
  exact Below.cell_some hb (h i v hv)
theorem RowAt.of_heap {w : World} {b : Nat} {vs : List Value} {t : TypeId} {fr : Nat × Nat} (h : w.heap[b]? = some (.cells vs.toArray t fr)) : RowAt w b vs := fun i v hv => by
  rw [cell_of_row w b i _ t fr h]
  simpa using hv
theorem RowAt.below {n : Nat} {w w' : World} {b : Nat} {vs : List Value} (hb : Below n w w') (hn : w.heap.size = n) (h : RowAt w b vs) : RowAt w' b vs := fun i v hv => by
  subst hn
  exact Below.cell_some hb (h i v hv)
theorem RowAt.cell {w : World} {b : Nat} {vs : List Value} (h : RowAt w b vs) (i : Nat) {v : Value} (hv : vs[i]? = some v) : w.cell? ⟨b, i, none⟩ = some v := h i v hv

/-- The class of the worlds in which all of w stays. -/
def Kept (w : World) (w' : World) : Prop := Below w.heap.size w w'
theorem Kept.refl (w : World) : Kept w w := Below.refl _ _
theorem Kept.drawn (w : World) : Kept w { w with drawn := w.drawn + 1 } := ⟨rfl, rfl, rfl, Nat.le_refl _, fun _ _ => rfl⟩

def BlkOk (β : Nat → Nat × Nat) (w : World) (l : List (Nat × List Value)) : Prop := ∀ x ∈ l, ∀ (i : Nat) (v : Value), x.2[i]? = some v → ∀ w', Kept w w' → w'.cell? ⟨(β x.1).1, (β x.1).2 + i, none⟩ = some v
theorem blk_nil {w : World} {β : Nat → Nat × Nat} : BlkOk β w [] := fun x hx => by cases hx
theorem blk_cons {w : World} {β : Nat → Nat × Nat} {k : Nat} {vs : List Value} {l : List (Nat × List Value)} (h : RowFrom w (β k).1 (β k).2 vs) (hl : BlkOk β w l) : BlkOk β w ((k, vs) :: l) := by
  intro x hx i v hv w' hw'
  rcases List.mem_cons.1 hx with rfl | hx
  · exact Below.cell_some hw' (h i v hv)
  · exact hl x hx i v hv w' hw'
theorem tab_ok {P : Program} {s : Sta} {β : Nat → Nat × Nat} {w : World} {l : List (Nat × List Value)} {cs : List (Nat × Value)} {ix : List (Nat × SV)} (hs : s.Ok P) (h : BlkOk β w l) : Tab.Ok ⟨s, l, cs, ix⟩ P β (Kept w) := ⟨hs, h⟩

theorem ob_nil {P : Program} {β : Nat → Nat × Nat} {C : World → Prop} : ∀ ob ∈ ([] : List Ob), ob.holds P β C := fun x hx => by cases hx
theorem ob_cons {P : Program} {β : Nat → Nat × Nat} {C : World → Prop} {o : Ob} {l : List Ob} (h : o.holds P β C) (hl : ∀ ob ∈ l, ob.holds P β C) : ∀ ob ∈ o :: l, ob.holds P β C := by
  intro x hx
  rcases List.mem_cons.1 hx with rfl | hx
  · exact h
  · exact hl x hx
theorem ob_kept {P : Program} {β : Nat → Nat × Nat} {w : World} {f : Nat} {args : List SV} {v : Value} {fn : Func} {c : Code} (hf : P.funcs[f]? = some fn) (hn : (fn.name == "runtime.NumGoroutine") = false) (hb : fn.body = some c)
    (h : ∀ w', Kept w w' → Calls P f (args.map (SV.den β)).toArray w' fun e w'' => e = .returned v ∧ Below w'.heap.size w' w'') : Ob.holds P β (Kept w) (.call f args v) :=
  ⟨⟨fn, hf, hn, by rw [hb]; rfl⟩, fun w' hw' => (h w' hw').mono fun _ w'' ⟨he, hb⟩ => ⟨he, hw'.trans (hb.mono hw'.size)⟩⟩

theorem act_to {Q : Exit → Act → World → Prop} {e : Exit} {a L : Act} {w : World} (h : a = L) (hq : Q e L w) : Q e a w := h ▸ hq
end Go.Proofs.Ytmoeddpbmclckaa
