/- What the types of objects are. No condition. || Blocks that are known whole, and contracts, for the reckoner. No condition. -/
import Derived.Test.YtmoeddpbmclckaaChain4
import Derived.Test.YtmoeddpbmclckaaBase
import Derived.Test.YtmoeddpbmclckaaRows
import Derived.Laws.StructEq
namespace Go.Proofs.Ytmoeddpbmclckaa
open Go.ChangeShapes Go.WideShapes Go.ChangeAt Go.RowKit Go.Deep

def objSta : Sta where
  fld := [(44, 0, 0), (44, 1, 1), (44, 2, 2), (44, 3, 3), (44, 4, 10), (44, 5, 20), (44, 6, 27), (44, 7, 35),
    (29, 0, 0), (29, 1, 1), (29, 2, 3), (29, 3, 4), (29, 4, 5), (29, 5, 6),
    (31, 0, 0), (31, 1, 1), (31, 2, 2), (31, 3, 3), (31, 4, 4), (31, 5, 6), (31, 6, 7), (31, 7, 8), (31, 8, 9),
    (33, 0, 0), (33, 1, 1), (33, 2, 3), (33, 3, 4), (33, 4, 5), (33, 5, 6),
    (35, 0, 0), (35, 1, 1), (35, 2, 2), (35, 3, 3), (35, 4, 5), (35, 5, 6), (35, 6, 7),
    (42, 0, 0), (42, 1, 1), (42, 2, 2), (42, 3, 3), (42, 4, 4), (42, 5, 5), (42, 6, 8), (42, 7, 11),
    (25, 0, 0), (25, 1, 1), (39, 0, 0), (39, 1, 1), (39, 2, 2),
    (59, 0, 0), (59, 1, 1), (59, 2, 2), (64, 0, 0), (64, 1, 1), (64, 2, 2), (54, 0, 0), (54, 1, 1), (57, 0, 0), (57, 1, 1), (57, 2, 2), (62, 0, 0), (62, 1, 1), (62, 2, 2)]
  one := [3, 2, 4, 9, 26, 27, 36, 40, 37, 23, 22]
  many := [(25, 2), (39, 3), (44, 47), (29, 7), (31, 10), (33, 7), (35, 8), (42, 12), (59, 3), (64, 3)]
  two := [25]
  bT := [4]
  cv := [(3, 22), (2, 22)]
  stT := [9]
  slT := [26, 27, 36, 40, 37]

theorem objSta_ok : objSta.Ok Try.prog where
  fld := fun a o w => by kernel_rfl
  one := fun w => by kernel_rfl
  many := fun w => by kernel_rfl
  size := fun w => by kernel_rfl
  two := fun t ht a b c d w x y => by
    have : t = 25 := by simpa [objSta] using ht
    subst this
    by_cases h1 : a = c <;> by_cases h2 : b = d <;> simp [go_sem, h1, h2]
  slT := by kernel_rfl
  stT := by kernel_rfl
  bT := by kernel_rfl
  cv := fun n w => by kernel_rfl
end Go.Proofs.Ytmoeddpbmclckaa
namespace Go.Proofs.Ytmoeddpbmclckaa
open Go.ChangeShapes Go.WideShapes Go.ChangeAt Go.RowKit Go.Deep

def RowAt (w : World) (b : Nat) (vs : List Value) : Prop := ∀ (i : Nat) (v : Value), vs[i]? = some v → w.cell? ⟨b, i, none⟩ = some v
/-- The like from a place within the block. -/
def RowFrom (w : World) (b off : Nat) (vs : List Value) : Prop := ∀ (i : Nat) (v : Value), vs[i]? = some v → w.cell? ⟨b, off + i, none⟩ = some v
theorem RowAt.from_ {w : World} {b : Nat} {vs : List Value} (h : RowAt w b vs) : RowFrom w b 0 vs := fun i v hv => by rw [Nat.zero_add]; exact h i v hv
theorem RowFrom.below {n : Nat} {w w' : World} {b off : Nat} {vs : List Value} (hb : Below n w w') (hn : w.heap.size = n) (h : RowFrom w b off vs) : RowFrom w' b off vs := fun i v hv => by
  subst hn
  exact Below.cell_some hb (h i v hv)
theorem RowAt.of_heap {w : World} {b : Nat} {vs : List Value} {t : TypeId} {fr : Nat × Nat} (h : w.heap[b]? = some (.cells vs.toArray t fr)) : RowAt w b vs := fun i v hv => by
  rw [cell_of_row w b i _ t fr h]
  simpa using hv
theorem RowAt.below {n : Nat} {w w' : World} {b : Nat} {vs : List Value} (hb : Below n w w') (hn : w.heap.size = n) (h : RowAt w b vs) : RowAt w' b vs := fun i v hv => by
  subst hn
  exact Below.cell_some hb (h i v hv)
theorem RowAt.cell {w : World} {b : Nat} {vs : List Value} (h : RowAt w b vs) (i : Nat) {v : Value} (hv : vs[i]? = some v) : w.cell? ⟨b, i, none⟩ = some v := h i v hv

/-- The class of the worlds in which all of w stays. -/
def Kept (w : World) (w' : World) : Prop := Below w.heap.size w w'
theorem Kept.refl (w : World) : Kept w w := Below.refl _ _
theorem Kept.drawn (w : World) : Kept w { w with drawn := w.drawn + 1 } := ⟨rfl, rfl, rfl, Nat.le_refl _, fun _ _ => rfl⟩

def BlkOk (β : Nat → Nat × Nat) (w : World) (l : List (Nat × List Value)) : Prop := ∀ x ∈ l, ∀ (i : Nat) (v : Value), x.2[i]? = some v → ∀ w', Kept w w' → w'.cell? ⟨(β x.1).1, (β x.1).2 + i, none⟩ = some v
theorem blk_nil {w : World} {β : Nat → Nat × Nat} : BlkOk β w [] := fun x hx => by cases hx
theorem blk_cons {w : World} {β : Nat → Nat × Nat} {k : Nat} {vs : List Value} {l : List (Nat × List Value)} (h : RowFrom w (β k).1 (β k).2 vs) (hl : BlkOk β w l) : BlkOk β w ((k, vs) :: l) := by
  intro x hx i v hv w' hw'
  rcases List.mem_cons.1 hx with rfl | hx
  · exact Below.cell_some hw' (h i v hv)
  · exact hl x hx i v hv w' hw'
theorem tab_ok {P : Program} {s : Sta} {β : Nat → Nat × Nat} {w : World} {l : List (Nat × List Value)} {cs : List (Nat × Value)} {ix : List (Nat × SV)} (hs : s.Ok P) (h : BlkOk β w l) : Tab.Ok ⟨s, l, cs, ix⟩ P β (Kept w) := ⟨hs, h⟩

theorem ob_nil {P : Program} {β : Nat → Nat × Nat} {C : World → Prop} : ∀ ob ∈ ([] : List Ob), ob.holds P β C := fun x hx => by cases hx
theorem ob_cons {P : Program} {β : Nat → Nat × Nat} {C : World → Prop} {o : Ob} {l : List Ob} (h : o.holds P β C) (hl : ∀ ob ∈ l, ob.holds P β C) : ∀ ob ∈ o :: l, ob.holds P β C := by
  intro x hx
  rcases List.mem_cons.1 hx with rfl | hx
  · exact h
  · exact hl x hx
theorem ob_kept {P : Program} {β : Nat → Nat × Nat} {w : World} {f : Nat} {args : List SV} {v : Value} {fn : Func} {c : Code} (hf : P.funcs[f]? = some fn) (hn : (fn.name == "runtime.NumGoroutine") = false) (hb : fn.body = some c)
    (h : ∀ w', Kept w w' → Calls P f (args.map (SV.den β)).toArray w' fun e w'' => e = .returned v ∧ Below w'.heap.size w' w'') : Ob.holds P β (Kept w) (.call f args v) :=
  ⟨⟨fn, hf, hn, by rw [hb]; rfl⟩, fun w' hw' => (h w' hw').mono fun _ w'' ⟨he, hb⟩ => ⟨he, hw'.trans (hb.mono hw'.size)⟩⟩

theorem act_to {Q : Exit → Act → World → Prop} {e : Exit} {a L : Act} {w : World} (h : a = L) (hq : Q e L w) : Q e a w := h ▸ hq
end Go.Proofs.Ytmoeddpbmclckaa
