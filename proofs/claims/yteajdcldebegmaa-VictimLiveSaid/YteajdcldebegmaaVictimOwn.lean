/- Rows of objects of the call's own. No condition. -/
import Derived.Test.YteajdcldebegmaaVictimEx
namespace Go.Proofs.Yteajdcldebegmaa
open Go.ChangeShapes Go.WideShapes Go.ChangeAt Go.RowKit Go.Deep

/-- A slice of the call's own that holds these. -/
def OwnO (w : World) (B : Nat) (v : Value) (xs : List OV) : Prop := w.ownsRow B 48 47 v xs.length (xs.flatMap OV.cells)
def Dis (v u : Value) : Prop := ∀ g, v.ownBlock = some g → u.ownBlock ≠ some g

theorem Dis.symm {v u : Value} (h : Dis v u) : Dis u v := fun g h1 h2 => h g h2 h1

theorem OwnO.nil (w : World) (B : Nat) : OwnO w B (.slice none 0 0) [] := World.ownsRow_nil w B _ _

theorem own_next {w w' : World} {B : Nat} {v u : Value} {ys : List OV} {g' cap' n' : Nat} (hu : OwnO w B u ys) (hd : Dis v u) (hg : w.grownBy w' v.ownBlock) (hnew : v.ownBlock = some g' ∨ w.heap.size ≤ g') :
    OwnO w' B u ys ∧ Dis (.slice (some ⟨g', 0, none⟩) n' cap') u := by
  refine ⟨owns_fr (Fr.grown (S := fun k => v.ownBlock = some k) hg (fun k hk => hk)) hu (fun k hk hs => hd k hs hk), fun g h1 h2 => ?_⟩
  simp only [Value.ownBlock, Option.some.injEq] at h1
  subst h1
  rcases hnew with h | h
  · exact hd _ h h2
  · have := (World.ownsRow.lt hu _ h2).2
    omega

theorem own_first {w' : World} {B : Nat} {g' cap' : Nat} {xs : List OV} {x : OV} (h : w'.ownsRow B 48 47 (.slice (some ⟨g', 0, none⟩) (xs.length + 1) cap') (xs.length + 1) (xs.flatMap OV.cells ++ x.cells.toArray.toList)) :
    OwnO w' B (.slice (some ⟨g', 0, none⟩) (xs.length + 1) cap') (xs ++ [x]) := by
  unfold OwnO
  rw [List.length_append, List.flatMap_append]
  simpa using h

set_option maxRecDepth 100000 in
theorem oneList : ∀ (l : List Value), l.length = 47 → ∀ w : World, (Instr.buildSlice 22 1 [(0, .agg l.toArray)].toArray).run Try.prog w = .ok (.slice (some ⟨w.heap.size, 0, none⟩) 1 1) (w.alloc (.cells l.toArray 48))
  | a0 :: a1 :: a2 :: a3 :: a4 :: a5 :: a6 :: a7 :: a8 :: a9 :: a10 :: a11 :: a12 :: a13 :: a14 :: a15 :: a16 :: a17 :: a18 :: a19 :: a20 :: a21 :: a22 :: a23 :: a24 :: a25 :: a26 :: a27 :: a28 :: a29 :: a30 :: a31 :: a32 :: a33 :: a34 :: a35 :: a36 :: a37 :: a38 :: a39 :: a40 :: a41 :: a42 :: a43 :: a44 :: a45 :: a46 :: [], _ => fun w => by kernel_rfl

theorem oneObj (x : OV) (w : World) : (Instr.buildSlice 22 1 [(0, .agg x.cells.toArray)].toArray).run Try.prog w = .ok (.slice (some ⟨w.heap.size, 0, none⟩) 1 1) (w.alloc (.cells x.cells.toArray 48)) := oneList x.cells x.hlen w

end Go.Proofs.Yteajdcldebegmaa
