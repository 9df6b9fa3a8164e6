/- The contracts of rollout.New and of the law's fresh: is a pod new? Condition: the objects read; New's first is a workload. || Objects as rows of cells, of which five are told; pod. No condition. || Rows of objects of the call's own. No condition. || The contract of victim.Live. Condition: at most 1000 objects. || The comparisons of chapter 15's order, at the phases of its example. No condition. || The contract of victim.Before, at two objects whose ranks are told. No condition. || The contract of victim.rank at any phase. No condition. || Objects as elements of a row that is sorted by victim.Before; its contract. No condition. || The contract of the insertion sort at any elements. Condition: the row lies in a block of its own. || The contracts of the exchange of ranges at any elements. Condition: the row lies in a block of its own. || The contract of the rotation at any elements. Condition: the row lies in a block of its own. || Plain laws of a binary search and of a shift by exchanges, for the symmetric merge. No condition. || The symmetric merge at any elements, where one side is a single element. Condition: the row lies in a block of its own. || The symmetric merge at any elements, where the right side is a single element. Condition: the row lies in a block of its own. || The symmetric merge at any elements. Condition: the row lies in a block of its own. || The stable sort at any elements. Condition: the row lies in a block of its own. || The stable sort of no elements; elements with their places. No condition. || Contracts of slices at api.Object. Condition: the slices read; a row is the call's own. || The contract of victim.Order at any objects. Condition: they lie in a row of the call's own, at most 1000. || The contract of rollout.split. Condition: the objects read, at most 1000; the first is a workload. || Chapter 35 by definition, in plain words: insertion, who goes, how many are lost. No condition. || The contract of rollout.goes. Condition: the objects read, at most 1000; the spare number lies in a variable of its own. || The contracts of chapter 35's sooner, same, right and Check. Conditions: same's names read, and are the same. || The contract of rollout.ready. Condition: the objects read. || Append of a whole slice onto a row of the call's own, in a region that draws. No condition; no program. -/
import Derived.Test.YtpbppgfogepjeaaRolEqM
import Derived.Test.YtpbppgfogepjeaaRightM
import Derived.Test.YtpbppgfogepjeaaObI
import Derived.BigRegion
import Derived.Deep.QuietTactic
import Derived.Test.YtpbppgfogepjeaaRows
import Derived.Test.YtpbppgfogepjeaaName2M
import Derived.Test.YtpbppgfogepjeaaCutListM
import Derived.Sort.Walk0
import Derived.Test.YtpbppgfogepjeaaHeadLitM
import Derived.Test.YtpbppgfogepjeaaPhase2
import Derived.Test.YtpbppgfogepjeaaValM
import Derived.Test.YtpbppgfogepjeaaBase
import Derived.Shelf.Abstract
import Derived.Deep.Onto
import Derived.ChangeShapes
import Derived.Test.YtpbppgfogepjeaaAppendM
namespace Go.Proofs.Ytpbppgfogepjeaa
open Go.ChangeShapes Go.WideShapes Go.ChangeAt Go.RowKit Go.Deep

theorem aggWl : AggOK Try.prog 29 7 := .mk' (by kernel_rfl) (by kernel_rfl)
structure NPf (w0 w : World) (N : Nat) (n p : ObI) : Prop where
  nAt : ∀ j u, n.cells[j]? = some u → w.cell? ⟨N, j, none⟩ = some u
  pAt : ∀ j u, p.cells[j]? = some u → w.cell? ⟨N + 1, j, none⟩ = some u
  below : Below N w0 w
theorem NPf.b {w0 w w' : World} {N : Nat} {n p : ObI} (h : NPf w0 w N n p) (hN : N ≤ w.heap.size) (hb : Below w.heap.size w w') : NPf w0 w' N n p :=
  ⟨fun j u hu => Below.cell_some hb (h.nAt j u hu), fun j u hu => Below.cell_some hb (h.pAt j u hu), h.below.trans (hb.mono hN)⟩
theorem NPf.new (w : World) (n p : ObI) : NPf w ((w.alloc (.cells n.cells.toArray 44)).alloc (.cells p.cells.toArray 44)) w.heap.size n p := by
  refine ⟨fun j u hu => Below.cell_some ((Below.refl _ _).alloc (Nat.le_refl _) _) (ob_new w n _ j u hu), fun j u hu => ?_, ((Below.refl _ _).alloc (Nat.le_refl _) _).alloc (by simp) _⟩
  have := ob_new (w.alloc (.cells n.cells.toArray 44)) p 44 j u hu
  rwa [World.size_alloc] at this
end Go.Proofs.Ytpbppgfogepjeaa
namespace Go.Proofs.Ytpbppgfogepjeaa
open Go.ChangeShapes Go.WideShapes Go.ChangeAt Go.RowKit Go.Deep

structure OV where
  cells : List Value
  kind : Int
  name : ByteArray
  owner : ByteArray
  phase : Int
  since : Int
  hlen : cells.length = 47
  h0 : cells[0]? = some (.int .i64 kind)
  h1 : cells[1]? = some (.string name)
  h10 : cells[10]? = some (.string owner)
  h12 : cells[12]? = some (.int .i64 phase)
  h13 : cells[13]? = some (.int .i64 since)
  one : cells.all (fun u => u.oneCell') = true

end Go.Proofs.Ytpbppgfogepjeaa
namespace Go.Proofs.Ytpbppgfogepjeaa
open Go.ChangeShapes Go.WideShapes Go.ChangeAt Go.RowKit Go.Deep

def OwnO (w : World) (B : Nat) (v : Value) (xs : List OV) : Prop := w.ownsRow B 44 47 v xs.length (xs.flatMap OV.cells)
def Dis (v u : Value) : Prop := ∀ g, v.ownBlock = some g → u.ownBlock ≠ some g

theorem Dis.symm {v u : Value} (h : Dis v u) : Dis u v := fun g h1 h2 => h g h2 h1

theorem OwnO.nil (w : World) (B : Nat) : OwnO w B (.slice none 0 0) [] := World.ownsRow_nil w B _ _

end Go.Proofs.Ytpbppgfogepjeaa
namespace Go.Proofs.Ytpbppgfogepjeaa
open Go.ChangeShapes Go.WideShapes Go.ChangeAt Go.RowKit Go.Deep

end Go.Proofs.Ytpbppgfogepjeaa
namespace Go.Proofs.Ytpbppgfogepjeaa
open Go.ChangeShapes Go.WideShapes Go.ChangeAt Go.RowKit Go.Deep

end Go.Proofs.Ytpbppgfogepjeaa
namespace Go.Proofs.Ytpbppgfogepjeaa
open Go.ChangeShapes Go.WideShapes Go.ChangeAt Go.RowKit Go.Deep

def Dn (w w' : World) : Prop := Below w.heap.size w w' ∧ w.drawn ≤ w'.drawn
theorem Dn.refl (w : World) : Dn w w := ⟨Below.refl _ _, Nat.le_refl _⟩
theorem Dn.trans {a b c : World} (h : Dn a b) (k : Dn b c) : Dn a c := ⟨h.1.trans (k.1.mono h.1.size), Nat.le_trans h.2 k.2⟩
theorem Dn.alloc {a b : World} (h : Dn a b) (o : Obj) : Dn a (b.alloc o) := ⟨h.1.alloc h.1.size o, h.2⟩
structure DW (w : World) where
  w' : World
  h : Dn w w'
theorem DW.cell {w : World} {p : Addr} {v : Value} (h : w.cell? p = some v) (b : DW w) : b.w'.cell? p = some v := Below.cell_some b.h.1 h
theorem DW.call {P : Program} {f : FuncId} {args : Array Value} {w : World} {v : Value} (b : DW w) (h : Calls P f args b.w' fun e w' => e = .returned v ∧ Dn b.w' w') : Calls P f args b.w' fun e w' => e = .returned v ∧ ∃ q : DW w, w' = q.w' :=
  h.mono fun _ w' ⟨he, hb⟩ => ⟨he, ⟨w', b.h.trans hb⟩, rfl⟩

end Go.Proofs.Ytpbppgfogepjeaa
namespace Go.Proofs.Ytpbppgfogepjeaa
open Go.ChangeShapes Go.WideShapes Go.ChangeAt Go.RowKit Go.Deep

def rankI (p : Int) : Int := if p = 3 then 0 else if p = 0 then 1 else if p = 1 then 2 else if p = 2 then 3 else -1

end Go.Proofs.Ytpbppgfogepjeaa
namespace Go.Proofs.Ytpbppgfogepjeaa
open Go.ChangeShapes Go.WideShapes Go.ChangeAt Go.RowKit Go.Deep

abbrev TOb := ObI × Nat
def TOOb (x y : TOb) : Prop := rankI x.1.o.p.phase < rankI y.1.o.p.phase ∨ (rankI x.1.o.p.phase = rankI y.1.o.p.phase ∧ (y.1.o.p.since < x.1.o.p.since ∨ (y.1.o.p.since = x.1.o.p.since ∧
  (Op.bytesLess y.1.nm.toList x.1.nm.toList = true ∨ (y.1.nm.toList = x.1.nm.toList ∧ x.2 < y.2)))))
end Go.Proofs.Ytpbppgfogepjeaa
namespace Go.Proofs.Ytpbppgfogepjeaa
open Go.ChangeShapes Go.WideShapes Go.ChangeAt Go.RowKit Go.Deep

end Go.Proofs.Ytpbppgfogepjeaa
namespace Go.Proofs.Ytpbppgfogepjeaa
open Go.ChangeShapes Go.WideShapes Go.ChangeAt Go.RowKit Go.Deep


end Go.Proofs.Ytpbppgfogepjeaa
namespace Go.Proofs.Ytpbppgfogepjeaa
open Go.ChangeShapes Go.WideShapes Go.ChangeAt Go.RowKit Go.Deep

end Go.Proofs.Ytpbppgfogepjeaa
namespace Go.Proofs.Ytpbppgfogepjeaa
variable {α : Type} {cf : α → α → Int} {tag : α → Nat} {T : α → α → Prop}

end Go.Proofs.Ytpbppgfogepjeaa
namespace Go.Proofs.Ytpbppgfogepjeaa
open Go.ChangeShapes Go.WideShapes Go.ChangeAt Go.RowKit Go.Deep

end Go.Proofs.Ytpbppgfogepjeaa
namespace Go.Proofs.Ytpbppgfogepjeaa
open Go.ChangeShapes Go.WideShapes Go.ChangeAt Go.RowKit Go.Deep

end Go.Proofs.Ytpbppgfogepjeaa
namespace Go.Proofs.Ytpbppgfogepjeaa
open Go.ChangeShapes Go.WideShapes Go.ChangeAt Go.RowKit Go.Deep

end Go.Proofs.Ytpbppgfogepjeaa
namespace Go.Proofs.Ytpbppgfogepjeaa
open Go.ChangeShapes Go.WideShapes Go.ChangeAt Go.RowKit Go.Deep

end Go.Proofs.Ytpbppgfogepjeaa
namespace Go.Proofs.Ytpbppgfogepjeaa
open Go.ChangeShapes Go.WideShapes Go.ChangeAt Go.RowKit Go.Deep

end Go.Proofs.Ytpbppgfogepjeaa
namespace Go.Proofs.Ytpbppgfogepjeaa
open Go.ChangeShapes Go.WideShapes Go.ChangeAt Go.RowKit Go.Deep

end Go.Proofs.Ytpbppgfogepjeaa
namespace Go.Proofs.Ytpbppgfogepjeaa
open Go.ChangeShapes Go.WideShapes Go.ChangeAt Go.RowKit Go.Deep

def OwnOb (w : World) (B : Nat) (v : Value) (xs : List ObI) : Prop := w.ownsRow B 44 47 v xs.length (xs.flatMap ObI.cells)
theorem OwnOb.nil (w : World) (B : Nat) : OwnOb w B (.slice none 0 0) [] := World.ownsRow_nil w B _ _
def SortedO (xs ys : List ObI) : Prop := ∃ d : List TOb, d.Perm xs.zipIdx ∧ d.Pairwise TOOb ∧ ys = d.map (·.1)
end Go.Proofs.Ytpbppgfogepjeaa
namespace Go.Proofs.Ytpbppgfogepjeaa
open Go.ChangeShapes Go.WideShapes Go.ChangeAt Go.RowKit Go.Deep

theorem SortedO.mem {xs ys : List ObI} (h : SortedO xs ys) {y : ObI} (hy : y ∈ ys) : y ∈ xs := by
  obtain ⟨d, h1, _, rfl⟩ := h
  obtain ⟨t, ht, rfl⟩ := List.mem_map.1 hy
  have := h1.mem_iff.1 ht
  exact (List.mem_zipIdx' this).2 ▸ List.getElem_mem _
theorem SortedO.length {xs ys : List ObI} (h : SortedO xs ys) : ys.length = xs.length := by
  obtain ⟨d, h1, _, rfl⟩ := h
  rw [List.length_map, h1.length_eq, List.length_zipIdx]
theorem OwnOb.reads {w : World} {B : Nat} {v : Value} {xs : List ObI} (h : OwnOb w B v xs) : ∃ ao cap, v = .slice ao xs.length cap ∧ SlR (Flat ObI.cells) 47 w ao xs.length cap xs ∧ (∀ a, ao = some a → B ≤ a.block) := by
  obtain ⟨ao, cap, e, hS⟩ := SlR.of_owns (f := ObI.cells) (sz := 47) h rfl (fun _ => rfl)
  exact ⟨ao, cap, e, hS⟩
theorem OwnOb.first {w' : World} {B : Nat} {g' cap' : Nat} {xs : List ObI} {x : ObI} (h : w'.ownsRow B 44 47 (.slice (some ⟨g', 0, none⟩) (xs.length + 1) cap') (xs.length + 1) (xs.flatMap ObI.cells ++ x.cells.toArray.toList)) : OwnOb w' B (.slice (some ⟨g', 0, none⟩) (xs.length + 1) cap') (xs ++ [x]) := by
  unfold OwnOb
  rw [List.length_append, List.flatMap_append]
  simpa using h
theorem OwnOb.next {w w' : World} {B : Nat} {v u : Value} {ys : List ObI} {g' cap' n' : Nat} (hu : OwnOb w B u ys) (hd : Dis v u) (hg : w.grownBy w' v.ownBlock) (hnew : v.ownBlock = some g' ∨ w.heap.size ≤ g') :
    OwnOb w' B u ys ∧ Dis (.slice (some ⟨g', 0, none⟩) n' cap') u := by
  refine ⟨owns_fr (Fr.grown (S := fun k => v.ownBlock = some k) hg (fun k hk => hk)) hu (fun k hk hs => hd k hs hk), fun g h1 h2 => ?_⟩
  simp only [Value.ownBlock, Option.some.injEq] at h1
  subst h1
  rcases hnew with h | h
  · exact hd _ h h2
  · have := (World.ownsRow.lt hu _ h2).2
    omega

end Go.Proofs.Ytpbppgfogepjeaa
namespace Go.Proofs.Ytpbppgfogepjeaa
open Go.ChangeShapes

section ins
variable {α : Type} (lt : α → α → Bool)
end ins

structure Pv where
  ph : Int
  nm : ByteArray
  fr : Bool
section goes
variable {α : Type} (pv : α → Pv)
end goes
end Go.Proofs.Ytpbppgfogepjeaa
namespace Go.Proofs.Ytpbppgfogepjeaa
open Go.ChangeShapes Go.WideShapes Go.ChangeAt Go.RowKit Go.Deep

def cN (s : ByteArray) : List Value := [.string s]
def OwnN (w : World) (B : Nat) (v : Value) (xs : List ByteArray) : Prop := w.ownsRow B 9 1 v xs.length (xs.flatMap cN)
theorem OwnN.nil (w : World) (B : Nat) : OwnN w B (.slice none 0 0) [] := World.ownsRow_nil w B _ _
theorem OwnN.first {w' : World} {B : Nat} {g' cap' : Nat} {xs : List ByteArray} {x : ByteArray} (h : w'.ownsRow B 9 1 (.slice (some ⟨g', 0, none⟩) (xs.length + 1) cap') (xs.length + 1) (xs.flatMap cN ++ (#[Value.string x]).toList)) : OwnN w' B (.slice (some ⟨g', 0, none⟩) (xs.length + 1) cap') (xs ++ [x]) := by
  unfold OwnN
  rw [List.length_append, List.flatMap_append]
  exact h
theorem SlR.frG {α : Type} {f : α → List Value} {sz : Nat} {S : Nat → Prop} {w w' : World} {ao : Option Addr} {n cap : Nat} {xs : List α} (h : SlR (Flat f) sz w ao n cap xs) (hf : Fr S w w') (hk : ∀ a, ao = some a → ¬ S a.block) : SlR (Flat f) sz w' ao n cap xs :=
  ⟨h.hlen, h.hcap, h.hmax, h.hnil, fun a ha i hi => by
    obtain ⟨c, h1, h2, h3⟩ := h.hat a ha i hi
    exact ⟨c, h1, fun j u hu => hf.cell (h2 j u hu) (by rw [show ∀ (a : Addr) (n : Nat), (a.add n).block = a.block from fun a n => by unfold Addr.add; first | rfl | (split <;> rfl)]; exact hk a ha), h3⟩⟩
theorem Fr.setC (S : Nat → Prop) (w : World) (p : Addr) (v : Value) (hp : S p.block) : Fr S w (w.setCell p v) := by
  refine ⟨rfl, rfl, rfl, by simp [World.setCell], fun k hk hs => ?_⟩
  rw [Below.heap_setCell _ _ _ _ (fun e => hs (by rw [e]; exact hp))]
end Go.Proofs.Ytpbppgfogepjeaa
namespace Go.Proofs.Ytpbppgfogepjeaa
open Go.ChangeShapes Go.WideShapes Go.ChangeAt Go.RowKit Go.Deep

end Go.Proofs.Ytpbppgfogepjeaa
namespace Go.Proofs.Ytpbppgfogepjeaa
open Go.ChangeShapes Go.WideShapes Go.ChangeAt Go.RowKit Go.Deep

end Go.Proofs.Ytpbppgfogepjeaa
namespace Go.Proofs.Ytpbppgfogepjeaa
open Go.ChangeShapes Go.WideShapes Go.ChangeAt Go.RowKit Go.Deep

end Go.Proofs.Ytpbppgfogepjeaa
