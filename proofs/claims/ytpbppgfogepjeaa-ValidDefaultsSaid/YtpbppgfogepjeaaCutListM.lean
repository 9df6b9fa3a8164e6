/- Frames: what a call may have changed; rows of the call's own that are written in place. No condition. || A statement that lays five variables out of five fields, whose order Go leaves open: what lies behind it. Conditions are of the operations alone. || A row of operations parted in two: the first ones' ends meet in one relation. No condition. -/
import Derived.Test.YtpbppgfogepjeaaBase
import Derived.Deep.RegionLaw
import Derived.ArgAppend
import Derived.StillTail
import Derived.Orders
namespace Go.Proofs.Ytpbppgfogepjeaa
open Go.ChangeShapes Go.WideShapes Go.ChangeAt Go.RowKit Go.Deep

structure Fr (S : Nat → Prop) (w w' : World) : Prop where
  os : w'.os = w.os
  tape : w'.tape = w.tape
  output : w'.output = w.output
  size : w.heap.size ≤ w'.heap.size
  block : ∀ k, k < w.heap.size → ¬ S k → w'.heap[k]? = w.heap[k]?

theorem Fr.refl (S : Nat → Prop) (w : World) : Fr S w w := ⟨rfl, rfl, rfl, Nat.le_refl _, fun _ _ _ => rfl⟩

theorem Fr.of_below {w w' : World} (h : Below w.heap.size w w') (S : Nat → Prop) : Fr S w w' := ⟨h.os, h.tape, h.output, h.size, fun k hk _ => h.block k hk⟩

theorem Fr.below {S : Nat → Prop} {w w' : World} (h : Fr S w w') {B : Nat} (hB : B ≤ w.heap.size) (hS : ∀ k, S k → B ≤ k) : Below B w w' :=
  ⟨h.os, h.tape, h.output, h.size, fun k hk => h.block k (by omega) (fun hs => by have := hS k hs; omega)⟩

theorem Fr.trans {S T : Nat → Prop} {a b c : World} (h : Fr S a b) (k : Fr T b c) (hT : ∀ i, T i → S i ∨ a.heap.size ≤ i) : Fr S a c :=
  ⟨k.os.trans h.os, k.tape.trans h.tape, k.output.trans h.output, Nat.le_trans h.size k.size, fun i hi hs =>
    (k.block i (Nat.lt_of_lt_of_le hi h.size) (fun ht => (hT i ht).elim hs (fun h2 => by omega))).trans (h.block i hi hs)⟩

theorem Fr.then {S : Nat → Prop} {a b c : World} (h : Fr S a b) (k : Below b.heap.size b c) : Fr S a c := h.trans (Fr.of_below k (fun _ => False)) (fun _ hf => hf.elim)

theorem Fr.alloc {S : Nat → Prop} {a b : World} (h : Fr S a b) (o : Obj) : Fr S a (b.alloc o) := h.then ((Below.refl _ _).alloc (Nat.le_refl _) o)
theorem Fr.drewN {S : Nat → Prop} {a b : World} (h : Fr S a b) (n : Nat) : Fr S a (b.drewN n) := ⟨h.os, h.tape, h.output, h.size, h.block⟩
theorem Fr.heap {S : Nat → Prop} {a b : World} (h : Fr S a b) {k : Nat} {o : Obj} (ho : a.heap[k]? = some o) (hk : ¬ S k) : b.heap[k]? = some o := by
  rw [h.block k (Array.getElem?_eq_some_iff.1 ho).1 hk, ho]

theorem Fr.cell {S : Nat → Prop} {a b : World} (h : Fr S a b) {p : Addr} {v : Value} (hv : a.cell? p = some v) (hk : ¬ S p.block) : b.cell? p = some v := by
  rw [World.cell?_of_block (w := a) (h.block p.block (World.block_lt_of_cell? a p hv) hk), hv]

theorem owns_fr {S : Nat → Prop} {a b : World} (h : Fr S a b) {base : Nat} {e : TypeId} {size : Nat} {v : Value} {n : Nat} {xs : List Value} (ho : a.ownsRow base e size v n xs) (hk : ∀ k, v.ownBlock = some k → ¬ S k) : b.ownsRow base e size v n xs := by
  refine ⟨ho.1, ?_⟩
  rcases ho.2 with hn | ⟨g, cap, cur, rfl, hb, hh, r⟩
  · exact .inl hn
  · exact .inr ⟨g, cap, cur, rfl, hb, h.heap hh (hk g rfl), r⟩

theorem Fr.setRow (S : Nat → Prop) (w : World) (g : Nat) (cs : Array Value) (hg : S g) : Fr S w (w.setRow g cs) := by
  refine ⟨rfl, rfl, rfl, by simp [World.setRow], fun k hk hs => ?_⟩
  have hne : ¬ g = k := fun e => hs (e ▸ hg)
  simp only [World.setRow, Array.getElem?_modify, if_neg hne]

theorem setRow_heap {w : World} {g : Nat} {cur cs : Array Value} {e : TypeId} {fr : Nat × Nat} (h : w.heap[g]? = some (.cells cur e fr)) : (w.setRow g cs).heap[g]? = some (.cells cs e fr) := by
  simp [World.setRow, Array.getElem?_modify, h]

theorem Fr.grown {S : Nat → Prop} {a b : World} {row : Option Nat} (h : a.grownBy b row) (hr : ∀ k, row = some k → S k) : Fr S a b :=
  ⟨h.os, h.tape, h.output, h.size, fun k hk hs => h.block k hk (fun e => hs (hr k e.symm))⟩

def After (w : World) (o : Obj) (w' : World) : Prop := Below (w.heap.size + 1) (w.alloc o) w'

theorem After.keeps {w : World} {o : Obj} {w' : World} (h : After w o w') : Keeps (w.alloc o) w' := Keeps.below (by rw [World.size_alloc]; exact h)
theorem After.heap {w : World} {o : Obj} {w' : World} (h : After w o w') {k : Nat} {x : Obj} (hk : w.heap[k]? = some x) : w'.heap[k]? = some x := by
  have hl : k < w.heap.size := (Array.getElem?_eq_some_iff.1 hk).1
  rw [Below.block h k (by omega), Below.heap_alloc w o k hl, hk]
theorem After.below {w : World} {o : Obj} {w' : World} (h : After w o w') : Below w.heap.size w w' := ((Below.refl _ w).alloc (Nat.le_refl _) o).trans (h.mono (by omega))


theorem run_store_row {P : Program} {T : TypeId} {size : Nat} (A : AggOK P T size) (w : World) (g o : Nat) (cur cs : Array Value) (hg : w.heap[g]? = some (.cells cur T (0, 0))) (hs : cs.size = size) (ho : o + size ≤ cur.size) (h1 : cs.toList.all (fun u => u.oneCell') = true) :
    (storeVar T ⟨g, o, none⟩ (.agg cs)).run P w = .ok () (w.setRow g (cur.toList.take o ++ cs.toList ++ cur.toList.drop (o + size)).toArray) := by
  obtain ⟨i, _, hi, _, hsz, _⟩ := A.info
  have hst := run_storeCells_at P g o T cs.toList 0 cur w hg (by simp; omega) (List.all_eq_true.1 h1)
  have hl : cs.toList.length = size := by simpa using hs
  rw [hl] at hst
  simp only [Nat.add_zero] at hst
  simp [storeVar, Sem.run_bind, sizeOf, typeInfo, hi, hsz, Value.cells, hs, hst]

theorem wpList_store_row {P : Program} {ops : Array Oper} {rest : List Oper} {o : Oper} {a : Act} {w : World} {Q : Exit → Act → World → Prop} {T : TypeId} {size : Nat} (A : AggOK P T size) (hgd : o.guard = none) (p x : Operand) (ho : o.op = .store T p x) (hd : o.dst = none)
    (g f : Nat) (cur cs : Array Value) (hp : a.eval p = .pointer (some ⟨g, f, none⟩)) (hx : a.eval x = .agg cs) (hg : w.heap[g]? = some (.cells cur T (0, 0))) (hs : cs.size = size) (hf : f + size ≤ cur.size) (h1 : cs.toList.all (fun u => u.oneCell') = true)
    (h : wpList P ops Q rest a (w.setRow g (cur.toList.take f ++ cs.toList ++ cur.toList.drop (f + size)).toArray)) : wpList P ops Q (o :: rest) a w := by
  refine wpList_plain hgd fun _ hK => ?_
  unfold Oper.wp execOp
  simp only [ho, hp, hx, Instr.storeAt, Instr.sureAddr, Sem.run_bind, Sem.run_pure, Result.andThen_ok, run_store_row A w g f cur cs hg hs hf h1]
  rw [Oper.upon_skip, hd]
  exact hK _ _ h


end Go.Proofs.Ytpbppgfogepjeaa
namespace Go.Proofs.Ytpbppgfogepjeaa
open Go.ChangeShapes Go.WideShapes Go.ChangeAt Go.RowKit Go.Deep

def puts (a : Act) (u : List (Nat × Value)) : Act := u.foldl (fun a p => a.put (some p.1) p.2) a

theorem puts_eq : ∀ (u : List (Nat × Value)) (a a' : Act), a'.defers = a.defers → a'.tmps.size = a.tmps.size → (∀ p ∈ u, a'.tmps[p.1]? = some p.2) → (∀ t, (∀ p ∈ u, t ≠ p.1) → a'.tmps[t]? = a.tmps[t]?) → a' = puts a u
  | [], a, a', h1, _, _, h4 => by
    obtain ⟨x, d⟩ := a
    obtain ⟨x', d'⟩ := a'
    simp only at h1
    subst h1
    simp only [puts, List.foldl_nil, Act.mk.injEq, and_true]
    exact Array.ext_getElem? fun t => h4 t (fun p hp => by cases hp)
  | (d, v) :: u, a, a', h1, h2, h3, h4 => by
    have hv := h3 (d, v) (List.mem_cons_self ..)
    have hd : d < a'.tmps.size := (Array.getElem?_eq_some_iff.1 hv).1
    have := puts_eq u (a.put (some d) v) a' (by simpa [Act.put] using h1) (by simpa [Act.put] using h2) (fun p hp => h3 p (List.mem_cons_of_mem _ hp)) (fun t ht => by
      simp only [Act.put, Array.getElem?_setIfInBounds]
      by_cases e : d = t
      · subst e
        rw [if_pos rfl, if_pos (by omega), hv]
      · rw [if_neg e]
        exact h4 t (fun p hp => by
          rcases List.mem_cons.1 hp with rfl | hp
          · exact fun e' => e e'.symm
          · exact ht p hp))
    rw [this]
    rfl

theorem wpAny_inv {P : Program} {md : Region.Mode} {ops : Array Oper} {Q : Exit → Act → World → Prop} (Inv : Array Bool → Act → World → Prop)
    (hsz : ∀ l a w, Inv l a w → l.size = ops.size)
    (hord : ∀ i o, ops[i]? = some o → ∀ e ∈ o.after, Region.binds md e = true → e.on < i)
    (hstep : ∀ l a w i, Inv l a w → i ∈ Region.ready md ops l → wpOp P ops Q i (Inv (l.setIfInBounds i true)) a w)
    (hend : ∀ l a w, Inv l a w → (∀ i, i < ops.size → l.getD i false = true) → Q .normal a w) :
    ∀ (fuel : Nat) (l : Array Bool) (a : Act) (w : World), (∀ s : Nat, (∀ i, i < s → l.getD i false = true) → True) → ((List.range ops.size).countP (fun i => !l.getD i false)) ≤ fuel → Inv l a w → wpAny P md ops Q fuel l a w := by
  have hall : ∀ l : Array Bool, Region.ready md ops l = [] → l.size = ops.size → ∀ i, i < ops.size → l.getD i false = true := by
    intro l hr hs i
    induction i using Nat.strongRecOn with
    | _ i ih =>
      intro hi
      cases hl : l.getD i false with
      | true => rfl
      | false =>
        have hmem : i ∈ Region.ready md ops l := by
          rw [mem_ready]
          refine ⟨?_, ops[i], Array.getElem?_eq_getElem hi, fun e he hb => ?_⟩
          · have : i < l.size := by omega
            simp [this] at hl ⊢
            exact hl
          · have := hord i _ (Array.getElem?_eq_getElem hi) e he hb
            exact ih e.on this (by omega)
        rw [hr] at hmem
        cases hmem
  intro fuel
  induction fuel with
  | zero =>
    intro l a w _ hc hI
    have hs := hsz l a w hI
    have h0 : ∀ i, i < ops.size → l.getD i false = true := by
      intro i hi
      have := List.countP_eq_zero.1 (Nat.le_zero.1 hc) i (List.mem_range.2 hi)
      simpa using this
    refine ⟨?_, hend l a w hI h0⟩
    rw [List.eq_nil_iff_forall_not_mem]
    intro i hi
    obtain ⟨h1, o, ho, _⟩ := mem_ready.1 hi
    have hlt := (Array.getElem?_eq_some_iff.1 ho).1
    have h2 := h0 i hlt
    have h3 : i < l.size := by omega
    simp [h3] at h1 h2
    rw [h1] at h2
    cases h2
  | succ fuel ih =>
    intro l a w _ hc hI
    have hs := hsz l a w hI
    refine ⟨fun hr => hend l a w hI (hall l hr hs), fun i hi => ?_⟩
    refine wpOp_mono (fun a' w' h => ih _ a' w' (fun _ _ => trivial) ?_ h) (hstep l a w i hI hi)
    obtain ⟨h1, o, ho, _⟩ := mem_ready.1 hi
    have hlt := (Array.getElem?_eq_some_iff.1 ho).1
    have hls : i < l.size := by omega
    have hli : l.getD i false = false := by simp [hls] at h1 ⊢; exact h1
    have key : (List.range ops.size).countP (fun j => !(l.setIfInBounds i true).getD j false) < (List.range ops.size).countP (fun j => !l.getD j false) := by
      have hmem : i ∈ List.range ops.size := List.mem_range.2 hlt
      obtain ⟨s, t, hst⟩ := List.append_of_mem hmem
      have hle : ∀ m : List Nat, m.countP (fun j => !(l.setIfInBounds i true).getD j false) ≤ m.countP (fun j => !l.getD j false) := fun m => List.countP_mono_left fun j _ hj => by
        by_cases e : i = j
        · subst e
          rw [hli]; rfl
        · rw [getD_set_ne false e] at hj
          exact hj
      rw [hst, List.countP_append, List.countP_append, List.countP_cons, List.countP_cons]
      have h5 := hle s
      have h6 := hle t
      have h7 : (l.setIfInBounds i true).getD i false = true := by simp [hls]
      simp only [h7, hli, Bool.not_true, Bool.not_false, if_true]
      simp only [Bool.false_eq_true, if_false]
      omega
    omega
end Go.Proofs.Ytpbppgfogepjeaa
namespace Go.Proofs.Ytpbppgfogepjeaa
open Go.ChangeShapes Go.WideShapes Go.ChangeAt Go.RowKit Go.Deep

def CutPost (R : Act → World → Prop) (Q : Exit → Act → World → Prop) : Exit → Act → World → Prop
  | .normal, a, w => R a w
  | .exit i, a, w => Q (.exit i) a w
  | .goto l, a, w => Q (.goto l) a w
  | .ret, a, w => Q .ret a w
  | .panic c, a, w => Q (.panic c) a w
  | .outgrown, a, w => Q .outgrown a w

theorem CutPost.normal {R : Act → World → Prop} {Q : Exit → Act → World → Prop} {a : Act} {w : World} (h : R a w) : CutPost R Q .normal a w := h

theorem upon_cut {P : Program} {o : Oper} {a : Act} {R K : Act → World → Prop} {Q : Exit → Act → World → Prop} {r : Result Next} (h : o.upon P a K (CutPost R Q) r) : o.upon P a K Q r := by
  cases r with
  | ok n w' =>
    cases n <;> simp only [Oper.upon] at h ⊢ <;>
      first
        | exact h
        | exact Calls.mono h (fun e w'' he => by cases e <;> exact he)
  | halt x w' => cases x <;> simp only [Oper.upon] at h ⊢ <;> exact h

end Go.Proofs.Ytpbppgfogepjeaa
