/- A store of a part of an element of a row. No condition; no program. || Two fresh variables, made in any order. No condition; no program. -/
import Derived.Test.YtpbppgfogepjeaaPhase2
import Derived.Test.YtpbppgfogepjeaaRolEq0M
import Derived.Test.YtpbppgfogepjeaaPhaseInv
import Derived.Laws.StructEq
namespace Go.Proofs.Ytpbppgfogepjeaa
open Go.ChangeShapes Go.WideShapes Go.ChangeAt Go.RowKit Go.Deep

theorem run_store_part {P : Program} {T : TypeId} {size : Nat} (A : AggOK P T size) (w : World) (gb off : Nat) (cs : List Value) (hs : cs.length = size) (h1 : ∀ v ∈ cs, v.oneCell' = true) (cur : Array Value) (e : TypeId) (hrow : w.heap[gb]? = some (.cells cur e (0, 0))) (hlen : off + size ≤ cur.size) :
    (storeVar T ⟨gb, off, none⟩ (.agg cs.toArray)).run P w = .ok () (w.setRow gb (cur.toList.take off ++ cs ++ cur.toList.drop (off + size)).toArray) := by
  obtain ⟨ti, _, hti, _, hsz, _⟩ := A.info
  have hst := run_storeCells_at P gb off e cs 0 cur w hrow (by omega) h1
  rw [Nat.add_zero, hs] at hst
  simp [storeVar, Sem.run_bind, sizeOf, typeInfo, hti, hsz, Value.cells, hs, hst]
end Go.Proofs.Ytpbppgfogepjeaa
namespace Go.Proofs.Ytpbppgfogepjeaa
open Go.ChangeShapes Go.WideShapes Go.ChangeAt Go.RowKit Go.Deep

variable {w0 w' : World} {a b : Bool} {T1 T2 : TypeId} {z1 z2 : Array Value} {v1 v2 : Value}
theorem upon_new {P : Program} {A : Act} {w : World} {o : Oper} {next : Value → World → Prop} {T : TypeId} {z : Array Value} (hrun : (execOp A.eval o).run P w = .ok (.value (.pointer (some ⟨w.heap.size, 0, Option.none⟩))) (w.alloc (.cells z T))) (h : next (.pointer (some ⟨w.heap.size, 0, Option.none⟩)) (w.alloc (.cells z T))) : loudUpon P next ((execOp A.eval o).run P w) := by
  rw [hrun]
  exact h
structure TwoS (w0 w' : World) (a b c e : Bool) (T1 T2 : TypeId) (z1 z2 c1 c2 : Array Value) (v1 v2 : Value) : Prop where
  one : a = true → ∃ k, v1 = .pointer (some ⟨k, 0, Option.none⟩) ∧ w0.heap.size ≤ k ∧ w'.heap[k]? = some (.cells (if c = true then c1 else z1) T1 (0, 0))
  two : b = true → ∃ k, v2 = .pointer (some ⟨k, 0, Option.none⟩) ∧ w0.heap.size ≤ k ∧ w'.heap[k]? = some (.cells (if e = true then c2 else z2) T2 (0, 0))
  ne : a = true → b = true → v1 ≠ v2
  ca : c = true → a = true
  eb : e = true → b = true
variable {c e : Bool} {c1 c2 : Array Value}
theorem TwoS.none : TwoS w0 w' false false false false T1 T2 z1 z2 c1 c2 v1 v2 := ⟨fun h => (by cases h), fun h => (by cases h), fun h => (by cases h), fun h => (by cases h), fun h => (by cases h)⟩
theorem TwoS.first (h : TwoS w0 w' a b c e T1 T2 z1 z2 c1 c2 v1 v2) (ha : a = false) (hb : w0.heap.size ≤ w'.heap.size) : TwoS w0 (w'.alloc (.cells z1 T1)) true b c e T1 T2 z1 z2 c1 c2 (.pointer (some ⟨w'.heap.size, 0, Option.none⟩)) v2 := by
  have hc : c = false := by
    cases c
    · rfl
    · have := h.ca rfl; rw [ha] at this; cases this
  subst hc
  refine ⟨fun _ => ⟨_, rfl, hb, heap_alloc_new _ _⟩, fun h2 => ?_, fun _ h2 e => ?_, fun _ => rfl, h.eb⟩
  · obtain ⟨k, e1, e2, e3⟩ := h.two h2
    exact ⟨k, e1, e2, (Below.heap_alloc _ _ _ (Array.getElem?_eq_some_iff.1 e3).1).trans e3⟩
  · obtain ⟨k, e1, _, e3⟩ := h.two h2
    have := (Array.getElem?_eq_some_iff.1 e3).1
    rw [e1] at e
    simp only [Value.pointer.injEq, Option.some.injEq, Addr.mk.injEq, and_true] at e
    omega
theorem TwoS.second (h : TwoS w0 w' a b c e T1 T2 z1 z2 c1 c2 v1 v2) (ha : b = false) (hb : w0.heap.size ≤ w'.heap.size) : TwoS w0 (w'.alloc (.cells z2 T2)) a true c e T1 T2 z1 z2 c1 c2 v1 (.pointer (some ⟨w'.heap.size, 0, Option.none⟩)) := by
  have hc : e = false := by
    cases e
    · rfl
    · have := h.eb rfl; rw [ha] at this; cases this
  subst hc
  refine ⟨fun h2 => ?_, fun _ => ⟨_, rfl, hb, heap_alloc_new _ _⟩, fun h2 _ e => ?_, h.ca, fun _ => rfl⟩
  · obtain ⟨k, e1, e2, e3⟩ := h.one h2
    exact ⟨k, e1, e2, (Below.heap_alloc _ _ _ (Array.getElem?_eq_some_iff.1 e3).1).trans e3⟩
  · obtain ⟨k, e1, _, e3⟩ := h.one h2
    have := (Array.getElem?_eq_some_iff.1 e3).1
    rw [e1] at e
    simp only [Value.pointer.injEq, Option.some.injEq, Addr.mk.injEq, and_true] at e
    omega
theorem TwoS.put1 (h : TwoS w0 w' a b c e T1 T2 z1 z2 c1 c2 v1 v2) (ha : a = true) (hc : c = false) : ∃ k, v1 = .pointer (some ⟨k, 0, Option.none⟩) ∧ w0.heap.size ≤ k ∧ w'.heap[k]? = some (.cells z1 T1 (0, 0)) ∧ TwoS w0 (w'.setRow k c1) a b true e T1 T2 z1 z2 c1 c2 v1 v2 := by
  obtain ⟨k, e1, e2, e3⟩ := h.one ha
  rw [hc, if_neg (by simp)] at e3
  refine ⟨k, e1, e2, e3, fun _ => ⟨k, e1, e2, setRow_heap e3⟩, fun h2 => ?_, h.ne, fun _ => ha, h.eb⟩
  obtain ⟨j, f1, f2, f3⟩ := h.two h2
  refine ⟨j, f1, f2, ?_⟩
  rw [← f3]
  exact (Fr.setRow (fun q => q = k) w' k c1 rfl).block j (Array.getElem?_eq_some_iff.1 f3).1 (fun e => h.ne ha h2 (by rw [e1, f1, e]))
theorem TwoS.put2 (h : TwoS w0 w' a b c e T1 T2 z1 z2 c1 c2 v1 v2) (hb : b = true) (he : e = false) : ∃ k, v2 = .pointer (some ⟨k, 0, Option.none⟩) ∧ w0.heap.size ≤ k ∧ w'.heap[k]? = some (.cells z2 T2 (0, 0)) ∧ TwoS w0 (w'.setRow k c2) a b c true T1 T2 z1 z2 c1 c2 v1 v2 := by
  obtain ⟨k, e1, e2, e3⟩ := h.two hb
  rw [he, if_neg (by simp)] at e3
  refine ⟨k, e1, e2, e3, fun h2 => ?_, fun _ => ⟨k, e1, e2, setRow_heap e3⟩, h.ne, h.ca, fun _ => hb⟩
  obtain ⟨j, f1, f2, f3⟩ := h.one h2
  refine ⟨j, f1, f2, ?_⟩
  rw [← f3]
  exact (Fr.setRow (fun q => q = k) w' k c2 rfl).block j (Array.getElem?_eq_some_iff.1 f3).1 (fun e => h.ne h2 hb (by rw [e1, f1, e]))
theorem TwoS.both (h : TwoS w0 w' true true true true T1 T2 z1 z2 c1 c2 v1 v2) : ∃ k j, v1 = .pointer (some ⟨k, 0, Option.none⟩) ∧ v2 = .pointer (some ⟨j, 0, Option.none⟩) ∧ w0.heap.size ≤ k ∧ w0.heap.size ≤ j ∧ k ≠ j ∧ w'.heap[k]? = some (.cells c1 T1 (0, 0)) ∧ w'.heap[j]? = some (.cells c2 T2 (0, 0)) := by
  obtain ⟨k, e1, e2, e3⟩ := h.one rfl
  obtain ⟨j, f1, f2, f3⟩ := h.two rfl
  exact ⟨k, j, e1, f1, e2, f2, fun e => h.ne rfl rfl (by rw [e1, f1, e]), e3, f3⟩
theorem upon_put {P : Program} {A : Act} {w : World} {o : Oper} {next : Value → World → Prop} {T : TypeId} {size : Nat} (G : AggOK P T size) (p x : Operand) (hop : o.op = .store T p x) (gb : Nat) (cs : List Value) (hs : cs.length = size) (h1 : ∀ v ∈ cs, v.oneCell' = true) (cur : Array Value) (hz : cur.size = size)
    (hrow : w.heap[gb]? = some (.cells cur T (0, 0))) (hp : A.eval p = .pointer (some ⟨gb, 0, Option.none⟩)) (hx : A.eval x = .agg cs.toArray) (h : next undef (w.setRow gb cs.toArray)) : loudUpon P next ((execOp A.eval o).run P w) := by
  have hsv := run_store_part G w gb 0 cs hs h1 cur T hrow (by omega)
  unfold execOp
  simp only [hop, hx, hp, Instr.storeAt, Instr.sureAddr, Sem.run_bind, Sem.run_pure, Result.andThen_ok, hsv]
  have e : (cur.toList.take 0 ++ cs ++ cur.toList.drop (0 + size)) = cs := by
    rw [List.take_zero, List.nil_append, Nat.zero_add, List.drop_of_length_le (by simp; omega), List.append_nil]
  rw [e]
  exact h
theorem wpList_bin {P : Program} {ops : Array Oper} {rest : List Oper} {o : Oper} {a : Act} {Q : Exit → Act → World → Prop} {w : World} (hgd : Region.wanted o (yielded ops a.tmps) = true) {op : BinOp} {T T2 : TypeId} (x y : Operand) (ho : o.op = .binOp op T x y T2) (va vb v : Value) (hx : a.eval x = va) (hy : a.eval y = vb)
    (h1 : ∀ w, (eqGuard op T x y va vb).run P w = .ok () w) (h2 : ∀ w, (binOp op T va vb).run P w = .ok v w) (h : wpList P ops Q rest (a.put o.dst v) w) : wpList P ops Q (o :: rest) a w := by
  refine wpList_step fun _ hK => ?_
  rw [if_pos hgd]
  unfold Oper.wp execOp
  simp only [ho, hx, hy, Sem.run_bind, Sem.run_pure, Result.andThen_ok, h1, h2]
  exact hK _ _ h
theorem block_part {w : World} {b : Nat} {cs : Array Value} {t : TypeId} (h : w.heap[b]? = some (.cells cs t (0, 0))) {i : Nat} {n : Nat} (l : List Value) (hl : l = (cs.toList.drop i).take n) : ∀ j u, l[j]? = some u → w.cell? ((⟨b, i, none⟩ : Addr).add j) = some u := fun j u hu => by
  rw [Addr.add_lit, cell_of_row _ b _ _ _ (0, 0) h]
  rw [hl] at hu
  rw [List.getElem?_take] at hu
  split at hu
  · rw [List.getElem?_drop] at hu
    simpa using hu
  · cases hu

end Go.Proofs.Ytpbppgfogepjeaa
