/- A row of four cells that is stored whole. No condition. || Plain lemmas on lists, for the walks. No condition. || A row of elements of any kind that is sorted in place: loads and stores of whole elements. No condition; no program. -/
import Derived.Test.YtojealgjfbjnoaaFrame
import Derived.Test.YtojealgjfbjnoaaBase
import Derived.Test.YtojealgjfbjnoaaSortPlain
import Derived.Test.YtojealgjfbjnoaaHeadLitM
import Derived.Laws.CopyRow
namespace Go.Proofs.Ytojealgjfbjnoaa
open Go.ChangeShapes Go.WideShapes Go.ChangeAt Go.RowKit Go.Deep

theorem row_setCell {w : World} {b i : Nat} {cs : Array Value} {t : TypeId} {fr : Nat × Nat} (h : w.heap[b]? = some (.cells cs t fr)) (v : Value) : (w.setCell ⟨b, i, none⟩ v).heap[b]? = some (.cells (cs.setIfInBounds i v) t fr) := by
  simp [World.setCell, Array.getElem?_modify, h]

theorem row4 {w : World} {b : Nat} {t : TypeId} {a0 a1 a2 a3 : Value} (h : w.heap[b]? = some (.cells #[a0, a1, a2, a3] t (0, 0))) (x0 x1 x2 x3 : Value) :
    ((((w.setCell ⟨b, 0, none⟩ x0).setCell ⟨b, 1, none⟩ x1).setCell ⟨b, 2, none⟩ x2).setCell ⟨b, 3, none⟩ x3).heap[b]? = some (.cells #[x0, x1, x2, x3] t (0, 0)) := by
  rw [row_setCell (row_setCell (row_setCell (row_setCell h x0) x1) x2) x3]
  rfl

theorem row4_cells {w : World} {b : Nat} {t : TypeId} {x0 x1 x2 x3 : Value} (h : w.heap[b]? = some (.cells #[x0, x1, x2, x3] t (0, 0))) :
    w.cell? ⟨b, 0, none⟩ = some x0 ∧ w.cell? ⟨b, 1, none⟩ = some x1 ∧ w.cell? ⟨b, 2, none⟩ = some x2 ∧ w.cell? ⟨b, 3, none⟩ = some x3 :=
  ⟨cell_of_row w b 0 _ t _ h, cell_of_row w b 1 _ t _ h, cell_of_row w b 2 _ t _ h, cell_of_row w b 3 _ t _ h⟩

theorem below_set4 {B : Nat} {a w : World} {b : Nat} (h : Below B a w) (hb : B ≤ b) (x0 x1 x2 x3 : Value) :
    Below B a ((((w.setCell ⟨b, 0, none⟩ x0).setCell ⟨b, 1, none⟩ x1).setCell ⟨b, 2, none⟩ x2).setCell ⟨b, 3, none⟩ x3) :=
  (((h.setCell hb x0).setCell hb x1).setCell hb x2).setCell hb x3

theorem heap_set4 {w : World} {b k : Nat} (hk : k ≠ b) (x0 x1 x2 x3 : Value) :
    ((((w.setCell ⟨b, 0, none⟩ x0).setCell ⟨b, 1, none⟩ x1).setCell ⟨b, 2, none⟩ x2).setCell ⟨b, 3, none⟩ x3).heap[k]? = w.heap[k]? := by
  rw [Below.heap_setCell _ _ _ _ hk, Below.heap_setCell _ _ _ _ hk, Below.heap_setCell _ _ _ _ hk, Below.heap_setCell _ _ _ _ hk]

theorem row_free {w : World} {b : Nat} {t : TypeId} {cs : Array Value} (h : w.heap[b]? = some (.cells cs t (0, 0))) (j : Nat) : w.frozen? ⟨b, j, none⟩ = false := by simp [World.frozen?, h]

/-- A store into a block that was not there. -/
theorem fr_set4 {S : Nat → Prop} {w w2 : World} {b : Nat} (h : Fr S w w2) (hb : w.heap.size ≤ b) (x0 x1 x2 x3 : Value) :
    Fr S w ((((w2.setCell ⟨b, 0, none⟩ x0).setCell ⟨b, 1, none⟩ x1).setCell ⟨b, 2, none⟩ x2).setCell ⟨b, 3, none⟩ x3) := by
  have hB := below_set4 (Below.refl b w2) (Nat.le_refl b) x0 x1 x2 x3
  exact ⟨hB.os.trans h.os, hB.tape.trans h.tape, hB.output.trans h.output, Nat.le_trans h.size hB.size, fun k hk hs => (hB.block k (by omega)).trans (h.block k hk hs)⟩

/-- The first of two blocks that were just laid. -/
theorem heap_alloc2 (w : World) (o p : Obj) : ((w.alloc o).alloc p).heap[w.heap.size]? = some o := by
  rw [Below.heap_alloc _ _ _ (by simp)]
  exact heap_alloc_new w o

theorem heap_alloc3 (w : World) (o p : Obj) : ((w.alloc o).alloc p).heap[w.heap.size + 1]? = some p := by
  have := heap_alloc_new (w.alloc o) p
  rw [World.size_alloc] at this
  exact this
end Go.Proofs.Ytojealgjfbjnoaa
namespace Go.Proofs.Ytojealgjfbjnoaa
/-- The place of the first element that meets p; none: -1. -/
def idxOf {α : Type} (p : α → Bool) : List α → Nat → Int
  | [], _ => -1
  | x :: xs, k => if p x then k else idxOf p xs (k + 1)

theorem idxOf_drop {α : Type} (p : α → Bool) {xs : List α} {k : Nat} (h : k < xs.length) : idxOf p (xs.drop k) k = if p xs[k] then (k : Int) else idxOf p (xs.drop (k + 1)) (k + 1) := by
  rw [List.drop_eq_getElem_cons h, idxOf]

theorem idxOf_end {α : Type} (p : α → Bool) {xs : List α} {k : Nat} (h : xs.length ≤ k) : idxOf p (xs.drop k) k = -1 := by
  rw [List.drop_eq_nil_of_le h, idxOf]


theorem flatMap_len {α : Type} {f : α → List Value} {sz : Nat} (hf : ∀ x, (f x).length = sz) : ∀ (xs : List α), (xs.flatMap f).length = xs.length * sz
  | [] => by simp
  | x :: xs => by rw [List.flatMap_cons, List.length_append, hf, flatMap_len hf xs, List.length_cons, Nat.add_mul]; omega

theorem flatMap_take {α : Type} {f : α → List Value} {sz : Nat} (hf : ∀ x, (f x).length = sz) : ∀ (xs : List α) (q : Nat) (rest : List Value), q ≤ xs.length → (xs.flatMap f ++ rest).take (q * sz) = (xs.take q).flatMap f
  | _, 0, _, _ => by simp
  | [], q + 1, _, h => by simp at h
  | x :: xs, q + 1, rest, h => by
    have e : (q + 1) * sz = (f x).length + q * sz := by rw [hf, Nat.add_mul]; omega
    rw [List.flatMap_cons, List.append_assoc, e, List.take_length_add_append, flatMap_take hf xs q rest (by simpa using h)]
    rfl

theorem flatMap_drop {α : Type} {f : α → List Value} {sz : Nat} (hf : ∀ x, (f x).length = sz) : ∀ (xs : List α) (q : Nat) (rest : List Value), q ≤ xs.length → (xs.flatMap f ++ rest).drop (q * sz) = (xs.drop q).flatMap f ++ rest
  | _, 0, _, _ => by simp
  | [], q + 1, _, h => by simp at h
  | x :: xs, q + 1, rest, h => by
    have e : (q + 1) * sz = (f x).length + q * sz := by rw [hf, Nat.add_mul]; omega
    rw [List.flatMap_cons, List.append_assoc, e, List.drop_length_add_append, flatMap_drop hf xs q rest (by simpa using h)]
    rfl

theorem flatMap_set {α : Type} {f : α → List Value} {sz : Nat} (hf : ∀ x, (f x).length = sz) (xs : List α) (q : Nat) (x : α) (rest : List Value) (h : q < xs.length) :
    (xs.flatMap f ++ rest).take (q * sz) ++ f x ++ (xs.flatMap f ++ rest).drop (q * sz + sz) = (xs.set q x).flatMap f ++ rest := by
  have e : q * sz + sz = (q + 1) * sz := by rw [Nat.add_mul]; omega
  rw [e, flatMap_take hf _ _ _ (by omega), flatMap_drop hf _ _ _ (by omega), List.set_eq_take_append_cons_drop, if_pos h]
  simp

theorem filter_take_succ {α : Type} (p : α → Bool) (xs : List α) (r : Nat) (h : r < xs.length) : (xs.take (r + 1)).filter p = (xs.take r).filter p ++ (if p xs[r] then [xs[r]] else []) := by
  rw [List.take_succ_eq_append_getElem h, List.filter_append]
  congr 1
  by_cases hp : p xs[r] = true <;> simp [hp]

theorem set_take {α : Type} (xs : List α) (q : Nat) (x : α) (h : q < xs.length) : (xs.set q x).take (q + 1) = xs.take q ++ [x] := by
  rw [List.take_succ_eq_append_getElem (by simpa using h), List.take_set, List.set_eq_of_length_le (by simp; omega)]
  simp

theorem set_drop {α : Type} (xs : List α) (q r : Nat) (x : α) (h : q < r) : (xs.set q x).drop r = xs.drop r := by
  rw [List.drop_set, if_pos h]

/-- What holds while the elements that stay are moved to the front: q have been kept of the first r. -/
def DelInv {α : Type} (np : α → Bool) (xs ys : List α) (q r : Nat) : Prop :=
  ys.length = xs.length ∧ q = ((xs.take r).filter np).length ∧ ys.take q = (xs.take r).filter np ∧ ys.drop r = xs.drop r

theorem drop_next {α : Type} {xs ys : List α} {r : Nat} (h : ys.drop r = xs.drop r) : ys.drop (r + 1) = xs.drop (r + 1) := by
  rw [← List.drop_drop, h, List.drop_drop]

theorem del_keep {α : Type} {np : α → Bool} {xs ys : List α} {q r : Nat} (h : DelInv np xs ys q r) (hr : r < xs.length) (hp : np xs[r] = true) (hq : q < r) : DelInv np xs (ys.set q xs[r]) (q + 1) (r + 1) := by
  obtain ⟨h1, h2, h3, h4⟩ := h
  refine ⟨by rw [List.length_set, h1], ?_, ?_, ?_⟩
  · rw [filter_take_succ _ _ _ hr, if_pos hp, List.length_append, ← h2]; rfl
  · rw [filter_take_succ _ _ _ hr, if_pos hp, set_take _ _ _ (by omega), h3]
  · rw [set_drop _ _ _ _ (by omega), drop_next h4]

theorem del_drop {α : Type} {np : α → Bool} {xs ys : List α} {q r : Nat} (h : DelInv np xs ys q r) (hr : r < xs.length) (hp : np xs[r] = false) : DelInv np xs ys q (r + 1) := by
  obtain ⟨h1, h2, h3, h4⟩ := h
  have e : (xs.take (r + 1)).filter np = (xs.take r).filter np := by
    rw [filter_take_succ _ _ _ hr, hp]
    simp
  exact ⟨h1, by rw [e]; exact h2, by rw [e]; exact h3, drop_next h4⟩

theorem del_end {α : Type} {np : α → Bool} {xs ys : List α} {q r : Nat} (h : DelInv np xs ys q r) (hr : xs.length ≤ r) : q = (xs.filter np).length ∧ ys.take q = xs.filter np := by
  obtain ⟨h1, h2, h3, h4⟩ := h
  rw [List.take_of_length_le hr] at h2 h3
  exact ⟨h2, h3⟩

/-- What idxOf says. -/
theorem idxOf_spec {α : Type} (p : α → Bool) : ∀ (xs : List α) (k : Nat),
    (idxOf p xs k = -1 ∧ ∀ x ∈ xs, p x = false) ∨
    ∃ j, ∃ h : j < xs.length, idxOf p xs k = ((k + j : Nat) : Int) ∧ p xs[j] = true ∧ ∀ x ∈ xs.take j, p x = false
  | [], _ => .inl ⟨rfl, by simp⟩
  | x :: xs, k => by
    by_cases h : p x = true
    · exact .inr ⟨0, by simp, by simp only [idxOf, if_pos h]; rfl, h, by simp⟩
    · simp only [idxOf, if_neg h]
      rcases idxOf_spec p xs (k + 1) with ⟨h1, h2⟩ | ⟨j, hj, h1, h2, h3⟩
      · exact .inl ⟨h1, by simpa [h] using h2⟩
      · exact .inr ⟨j + 1, by simp; omega, by rw [h1]; congr 1; omega, h2, by simpa [h] using h3⟩

end Go.Proofs.Ytojealgjfbjnoaa
namespace Go.Proofs.Ytojealgjfbjnoaa
open Go.ChangeShapes Go.WideShapes Go.ChangeAt Go.RowKit Go.Deep

structure SRowK {α : Type} (enc : α → List Value) (T : TypeId) (w0 w : World) (gb : Nat) (rest : List Value) (d : List α) : Prop where
  row : w.heap[gb]? = some (.cells (d.flatMap enc ++ rest).toArray T (0, 0))
  fr : Fr (fun k => k = gb) w0 w

namespace SRowK
variable {α : Type} {enc : α → List Value} {T : TypeId} {w0 w w' : World} {gb sz : Nat} {rest : List Value} {d : List α}
theorem lt (h : SRowK enc T w0 w gb rest d) : gb < w.heap.size := (Array.getElem?_eq_some_iff.1 h.row).1
theorem at_ (h : SRowK enc T w0 w gb rest d) (hl : ∀ x, (enc x).length = sz) {i : Nat} (hi : i < d.length) : ∀ j u, (enc d[i])[j]? = some u → w.cell? ((⟨gb, i * sz, none⟩ : Addr).add j) = some u := by
  intro j u hu
  have hj : j < sz := by rw [← hl d[i]]; exact (List.getElem?_eq_some_iff.1 hu).1
  have h2 : i * sz + j < (d.flatMap enc).length := by
    rw [flatMap_len (f := enc) (sz := sz) hl]
    have : (i + 1) * sz ≤ d.length * sz := Nat.mul_le_mul_right _ hi
    rw [Nat.add_mul, Nat.one_mul] at this
    omega
  rw [Addr.add_lit, cell_of_row _ gb _ _ _ (0, 0) h.row, List.getElem?_toArray, List.getElem?_append_left h2, flatMap_get (f := enc) (sz := sz) hl d i j hi hj, hu]
theorem next (h : SRowK enc T w0 w gb rest d) (hb : Below w.heap.size w w') : SRowK enc T w0 w' gb rest d := ⟨(hb.block gb h.lt).trans h.row, h.fr.then hb⟩
theorem drewN (h : SRowK enc T w0 w gb rest d) (n : Nat) : SRowK enc T w0 (w.drewN n) gb rest d := ⟨h.row, h.fr.drewN n⟩
theorem drew (h : SRowK enc T w0 w gb rest d) : SRowK enc T w0 w.drew gb rest d := ⟨h.row, h.fr.drew⟩
theorem trans {w1 w2 : World} {d' : List α} (h : SRowK enc T w0 w1 gb rest d) (k : SRowK enc T w1 w2 gb rest d') : SRowK enc T w0 w2 gb rest d' := ⟨k.row, h.fr.trans k.fr (fun _ hi => .inl hi)⟩
theorem self {w1 : World} (h : SRowK enc T w0 w1 gb rest d) : SRowK enc T w1 w1 gb rest d := ⟨h.row, Fr.refl _ _⟩
theorem set_ (h : SRowK enc T w0 w gb rest d) (hl : ∀ x, (enc x).length = sz) {i : Nat} (hi : i < d.length) (y : α) :
    SRowK enc T w0 (w.setRow gb (((d.flatMap enc ++ rest).toArray.toList.take (i * sz + 0) ++ enc y ++ (d.flatMap enc ++ rest).toArray.toList.drop (i * sz + 0 + (enc y).length)).toArray)) gb rest (d.set i y) := by
  refine ⟨?_, h.fr.trans (Fr.setRow (fun k => k = gb) w gb _ rfl) (fun _ hi => .inl hi)⟩
  rw [setRow_heap h.row]
  have := flatMap_set (f := enc) (sz := sz) hl d i y rest hi
  simp only [Nat.add_zero, hl]
  rw [← this]
end SRowK

theorem BW.cells {w : World} {p : Addr} {cs : List Value} (h : ∀ j u, cs[j]? = some u → w.cell? (p.add j) = some u) (b : BW w) : ∀ j u, cs[j]? = some u → b.w'.cell? (p.add j) = some u := fun j u hu => Below.cell_some b.h (h j u hu)

section
variable {P : Program} {T : TypeId} {size : Nat}
/-- A load of a whole element, the same in all worlds of the class. -/
theorem wpQuiet_load (A : AggOK P T size) {ops : Array Oper} {C : World → Prop} {Q : Act → Prop} {rest : List Oper} {o : Oper} {a : Act} (hg : Region.wanted o (yielded ops a.tmps) = true) (x : Operand) (ho : o.op = .load T x) (p : Addr) (hx : a.eval x = .pointer (some p))
    (cs : List Value) (hs : cs.length = size) (hc : ∀ w, C w → ∀ j u, cs[j]? = some u → w.cell? (p.add j) = some u) (h : wpQuiet P ops C Q rest (a.put o.dst (.agg cs.toArray))) : wpQuiet P ops C Q (o :: rest) a := by
  refine wpQuiet_step fun K hK => ?_
  rw [if_pos hg]
  refine ⟨.agg cs.toArray, fun w hw => ?_, hK _ h⟩
  unfold Oper.quietAt execOp
  simp only [ho, hx, Instr.loadAt, Instr.sureAddr, Sem.run_bind, Sem.run_pure, Result.andThen_ok, run_loadVar_at A w p cs hs (hc w hw)]
  exact ⟨rfl, rfl⟩
/-- A store of a whole element in its place. -/
theorem store_el (A : AggOK P T size) {α : Type} {enc : α → List Value} (hl : ∀ x, (enc x).length = size) (h1 : ∀ x, ∀ v ∈ enc x, v.oneCell' = true)
    {w0 w : World} {gb : Nat} {more : List Value} {d : List α} (hS : SRowK enc T w0 w gb more d) {i : Nat} (hi : i < d.length) (y : α) :
    ∃ W, (storeVar T ⟨gb, i * size, none⟩ (.agg (enc y).toArray)).run P w = .ok () W ∧ SRowK enc T w0 W gb more (d.set i y) := by
  obtain ⟨ti, _, hti, _, hsz, _⟩ := A.info
  have hlen : i * size + 0 + (enc y).length ≤ (d.flatMap enc ++ more).toArray.size := by
    have : (i + 1) * size ≤ d.length * size := Nat.mul_le_mul_right _ hi
    rw [Nat.add_mul, Nat.one_mul] at this
    simp only [List.size_toArray, List.length_append, flatMap_len (f := enc) (sz := size) hl, hl]
    omega
  have hst := run_storeCells_at P gb (i * size) T (enc y) 0 _ w hS.row hlen (h1 y)
  have hnew := hS.set_ hl hi y
  obtain ⟨W, hW⟩ : ∃ W, w.setRow gb (((d.flatMap enc ++ more).toArray.toList.take (i * size + 0) ++ enc y ++ (d.flatMap enc ++ more).toArray.toList.drop (i * size + 0 + (enc y).length)).toArray) = W := ⟨_, rfl⟩
  rw [hW] at hst hnew
  refine ⟨W, ?_, hnew⟩
  simp [storeVar, Sem.run_bind, sizeOf, typeInfo, hti, hsz, Value.cells, hl, hst]
theorem wpList_store_el (A : AggOK P T size) {α : Type} {enc : α → List Value} (hl : ∀ x, (enc x).length = size) (h1 : ∀ x, ∀ v ∈ enc x, v.oneCell' = true) {ops : Array Oper} {rest : List Oper} {o : Oper} {a : Act} {Q : Exit → Act → World → Prop} (hgd : o.guard = none) (p x : Operand) (ho : o.op = .store T p x) (hd : o.dst = none)
    {w0 w : World} {gb : Nat} {more : List Value} {d : List α} (hS : SRowK enc T w0 w gb more d) {i : Nat} (hi : i < d.length) (y : α) (hp : a.eval p = .pointer (some ⟨gb, i * size, none⟩)) (hx : a.eval x = .agg (enc y).toArray)
    (h : ∀ w', SRowK enc T w0 w' gb more (d.set i y) → wpList P ops Q rest a w') : wpList P ops Q (o :: rest) a w := by
  obtain ⟨W, hsv, hnew⟩ := store_el A hl h1 hS hi y
  refine wpList_plain hgd fun _ hK => ?_
  unfold Oper.wp execOp
  simp only [ho, hx, hp, Instr.storeAt, Instr.sureAddr, Sem.run_bind, Sem.run_pure, Result.andThen_ok, hsv]
  rw [Oper.upon_skip, hd]
  exact hK _ _ (h _ hnew)
end
end Go.Proofs.Ytojealgjfbjnoaa
