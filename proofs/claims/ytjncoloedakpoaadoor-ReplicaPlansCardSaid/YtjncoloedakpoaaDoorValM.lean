/- A row of four cells that is stored whole. No condition. || A row of elements of any kind that is sorted in place: loads and stores of whole elements. No condition; no program. || Regions that draw their order, of computing operations (whole elements loaded too) and a chain of others: one walk in the text's order. No condition; no program. -/
import Derived.Test.YtjncoloedakpoaaDoorFrame
import Derived.Test.YtjncoloedakpoaaDoorSortPlain
import Derived.Test.YtjncoloedakpoaaDoorVicOwnM
import Derived.Test.YtjncoloedakpoaaDoorHeadStatM
import Derived.Laws.CopyRow
import Derived.Test.YtjncoloedakpoaaDoorMixed2M
namespace Go.Proofs.YtjncoloedakpoaaDoor
open Go.ChangeShapes Go.WideShapes Go.ChangeAt Go.RowKit Go.Deep

end Go.Proofs.YtjncoloedakpoaaDoor
namespace Go.Proofs.YtjncoloedakpoaaDoor
open Go.ChangeShapes Go.WideShapes Go.ChangeAt Go.RowKit Go.Deep

structure SRowK {α : Type} (enc : α → List Value) (T : TypeId) (w0 w : World) (gb : Nat) (rest : List Value) (d : List α) : Prop where
  row : w.heap[gb]? = some (.cells (d.flatMap enc ++ rest).toArray T (0, 0))
  fr : Fr (fun k => k = gb) w0 w

namespace SRowK
variable {α : Type} {enc : α → List Value} {T : TypeId} {w0 w w' : World} {gb sz : Nat} {rest : List Value} {d : List α}
theorem lt (h : SRowK enc T w0 w gb rest d) : gb < w.heap.size := (Array.getElem?_eq_some_iff.1 h.row).1
theorem at_ (h : SRowK enc T w0 w gb rest d) (hl : ∀ x, (enc x).length = sz) {i : Nat} (hi : i < d.length) : ∀ j u, (enc d[i])[j]? = some u → w.cell? ((⟨gb, i * sz, none⟩ : Addr).add j) = some u := by
  intro j u hu
  have hj : j < sz := by rw [← hl d[i]]; exact (List.getElem?_eq_some_iff.1 hu).1
  have h2 : i * sz + j < (d.flatMap enc).length := by
    rw [flatMap_len (f := enc) (sz := sz) hl]
    have : (i + 1) * sz ≤ d.length * sz := Nat.mul_le_mul_right _ hi
    rw [Nat.add_mul, Nat.one_mul] at this
    omega
  rw [Addr.add_lit, cell_of_row _ gb _ _ _ (0, 0) h.row, List.getElem?_toArray, List.getElem?_append_left h2, flatMap_get (f := enc) (sz := sz) hl d i j hi hj, hu]
theorem next (h : SRowK enc T w0 w gb rest d) (hb : Below w.heap.size w w') : SRowK enc T w0 w' gb rest d := ⟨(hb.block gb h.lt).trans h.row, h.fr.then hb⟩
theorem drewN (h : SRowK enc T w0 w gb rest d) (n : Nat) : SRowK enc T w0 (w.drewN n) gb rest d := ⟨h.row, h.fr.drewN n⟩
theorem drew (h : SRowK enc T w0 w gb rest d) : SRowK enc T w0 w.drew gb rest d := ⟨h.row, h.fr.drew⟩
theorem trans {w1 w2 : World} {d' : List α} (h : SRowK enc T w0 w1 gb rest d) (k : SRowK enc T w1 w2 gb rest d') : SRowK enc T w0 w2 gb rest d' := ⟨k.row, h.fr.trans k.fr (fun _ hi => .inl hi)⟩
theorem self {w1 : World} (h : SRowK enc T w0 w1 gb rest d) : SRowK enc T w1 w1 gb rest d := ⟨h.row, Fr.refl _ _⟩
theorem set_ (h : SRowK enc T w0 w gb rest d) (hl : ∀ x, (enc x).length = sz) {i : Nat} (hi : i < d.length) (y : α) :
    SRowK enc T w0 (w.setRow gb (((d.flatMap enc ++ rest).toArray.toList.take (i * sz + 0) ++ enc y ++ (d.flatMap enc ++ rest).toArray.toList.drop (i * sz + 0 + (enc y).length)).toArray)) gb rest (d.set i y) := by
  refine ⟨?_, h.fr.trans (Fr.setRow (fun k => k = gb) w gb _ rfl) (fun _ hi => .inl hi)⟩
  rw [setRow_heap h.row]
  have := flatMap_set (f := enc) (sz := sz) hl d i y rest hi
  simp only [Nat.add_zero, hl]
  rw [← this]
end SRowK

theorem BW.cells {w : World} {p : Addr} {cs : List Value} (h : ∀ j u, cs[j]? = some u → w.cell? (p.add j) = some u) (b : BW w) : ∀ j u, cs[j]? = some u → b.w'.cell? (p.add j) = some u := fun j u hu => Below.cell_some b.h (h j u hu)

section
variable {P : Program} {T : TypeId} {size : Nat}
theorem wpQuiet_load (A : AggOK P T size) {ops : Array Oper} {C : World → Prop} {Q : Act → Prop} {rest : List Oper} {o : Oper} {a : Act} (hg : Region.wanted o (yielded ops a.tmps) = true) (x : Operand) (ho : o.op = .load T x) (p : Addr) (hx : a.eval x = .pointer (some p))
    (cs : List Value) (hs : cs.length = size) (hc : ∀ w, C w → ∀ j u, cs[j]? = some u → w.cell? (p.add j) = some u) (h : wpQuiet P ops C Q rest (a.put o.dst (.agg cs.toArray))) : wpQuiet P ops C Q (o :: rest) a := by
  refine wpQuiet_step fun K hK => ?_
  rw [if_pos hg]
  refine ⟨.agg cs.toArray, fun w hw => ?_, hK _ h⟩
  unfold Oper.quietAt execOp
  simp only [ho, hx, Instr.loadAt, Instr.sureAddr, Sem.run_bind, Sem.run_pure, Result.andThen_ok, run_loadVar_at A w p cs hs (hc w hw)]
  exact ⟨rfl, rfl⟩
theorem store_el (A : AggOK P T size) {α : Type} {enc : α → List Value} (hl : ∀ x, (enc x).length = size) (h1 : ∀ x, ∀ v ∈ enc x, v.oneCell' = true)
    {w0 w : World} {gb : Nat} {more : List Value} {d : List α} (hS : SRowK enc T w0 w gb more d) {i : Nat} (hi : i < d.length) (y : α) :
    ∃ W, (storeVar T ⟨gb, i * size, none⟩ (.agg (enc y).toArray)).run P w = .ok () W ∧ SRowK enc T w0 W gb more (d.set i y) := by
  obtain ⟨ti, _, hti, _, hsz, _⟩ := A.info
  have hlen : i * size + 0 + (enc y).length ≤ (d.flatMap enc ++ more).toArray.size := by
    have : (i + 1) * size ≤ d.length * size := Nat.mul_le_mul_right _ hi
    rw [Nat.add_mul, Nat.one_mul] at this
    simp only [List.size_toArray, List.length_append, flatMap_len (f := enc) (sz := size) hl, hl]
    omega
  have hst := run_storeCells_at P gb (i * size) T (enc y) 0 _ w hS.row hlen (h1 y)
  have hnew := hS.set_ hl hi y
  obtain ⟨W, hW⟩ : ∃ W, w.setRow gb (((d.flatMap enc ++ more).toArray.toList.take (i * size + 0) ++ enc y ++ (d.flatMap enc ++ more).toArray.toList.drop (i * size + 0 + (enc y).length)).toArray) = W := ⟨_, rfl⟩
  rw [hW] at hst hnew
  refine ⟨W, ?_, hnew⟩
  simp [storeVar, Sem.run_bind, sizeOf, typeInfo, hti, hsz, Value.cells, hl, hst]
end
end Go.Proofs.YtjncoloedakpoaaDoor
namespace Go.Proofs.YtjncoloedakpoaaDoor
open Go.ChangeShapes Go.WideShapes Go.ChangeAt Go.RowKit Go.Deep

section
variable {P : Program} {ops : Array Oper} {C : World → Prop}
def wpVal (P : Program) (ops : Array Oper) (C : World → Prop) (Q : Act → Prop) : List Oper → Act → Prop
  | [], a => Q a
  | o :: rest, a => ∃ v, (if Region.wanted o (yielded ops a.tmps) then ∀ w, (memOp o.op = true → C w) → (execOp a.eval o).run P w = .ok (.value v) w else v = undef) ∧ wpVal P ops C Q rest (a.put o.dst v)
theorem wpVal_one {Q : Act → Prop} {a : Act} {o : Oper} {rest : List Oper} (v : Value) (hg : o.guard = none) (h1 : ∀ w, (execOp a.eval o).run P w = .ok (.value v) w) (h : wpVal P ops C Q rest (a.put o.dst v)) : wpVal P ops C Q (o :: rest) a := by
  refine ⟨v, ?_, h⟩
  rw [if_pos (by simp [Region.wanted, hg])]
  exact fun w _ => h1 w
theorem wpVal_load {T : TypeId} {size : Nat} (A : AggOK P T size) {Q : Act → Prop} {a : Act} {o : Oper} {rest : List Oper} (hg : o.guard = none) (x : Operand) (ho : o.op = .load T x) (p : Addr) (hx : a.eval x = .pointer (some p))
    (cs : List Value) (hs : cs.length = size) (hc : ∀ w, C w → ∀ j u, cs[j]? = some u → w.cell? (p.add j) = some u) (h : wpVal P ops C Q rest (a.put o.dst (.agg cs.toArray))) : wpVal P ops C Q (o :: rest) a := by
  refine ⟨.agg cs.toArray, ?_, h⟩
  rw [if_pos (by simp [Region.wanted, hg])]
  intro w hw
  have hw := hw (by rw [ho]; rfl)
  unfold execOp
  simp only [ho, hx, Instr.loadAt, Instr.sureAddr, Sem.run_bind, Sem.run_pure, Result.andThen_ok, run_loadVar_at A w p cs hs (hc w hw)]

theorem wpVal_oneK {Q : Act → Prop} {a : Act} {o : Oper} {rest : List Oper} (hg : o.guard = none) (h : ∀ K : Act → Prop, (∀ a, wpVal P ops C Q rest a → K a) → ∃ v, (∀ w, (execOp a.eval o).run P w = .ok (.value v) w) ∧ K (a.put o.dst v)) : wpVal P ops C Q (o :: rest) a := by
  obtain ⟨v, h1, h2⟩ := h _ (fun _ h => h)
  exact wpVal_one v hg h1 h2
theorem wpVal_loadK {T : TypeId} {size : Nat} (A : AggOK P T size) {Q : Act → Prop} {a : Act} {o : Oper} {rest : List Oper} (hg : o.guard = none) (x : Operand) (ho : o.op = .load T x) (p : Addr) (hx : a.eval x = .pointer (some p))
    (cs : List Value) (hs : cs.length = size) (hc : ∀ w, C w → ∀ j u, cs[j]? = some u → w.cell? (p.add j) = some u) (h : ∀ K : Act → Prop, (∀ a, wpVal P ops C Q rest a → K a) → K (a.put o.dst (.agg cs.toArray))) : wpVal P ops C Q (o :: rest) a :=
  wpVal_load A hg x ho p hx cs hs hc (h _ (fun _ h => h))
theorem wpVal_vals {Q : Act → Prop} : ∀ (l : List Oper) (a : Act) (N : Nat), a.tmps.size = N → (∀ o ∈ l, ∀ d, o.dst = some d → d < N) → wpVal P ops C Q l a → lateB ops l = true →
    ∃ A, Q A ∧ A.tmps.size = N ∧ A.defers = a.defers ∧ (∀ s, s ∉ dstsOf l → A.tmps[s]? = a.tmps[s]?) ∧ ∀ o ∈ l, ∃ d v, o.dst = some d ∧ A.tmps[d]? = some v ∧ YieldsC P ops C o v A
  | [], a, N, hN, _, h, _ => ⟨a, h, hN, rfl, fun _ _ => rfl, fun o ho => by cases ho⟩
  | o :: r, a, N, hN, hdN, h, hL => by
    obtain ⟨v, hy, h⟩ := h
    unfold lateB at hL
    cases hd : o.dst with
    | none => rw [hd] at hL; simp at hL
    | some d =>
      rw [hd] at hL h
      simp only [Bool.and_eq_true, Bool.not_eq_true', List.all_eq_true] at hL
      obtain ⟨hsel, ⟨hl1, hl2⟩, hL2⟩ := hL
      have hdn := hdN o (List.mem_cons_self ..) d hd
      obtain ⟨A, i1, i2, i3, i4, i5⟩ := wpVal_vals r (a.put (some d) v) N (by simp [Act.put, hN]) (fun o ho => hdN o (List.mem_cons_of_mem _ ho)) h hL2
      have hin : ∀ (l : List Nat) (t : Nat), memN l t = false → t ∉ l := fun l t h hh => by rw [memN_of hh] at h; cases h
      have hput : ∀ s, s ≠ d → (a.put (some d) v).tmps[s]? = a.tmps[s]? := fun s hs => by
        simp only [Act.put]
        rw [Array.getElem?_setIfInBounds, if_neg (fun e => hs e.symm)]
      have hy : YieldsC P ops C o v a := hy
      refine ⟨A, i1, i2, by rw [i3]; rfl, fun s hs => ?_, fun o' ho' => ?_⟩
      · unfold dstsOf at hs
        rw [List.filterMap_cons, hd] at hs
        simp only [List.mem_cons, not_or] at hs
        rw [i4 s hs.2, hput s hs.1]
      · rcases List.mem_cons.1 ho' with rfl | ho'
        · refine ⟨d, v, hd, ?_, hy.of_same hsel fun t ht => ?_⟩
          · rw [i4 d (hin _ _ hl2)]
            simp only [Act.put]
            rw [Array.getElem?_setIfInBounds, if_pos rfl, if_pos (by rw [hN]; exact hdn)]
          · have h1 : t ∉ dstsOf r := fun hh => hin _ _ (hl1 t (by simp [hh])) ht
            have h2 : t ≠ d := fun hh => hin _ _ (hl1 d (by simp)) (hh ▸ ht)
            rw [i4 t h1, hput t h2]
        · exact i5 o' ho'

def dstLt (N : Nat) (l : List Oper) : Bool := l.all fun o => match o.dst with | some d => Nat.blt d N | none => true
theorem wpLoud_store_el {b : Nat} {R : Act → World → Prop} {T : TypeId} {size : Nat} (A : AggOK P T size) {α : Type} {enc : α → List Value} (hl : ∀ x, (enc x).length = size) (h1 : ∀ x, ∀ v ∈ enc x, v.oneCell' = true) {j : Nat} {r : List Nat} {a : Act} {w : World} {l : List Oper} {o : Oper} (ho : nthOp j l = some o) (hg : o.guard = none)
    (p x : Operand) (hop : o.op = .store T p x) (hd : o.dst = none) {w0 : World} {gb : Nat} {more : List Value} {d : List α} (hS : SRowK enc T w0 w gb more d) {i : Nat} (hi : i < d.length) (y : α) (hp : a.eval p = .pointer (some ⟨gb, i * size, none⟩)) (hx : a.eval x = .agg (enc y).toArray)
    (h : ∀ w', SRowK enc T w0 w' gb more (d.set i y) → (j < b → C w') ∧ wpLoud P l.toArray C b R r a w') : wpLoud P l.toArray C b R (j :: r) a w := by
  obtain ⟨W, hsv, hnew⟩ := store_el A hl h1 hS hi y
  refine wpLoud_one (nthOp_spec ho) hg ?_
  unfold execOp
  simp only [hop, hx, hp, Instr.storeAt, Instr.sureAddr, Sem.run_bind, Sem.run_pure, Result.andThen_ok, hsv]
  rw [hd]
  exact h W hnew
end
end Go.Proofs.YtjncoloedakpoaaDoor
