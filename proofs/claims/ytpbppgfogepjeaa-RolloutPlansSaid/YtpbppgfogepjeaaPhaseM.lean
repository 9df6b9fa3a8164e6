/- A row of four cells that is stored whole. No condition. || A row of elements of any kind that is sorted in place: loads and stores of whole elements. No condition; no program. || Regions that draw their order, of computing operations (whole elements loaded too) and a chain of others: one walk in the text's order. No condition; no program. || Regions that draw their order, phase by phase: in each phase the computing operations are walked in the text's order, then a chain of others; a phase is over when all of it is done. No condition; no program. -/
import Derived.Test.YtpbppgfogepjeaaRolEqM
import Derived.Test.YtpbppgfogepjeaaSortPlain
import Derived.Test.YtpbppgfogepjeaaRolEq0M
import Derived.Test.YtpbppgfogepjeaaHeadStatM
import Derived.Laws.CopyRow
import Derived.Test.YtpbppgfogepjeaaMixed2M
namespace Go.Proofs.Ytpbppgfogepjeaa
open Go.ChangeShapes Go.WideShapes Go.ChangeAt Go.RowKit Go.Deep

theorem row_setCell {w : World} {b i : Nat} {cs : Array Value} {t : TypeId} {fr : Nat × Nat} (h : w.heap[b]? = some (.cells cs t fr)) (v : Value) : (w.setCell ⟨b, i, none⟩ v).heap[b]? = some (.cells (cs.setIfInBounds i v) t fr) := by
  simp [World.setCell, Array.getElem?_modify, h]

theorem row_free {w : World} {b : Nat} {t : TypeId} {cs : Array Value} (h : w.heap[b]? = some (.cells cs t (0, 0))) (j : Nat) : w.frozen? ⟨b, j, none⟩ = false := by simp [World.frozen?, h]

end Go.Proofs.Ytpbppgfogepjeaa
namespace Go.Proofs.Ytpbppgfogepjeaa
open Go.ChangeShapes Go.WideShapes Go.ChangeAt Go.RowKit Go.Deep

structure SRowK {α : Type} (enc : α → List Value) (T : TypeId) (w0 w : World) (gb : Nat) (rest : List Value) (d : List α) : Prop where
  row : w.heap[gb]? = some (.cells (d.flatMap enc ++ rest).toArray T (0, 0))
  fr : Fr (fun k => k = gb) w0 w

namespace SRowK
variable {α : Type} {enc : α → List Value} {T : TypeId} {w0 w w' : World} {gb sz : Nat} {rest : List Value} {d : List α}
theorem lt (h : SRowK enc T w0 w gb rest d) : gb < w.heap.size := (Array.getElem?_eq_some_iff.1 h.row).1
theorem at_ (h : SRowK enc T w0 w gb rest d) (hl : ∀ x, (enc x).length = sz) {i : Nat} (hi : i < d.length) : ∀ j u, (enc d[i])[j]? = some u → w.cell? ((⟨gb, i * sz, none⟩ : Addr).add j) = some u := by
  intro j u hu
  have hj : j < sz := by rw [← hl d[i]]; exact (List.getElem?_eq_some_iff.1 hu).1
  have h2 : i * sz + j < (d.flatMap enc).length := by
    rw [flatMap_len (f := enc) (sz := sz) hl]
    have : (i + 1) * sz ≤ d.length * sz := Nat.mul_le_mul_right _ hi
    rw [Nat.add_mul, Nat.one_mul] at this
    omega
  rw [Addr.add_lit, cell_of_row _ gb _ _ _ (0, 0) h.row, List.getElem?_toArray, List.getElem?_append_left h2, flatMap_get (f := enc) (sz := sz) hl d i j hi hj, hu]
theorem next (h : SRowK enc T w0 w gb rest d) (hb : Below w.heap.size w w') : SRowK enc T w0 w' gb rest d := ⟨(hb.block gb h.lt).trans h.row, h.fr.then hb⟩
theorem drewN (h : SRowK enc T w0 w gb rest d) (n : Nat) : SRowK enc T w0 (w.drewN n) gb rest d := ⟨h.row, h.fr.drewN n⟩
theorem drew (h : SRowK enc T w0 w gb rest d) : SRowK enc T w0 w.drew gb rest d := ⟨h.row, h.fr.drew⟩
theorem trans {w1 w2 : World} {d' : List α} (h : SRowK enc T w0 w1 gb rest d) (k : SRowK enc T w1 w2 gb rest d') : SRowK enc T w0 w2 gb rest d' := ⟨k.row, h.fr.trans k.fr (fun _ hi => .inl hi)⟩
theorem self {w1 : World} (h : SRowK enc T w0 w1 gb rest d) : SRowK enc T w1 w1 gb rest d := ⟨h.row, Fr.refl _ _⟩
theorem set_ (h : SRowK enc T w0 w gb rest d) (hl : ∀ x, (enc x).length = sz) {i : Nat} (hi : i < d.length) (y : α) :
    SRowK enc T w0 (w.setRow gb (((d.flatMap enc ++ rest).toArray.toList.take (i * sz + 0) ++ enc y ++ (d.flatMap enc ++ rest).toArray.toList.drop (i * sz + 0 + (enc y).length)).toArray)) gb rest (d.set i y) := by
  refine ⟨?_, h.fr.trans (Fr.setRow (fun k => k = gb) w gb _ rfl) (fun _ hi => .inl hi)⟩
  rw [setRow_heap h.row]
  have := flatMap_set (f := enc) (sz := sz) hl d i y rest hi
  simp only [Nat.add_zero, hl]
  rw [← this]
end SRowK

theorem BW.cells {w : World} {p : Addr} {cs : List Value} (h : ∀ j u, cs[j]? = some u → w.cell? (p.add j) = some u) (b : BW w) : ∀ j u, cs[j]? = some u → b.w'.cell? (p.add j) = some u := fun j u hu => Below.cell_some b.h (h j u hu)

section
variable {P : Program} {T : TypeId} {size : Nat}
theorem wpQuiet_load (A : AggOK P T size) {ops : Array Oper} {C : World → Prop} {Q : Act → Prop} {rest : List Oper} {o : Oper} {a : Act} (hg : Region.wanted o (yielded ops a.tmps) = true) (x : Operand) (ho : o.op = .load T x) (p : Addr) (hx : a.eval x = .pointer (some p))
    (cs : List Value) (hs : cs.length = size) (hc : ∀ w, C w → ∀ j u, cs[j]? = some u → w.cell? (p.add j) = some u) (h : wpQuiet P ops C Q rest (a.put o.dst (.agg cs.toArray))) : wpQuiet P ops C Q (o :: rest) a := by
  refine wpQuiet_step fun K hK => ?_
  rw [if_pos hg]
  refine ⟨.agg cs.toArray, fun w hw => ?_, hK _ h⟩
  unfold Oper.quietAt execOp
  simp only [ho, hx, Instr.loadAt, Instr.sureAddr, Sem.run_bind, Sem.run_pure, Result.andThen_ok, run_loadVar_at A w p cs hs (hc w hw)]
  exact ⟨rfl, rfl⟩
theorem store_el (A : AggOK P T size) {α : Type} {enc : α → List Value} (hl : ∀ x, (enc x).length = size) (h1 : ∀ x, ∀ v ∈ enc x, v.oneCell' = true)
    {w0 w : World} {gb : Nat} {more : List Value} {d : List α} (hS : SRowK enc T w0 w gb more d) {i : Nat} (hi : i < d.length) (y : α) :
    ∃ W, (storeVar T ⟨gb, i * size, none⟩ (.agg (enc y).toArray)).run P w = .ok () W ∧ SRowK enc T w0 W gb more (d.set i y) := by
  obtain ⟨ti, _, hti, _, hsz, _⟩ := A.info
  have hlen : i * size + 0 + (enc y).length ≤ (d.flatMap enc ++ more).toArray.size := by
    have : (i + 1) * size ≤ d.length * size := Nat.mul_le_mul_right _ hi
    rw [Nat.add_mul, Nat.one_mul] at this
    simp only [List.size_toArray, List.length_append, flatMap_len (f := enc) (sz := size) hl, hl]
    omega
  have hst := run_storeCells_at P gb (i * size) T (enc y) 0 _ w hS.row hlen (h1 y)
  have hnew := hS.set_ hl hi y
  obtain ⟨W, hW⟩ : ∃ W, w.setRow gb (((d.flatMap enc ++ more).toArray.toList.take (i * size + 0) ++ enc y ++ (d.flatMap enc ++ more).toArray.toList.drop (i * size + 0 + (enc y).length)).toArray) = W := ⟨_, rfl⟩
  rw [hW] at hst hnew
  refine ⟨W, ?_, hnew⟩
  simp [storeVar, Sem.run_bind, sizeOf, typeInfo, hti, hsz, Value.cells, hl, hst]
end
end Go.Proofs.Ytpbppgfogepjeaa
namespace Go.Proofs.Ytpbppgfogepjeaa
open Go.ChangeShapes Go.WideShapes Go.ChangeAt Go.RowKit Go.Deep

section
variable {P : Program} {ops : Array Oper} {C : World → Prop}
def wpVal (P : Program) (ops : Array Oper) (C : World → Prop) (Q : Act → Prop) : List Oper → Act → Prop
  | [], a => Q a
  | o :: rest, a => ∃ v, (if Region.wanted o (yielded ops a.tmps) then ∀ w, (memOp o.op = true → C w) → (execOp a.eval o).run P w = .ok (.value v) w else v = undef) ∧ wpVal P ops C Q rest (a.put o.dst v)
theorem wpVal_one {Q : Act → Prop} {a : Act} {o : Oper} {rest : List Oper} (v : Value) (hg : o.guard = none) (h1 : ∀ w, (execOp a.eval o).run P w = .ok (.value v) w) (h : wpVal P ops C Q rest (a.put o.dst v)) : wpVal P ops C Q (o :: rest) a := by
  refine ⟨v, ?_, h⟩
  rw [if_pos (by simp [Region.wanted, hg])]
  exact fun w _ => h1 w
theorem wpVal_load {T : TypeId} {size : Nat} (A : AggOK P T size) {Q : Act → Prop} {a : Act} {o : Oper} {rest : List Oper} (hg : o.guard = none) (x : Operand) (ho : o.op = .load T x) (p : Addr) (hx : a.eval x = .pointer (some p))
    (cs : List Value) (hs : cs.length = size) (hc : ∀ w, C w → ∀ j u, cs[j]? = some u → w.cell? (p.add j) = some u) (h : wpVal P ops C Q rest (a.put o.dst (.agg cs.toArray))) : wpVal P ops C Q (o :: rest) a := by
  refine ⟨.agg cs.toArray, ?_, h⟩
  rw [if_pos (by simp [Region.wanted, hg])]
  intro w hw
  have hw := hw (by rw [ho]; rfl)
  unfold execOp
  simp only [ho, hx, Instr.loadAt, Instr.sureAddr, Sem.run_bind, Sem.run_pure, Result.andThen_ok, run_loadVar_at A w p cs hs (hc w hw)]

theorem wpVal_oneK {Q : Act → Prop} {a : Act} {o : Oper} {rest : List Oper} (hg : o.guard = none) (h : ∀ K : Act → Prop, (∀ a, wpVal P ops C Q rest a → K a) → ∃ v, (∀ w, (execOp a.eval o).run P w = .ok (.value v) w) ∧ K (a.put o.dst v)) : wpVal P ops C Q (o :: rest) a := by
  obtain ⟨v, h1, h2⟩ := h _ (fun _ h => h)
  exact wpVal_one v hg h1 h2
theorem wpVal_loadK {T : TypeId} {size : Nat} (A : AggOK P T size) {Q : Act → Prop} {a : Act} {o : Oper} {rest : List Oper} (hg : o.guard = none) (x : Operand) (ho : o.op = .load T x) (p : Addr) (hx : a.eval x = .pointer (some p))
    (cs : List Value) (hs : cs.length = size) (hc : ∀ w, C w → ∀ j u, cs[j]? = some u → w.cell? (p.add j) = some u) (h : ∀ K : Act → Prop, (∀ a, wpVal P ops C Q rest a → K a) → K (a.put o.dst (.agg cs.toArray))) : wpVal P ops C Q (o :: rest) a :=
  wpVal_load A hg x ho p hx cs hs hc (h _ (fun _ h => h))
theorem wpVal_vals {Q : Act → Prop} : ∀ (l : List Oper) (a : Act) (N : Nat), a.tmps.size = N → (∀ o ∈ l, ∀ d, o.dst = some d → d < N) → wpVal P ops C Q l a → lateB ops l = true →
    ∃ A, Q A ∧ A.tmps.size = N ∧ A.defers = a.defers ∧ (∀ s, s ∉ dstsOf l → A.tmps[s]? = a.tmps[s]?) ∧ ∀ o ∈ l, ∃ d v, o.dst = some d ∧ A.tmps[d]? = some v ∧ YieldsC P ops C o v A
  | [], a, N, hN, _, h, _ => ⟨a, h, hN, rfl, fun _ _ => rfl, fun o ho => by cases ho⟩
  | o :: r, a, N, hN, hdN, h, hL => by
    obtain ⟨v, hy, h⟩ := h
    unfold lateB at hL
    cases hd : o.dst with
    | none => rw [hd] at hL; simp at hL
    | some d =>
      rw [hd] at hL h
      simp only [Bool.and_eq_true, Bool.not_eq_true', List.all_eq_true] at hL
      obtain ⟨hsel, ⟨hl1, hl2⟩, hL2⟩ := hL
      have hdn := hdN o (List.mem_cons_self ..) d hd
      obtain ⟨A, i1, i2, i3, i4, i5⟩ := wpVal_vals r (a.put (some d) v) N (by simp [Act.put, hN]) (fun o ho => hdN o (List.mem_cons_of_mem _ ho)) h hL2
      have hin : ∀ (l : List Nat) (t : Nat), memN l t = false → t ∉ l := fun l t h hh => by rw [memN_of hh] at h; cases h
      have hput : ∀ s, s ≠ d → (a.put (some d) v).tmps[s]? = a.tmps[s]? := fun s hs => by
        simp only [Act.put]
        rw [Array.getElem?_setIfInBounds, if_neg (fun e => hs e.symm)]
      have hy : YieldsC P ops C o v a := hy
      refine ⟨A, i1, i2, by rw [i3]; rfl, fun s hs => ?_, fun o' ho' => ?_⟩
      · unfold dstsOf at hs
        rw [List.filterMap_cons, hd] at hs
        simp only [List.mem_cons, not_or] at hs
        rw [i4 s hs.2, hput s hs.1]
      · rcases List.mem_cons.1 ho' with rfl | ho'
        · refine ⟨d, v, hd, ?_, hy.of_same hsel fun t ht => ?_⟩
          · rw [i4 d (hin _ _ hl2)]
            simp only [Act.put]
            rw [Array.getElem?_setIfInBounds, if_pos rfl, if_pos (by rw [hN]; exact hdn)]
          · have h1 : t ∉ dstsOf r := fun hh => hin _ _ (hl1 t (by simp [hh])) ht
            have h2 : t ≠ d := fun hh => hin _ _ (hl1 d (by simp)) (hh ▸ ht)
            rw [i4 t h1, hput t h2]
        · exact i5 o' ho'

def dstLt (N : Nat) (l : List Oper) : Bool := l.all fun o => match o.dst with | some d => Nat.blt d N | none => true
theorem wpLoud_store_el {b : Nat} {R : Act → World → Prop} {T : TypeId} {size : Nat} (A : AggOK P T size) {α : Type} {enc : α → List Value} (hl : ∀ x, (enc x).length = size) (h1 : ∀ x, ∀ v ∈ enc x, v.oneCell' = true) {j : Nat} {r : List Nat} {a : Act} {w : World} {l : List Oper} {o : Oper} (ho : nthOp j l = some o) (hg : o.guard = none)
    (p x : Operand) (hop : o.op = .store T p x) (hd : o.dst = none) {w0 : World} {gb : Nat} {more : List Value} {d : List α} (hS : SRowK enc T w0 w gb more d) {i : Nat} (hi : i < d.length) (y : α) (hp : a.eval p = .pointer (some ⟨gb, i * size, none⟩)) (hx : a.eval x = .agg (enc y).toArray)
    (h : ∀ w', SRowK enc T w0 w' gb more (d.set i y) → (j < b → C w') ∧ wpLoud P l.toArray C b R r a w') : wpLoud P l.toArray C b R (j :: r) a w := by
  obtain ⟨W, hsv, hnew⟩ := store_el A hl h1 hS hi y
  refine wpLoud_one (nthOp_spec ho) hg ?_
  unfold execOp
  simp only [hop, hx, hp, Instr.storeAt, Instr.sureAddr, Sem.run_bind, Sem.run_pure, Result.andThen_ok, hsv]
  rw [hd]
  exact h W hnew
end
end Go.Proofs.Ytpbppgfogepjeaa
namespace Go.Proofs.Ytpbppgfogepjeaa
open Go.ChangeShapes Go.WideShapes Go.ChangeAt Go.RowKit Go.Deep

variable {P : Program} {ops : Array Oper} {ls : List Nat} {lo hi : Nat}

def inR (lo hi i : Nat) : Bool := Nat.ble lo i && Nat.blt i hi
theorem inR_iff {i : Nat} : inR lo hi i = true ↔ lo ≤ i ∧ i < hi := by
  unfold inR
  rw [Bool.and_eq_true, Nat.ble_eq, Nat.blt_eq]

structure PhOk (ops : Array Oper) (ls : List Nat) (b lo hi : Nat) : Prop where
  ord : ∀ (i : Nat) (o : Oper), ops[i]? = some o → ∀ e ∈ o.after, Region.binds .any e = true → e.on < i
  sel : ∀ (i : Nat) (o : Oper), ops[i]? = some o → inR lo hi i = true → isSel o.op = false
  dep : ∀ (i j : Nat) (oi oj : Oper) (t : Nat), ops[i]? = some oi → ops[j]? = some oj → inR lo hi i = true → inR lo hi j = true → oj.dst = some t → t ∈ oi.looksAt ops → (memN ls j = false → ∃ e ∈ oi.after, Region.binds .any e = true ∧ e.on = j) ∧ (memN ls i = false → memN ls j = true → ∃ f, reachB ops f j i = true)
  uniq : ∀ (i j : Nat) (oi oj : Oper) (t : Nat), ops[i]? = some oi → ops[j]? = some oj → inR lo hi i = true → inR lo hi j = true → oi.dst = some t → oj.dst = some t → i = j
  chain : ∀ (i j : Nat) (oi oj : Oper), i < j → ops[i]? = some oi → ops[j]? = some oj → inR lo hi i = true → inR lo hi j = true → memN ls i = true → memN ls j = true → ∃ f, reachB ops f j i = true
  read : ∀ (i j : Nat) (oi oj : Oper), ops[i]? = some oi → ops[j]? = some oj → inR lo hi i = true → inR lo hi j = true → memN ls i = false → memOp oi.op = true → memN ls j = true → b ≤ j → ∃ f, reachB ops f j i = true
  dsts : ∀ (i : Nat) (o : Oper), ops[i]? = some o → inR lo hi i = true → memN ls i = false → ∃ d, o.dst = some d
  late : ∀ (t i : Nat), hi ≤ t → t < ops.size → inR lo hi i = true → i < ops.size → ∃ f, reachB ops f t i = true

structure PMid (P : Program) (ops : Array Oper) (ls : List Nat) (C : World → Prop) (b lo hi : Nat) (R : Act → World → Prop) (V : Nat → Value) (D : Array Bool) (a A : Act) (w : World) (r : List Nat) : Prop where
  size : D.size = ops.size
  down : ∀ (i : Nat) (o : Oper), ops[i]? = some o → D.getD i false = true → ∀ e ∈ o.after, Region.binds .any e = true → D.getD e.on false = true
  low : ∀ i, i < ops.size → i < lo → D.getD i false = true
  high : ∀ i, hi ≤ i → D.getD i false = false
  sorted : r.Pairwise (· < ·)
  rem : ∀ j, j ∈ r ↔ ∃ o : Oper, ops[j]? = some o ∧ inR lo hi j = true ∧ memN ls j = true ∧ D.getD j false = false
  fsize : a.tmps.size = A.tmps.size
  defers : a.defers = A.defers
  fr : ∀ s, (∀ (i : Nat) (o : Oper), ops[i]? = some o → inR lo hi i = true → memN ls i = false → o.dst = some s → D.getD i false = true) → a.tmps[s]? = A.tmps[s]?
  val : ∀ (i : Nat) (o : Oper), ops[i]? = some o → inR lo hi i = true → memN ls i = false → D.getD i false = false → ∃ d, o.dst = some d ∧ A.tmps[d]? = some (V i) ∧ YieldsC P ops C o (V i) A
  cw : (∃ (i : Nat) (o : Oper), ops[i]? = some o ∧ inR lo hi i = true ∧ memN ls i = false ∧ memOp o.op = true ∧ D.getD i false = false) → C w
  wl : wpLoud P ops C b R r A w

theorem countP_one {p q : Nat → Bool} {i : Nat} (hp : p i = false) (hq : q i = true) (h : ∀ k, k ≠ i → p k = q k) : ∀ {l : List Nat}, l.Nodup → i ∈ l → l.countP q = l.countP p + 1
  | [], _, hi => by cases hi
  | x :: l, hn, hi => by
    obtain ⟨hx, hn⟩ := List.nodup_cons.1 hn
    rw [List.countP_cons, List.countP_cons]
    rcases List.mem_cons.1 hi with rfl | hi
    · rw [hp, hq]
      have : l.countP q = l.countP p := List.countP_congr fun k hk => by rw [h k (fun e => hx (e ▸ hk))]
      simp [this]
    · have := countP_one hp hq h hn hi
      have hxi : x ≠ i := fun e => hx (e ▸ hi)
      rw [h x hxi, this]
      omega

theorem pmid_any {C : World → Prop} {b : Nat} {R : Act → World → Prop} {V : Nat → Value} (M : PhOk ops ls b lo hi) {Q : Exit → Act → World → Prop}
    (hR : ∀ D a w, D.size = ops.size → (∀ i, i < ops.size → D.getD i false = decide (i < hi)) → R a w → wpAny P .any ops Q (ops.size - hi) D a w) :
    ∀ (f : Nat) (D : Array Bool) (a A : Act) (w : World) (r : List Nat), PMid P ops ls C b lo hi R V D a A w r → (List.range ops.size).countP (fun i => inR lo hi i && !D.getD i false) = f → wpAny P .any ops Q (f + (ops.size - hi)) D a w := by
  intro f
  induction f with
  | zero =>
    intro D a A w r I hc
    have hall : ∀ i, i < ops.size → inR lo hi i = true → D.getD i false = true := fun i hi' hin => by
      have := List.countP_eq_zero.1 hc i (List.mem_range.2 hi')
      simp only [hin, Bool.true_and, Bool.not_eq_true'] at this
      simpa using this
    have hr : r = [] := by
      refine List.eq_nil_iff_forall_not_mem.2 fun j hj => ?_
      obtain ⟨o, ho, h1, _, hd⟩ := (I.rem j).1 hj
      rw [hall j (Array.getElem?_eq_some_iff.1 ho).1 h1] at hd
      cases hd
    have hw := I.wl
    rw [hr] at hw
    have e : a = A := by
      obtain ⟨t1, d1⟩ := a
      obtain ⟨t2, d2⟩ := A
      have h1 := I.defers
      dsimp only at h1
      subst h1
      congr 1
      apply Array.ext_getElem?
      intro s
      exact I.fr s fun i o ho hin _ _ => hall i (Array.getElem?_eq_some_iff.1 ho).1 hin
    rw [Nat.zero_add]
    refine hR D a w I.size (fun i hi' => ?_) (e ▸ hw)
    by_cases h1 : i < lo
    · by_cases h2 : i < hi
      · rw [I.low i hi' h1, decide_eq_true h2]
      · have := I.low i hi' h1
        rw [I.high i (by omega)] at this
        cases this
    · by_cases h2 : i < hi
      · rw [hall i hi' (inR_iff.2 ⟨by omega, h2⟩), decide_eq_true h2]
      · rw [I.high i (by omega), decide_eq_false h2]
  | succ f ih =>
    intro D a A w r I hc
    obtain ⟨u, hu1, hu2, hu3⟩ : ∃ u, u < ops.size ∧ inR lo hi u = true ∧ D.getD u false = false := by
      have : 0 < (List.range ops.size).countP (fun i => inR lo hi i && !D.getD i false) := by omega
      obtain ⟨u, h1, h2⟩ := List.countP_pos_iff.1 this
      simp only [Bool.and_eq_true, Bool.not_eq_true'] at h2
      exact ⟨u, List.mem_range.1 h1, h2.1, h2.2⟩
    rw [show f + 1 + (ops.size - hi) = f + (ops.size - hi) + 1 by omega]
    refine ⟨fun h0 => ?_, fun i hi' => ?_⟩
    · have := head_full I.size M.ord h0 u hu1
      rw [hu3] at this
      cases this
    obtain ⟨h1, o, ho, hafter⟩ := mem_ready.1 hi'
    have hDi : D.getD i false = false := getD_both h1
    have hlt := (Array.getElem?_eq_some_iff.1 ho).1
    have hltD : i < D.size := by rw [I.size]; exact hlt
    have hgo : ∀ g j, reachB ops g i j = true → D.getD j false = true := fun g j hg => reach_down (D := fun k => D.getD k false = true) I.down g i j hg (fun o' ho' e he hb => by rw [ho] at ho'; cases ho'; exact hafter e he hb)
    have hin : inR lo hi i = true := by
      refine inR_iff.2 ⟨?_, ?_⟩
      · rcases Nat.lt_or_ge i lo with h | h
        · have := I.low i hlt h
          rw [hDi] at this
          cases this
        · exact h
      · rcases Nat.lt_or_ge i hi with h | h
        · exact h
        · obtain ⟨g, hg⟩ := M.late i u h hlt hu2 hu1
          have := hgo g u hg
          rw [hu3] at this
          cases this
    have hcount : (List.range ops.size).countP (fun k => inR lo hi k && !(D.setIfInBounds i true).getD k false) = f := by
      have := countP_one (i := i) (p := fun k => inR lo hi k && !(D.setIfInBounds i true).getD k false) (q := fun k => inR lo hi k && !D.getD k false) (by rw [getD_put hltD, if_pos rfl]; simp) (by rw [hin, hDi]; rfl)
        (fun k hk => by rw [getD_put hltD, if_neg (fun e => hk e.symm)]) List.nodup_range (List.mem_range.2 hlt)
      omega
    have hdown2 : ∀ (k : Nat) (ok : Oper), ops[k]? = some ok → (D.setIfInBounds i true).getD k false = true → ∀ e ∈ ok.after, Region.binds .any e = true → (D.setIfInBounds i true).getD e.on false = true := by
      intro k ok hok hk e he hb
      rw [getD_put hltD] at hk ⊢
      by_cases ek : i = k
      · subst ek
        rw [ho] at hok
        cases hok
        rw [hafter e he hb]
        split <;> rfl
      · rw [if_neg ek] at hk
        rw [I.down k ok hok hk e he hb]
        split <;> rfl
    have hlow2 : ∀ k, k < ops.size → k < lo → (D.setIfInBounds i true).getD k false = true := fun k k1 k2 => by
      rw [getD_put hltD, I.low k k1 k2]
      split <;> rfl
    have hhigh2 : ∀ k, hi ≤ k → (D.setIfInBounds i true).getD k false = false := fun k k1 => by
      rw [getD_put hltD, if_neg (fun e => by have := (inR_iff.1 hin).2; omega), I.high k k1]
    have hlooks : ∀ t ∈ o.looksAt ops, a.tmps[t]? = A.tmps[t]? := by
      intro t ht
      refine I.fr t fun k ok hok hink hqk hdk => ?_
      obtain ⟨e, he, hb, hk⟩ := (M.dep i k o ok t ho hok hin hink hdk ht).1 hqk
      rw [← hk]
      exact hafter e he hb
    obtain ⟨hev, hwt⟩ := looks_eval (M.sel i o ho hin) hlooks
    unfold wpOp
    simp only [ho]
    have hunl : ∀ k, (D.setIfInBounds i true).getD k false = false → i ≠ k ∧ D.getD k false = false := fun k hk => by
      rw [getD_put hltD] at hk
      split at hk
      · cases hk
      · rename_i hne
        exact ⟨hne, hk⟩
    cases hq : memN ls i with
    | false =>
      obtain ⟨d, hd, hAd, hy⟩ := I.val i o ho hin hq hDi
      have hnext : wpAny P .any ops Q (f + (ops.size - hi)) (D.setIfInBounds i true) (a.put o.dst (V i)) w := by
        refine ih _ _ A w r ⟨by simp [I.size], hdown2, hlow2, hhigh2, I.sorted, fun j => ?_, ?_, ?_, fun s hs => ?_, fun k ok hok hink hqk hDk => I.val k ok hok hink hqk (hunl k hDk).2, fun ⟨k, ok, k1, k2, k3, k4, k5⟩ => I.cw ⟨k, ok, k1, k2, k3, k4, (hunl k k5).2⟩, I.wl⟩ hcount
        · rw [I.rem j]
          constructor
          · rintro ⟨oj, h1, h2, h3, h4⟩
            refine ⟨oj, h1, h2, h3, ?_⟩
            rw [getD_put hltD, if_neg (fun e => ?_)]
            · exact h4
            · subst e
              rw [hq] at h3
              cases h3
          · rintro ⟨oj, h1, h2, h3, h4⟩
            exact ⟨oj, h1, h2, h3, (hunl j h4).2⟩
        · rw [hd]; simp [Act.put, I.fsize]
        · rw [hd]; exact I.defers
        · rw [hd]
          simp only [Act.put]
          rw [Array.getElem?_setIfInBounds]
          by_cases e : d = s
          · subst e
            have : d < a.tmps.size := by
              rw [I.fsize]
              exact (Array.getElem?_eq_some_iff.1 hAd).1
            rw [if_pos rfl, if_pos this, hAd]
          · rw [if_neg e]
            refine I.fr s fun k ok hok hink hqk hdk => ?_
            have := hs k ok hok hink hqk hdk
            rw [getD_put hltD] at this
            split at this
            · rename_i ek
              subst ek
              rw [ho] at hok
              cases hok
              rw [hd] at hdk
              exact absurd (Option.some.inj hdk) e
            · exact this
      rw [hwt]
      unfold YieldsC at hy
      split
      · rename_i hw
        rw [if_pos hw] at hy
        refine .inl ?_
        unfold Oper.wp
        rw [hev, hy w (fun hm => I.cw ⟨i, o, ho, hin, hq, hm, hDi⟩)]
        exact hnext
      · rename_i hw
        rw [if_neg hw] at hy
        rw [hy] at hnext
        exact hnext
    | true =>
      have hir : i ∈ r := (I.rem i).2 ⟨o, ho, hin, hq, hDi⟩
      have hlow : ∀ j, j ∈ r → i ≤ j := by
        intro j hj
        rcases Nat.lt_or_ge j i with hlt2 | hge
        · obtain ⟨oj, h1, h2, h3, h4⟩ := (I.rem j).1 hj
          obtain ⟨g, hg⟩ := M.chain j i oj o hlt2 h1 ho h2 hin h3 hq
          have := hgo g j hg
          rw [h4] at this
          cases this
        · exact hge
      obtain ⟨r', rfl⟩ : ∃ r', r = i :: r' := by
        cases r with
        | nil => cases hir
        | cons x r' =>
          have h2 := hlow x (by simp)
          rcases List.mem_cons.1 hir with e | h3
          · exact ⟨r', by rw [e]⟩
          · have := (List.pairwise_cons.1 I.sorted).1 i h3
            omega
      have hnext : ∀ (v : Value) (w' : World), ((∃ (k : Nat) (ok : Oper), ops[k]? = some ok ∧ inR lo hi k = true ∧ memN ls k = false ∧ memOp ok.op = true ∧ (D.setIfInBounds i true).getD k false = false) → C w') → wpLoud P ops C b R r' (A.put o.dst v) w' →
          wpAny P .any ops Q (f + (ops.size - hi)) (D.setIfInBounds i true) (a.put o.dst v) w' := by
        intro v w' hC hl
        refine ih _ _ (A.put o.dst v) w' r' ⟨by simp [I.size], hdown2, hlow2, hhigh2, (List.pairwise_cons.1 I.sorted).2, fun j => ?_, ?_, ?_, fun s hs => ?_, fun k ok hok hink hqk hDk => ?_, hC, hl⟩ hcount
        · constructor
          · intro hj
            obtain ⟨oj, h1, h2, h3, h4⟩ := (I.rem j).1 (by simp [hj])
            have hne : i ≠ j := fun e => by
              have := (List.pairwise_cons.1 I.sorted).1 j hj
              omega
            exact ⟨oj, h1, h2, h3, by rw [getD_put hltD, if_neg hne]; exact h4⟩
          · rintro ⟨oj, h1, h2, h3, h4⟩
            obtain ⟨hne, h4⟩ := hunl j h4
            have := (I.rem j).2 ⟨oj, h1, h2, h3, h4⟩
            rcases List.mem_cons.1 this with e | h5
            · exact absurd e.symm hne
            · exact h5
        · cases o.dst <;> simp [Act.put, I.fsize]
        · cases o.dst <;> exact I.defers
        · have hold := I.fr s fun k ok hok hink hqk hdk => by
            have := hs k ok hok hink hqk hdk
            rw [getD_put hltD] at this
            split at this
            · rename_i ek
              subst ek
              rw [hq] at hqk
              cases hqk
            · exact this
          cases hd : o.dst with
          | none => exact hold
          | some d =>
            simp only [Act.put]
            rw [Array.getElem?_setIfInBounds, Array.getElem?_setIfInBounds, hold, I.fsize]
        · obtain ⟨_, hDk'⟩ := hunl k hDk
          obtain ⟨dk, h1, h2, h3⟩ := I.val k ok hok hink hqk hDk'
          cases hd : o.dst with
          | none => exact ⟨dk, h1, h2, h3⟩
          | some d =>
            have hne : d ≠ dk := fun e => by
              subst e
              have := M.uniq i k o ok d ho hok hin hink hd h1
              subst this
              rw [hq] at hqk
              cases hqk
            refine ⟨dk, h1, ?_, h3.of_same (M.sel k ok hok hink) fun t ht => ?_⟩
            · simp only [Act.put]
              rw [Array.getElem?_setIfInBounds, if_neg hne, h2]
            · simp only [Act.put]
              rw [Array.getElem?_setIfInBounds, if_neg (fun e => by
                subst e
                obtain ⟨g, hg⟩ := (M.dep k i ok o d hok ho hink hin hd ht).2 hqk hq
                have := hgo g k hg
                rw [hDk'] at this
                cases this)]
      have hl := I.wl
      unfold wpLoud at hl
      simp only [ho] at hl
      have hCkeep : ∀ w', (i < b → C w') → (∃ (k : Nat) (ok : Oper), ops[k]? = some ok ∧ inR lo hi k = true ∧ memN ls k = false ∧ memOp ok.op = true ∧ (D.setIfInBounds i true).getD k false = false) → C w' := by
        rintro w' hb ⟨k, ok, k1, k2, k3, k4, k5⟩
        rcases Nat.lt_or_ge i b with hlt2 | hge
        · exact hb hlt2
        · obtain ⟨g, hg⟩ := M.read k i ok o k1 ho k2 hin k3 k4 hq hge
          have := hgo g k hg
          rw [(hunl k k5).2] at this
          cases this
      rw [hwt]
      split
      · rename_i hw
        rw [if_pos hw] at hl
        refine .inl (loud_wp ?_)
        rw [hev]
        exact loudUpon_mono (fun v w' ⟨hb, hl'⟩ => hnext v w' (hCkeep w' hb) hl') hl
      · rename_i hw
        rw [if_neg hw] at hl
        exact hnext _ _ (fun ⟨k, ok, k1, k2, k3, k4, k5⟩ => I.cw ⟨k, ok, k1, k2, k3, k4, (hunl k k5).2⟩) hl
end Go.Proofs.Ytpbppgfogepjeaa
