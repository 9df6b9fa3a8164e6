/- Blocks that are known whole, and contracts, for the reckoner. No condition. || A region that draws its order, of reading operations and a chain of others: one walk serves every order. No condition. || The check of a mixed region, and the walk of its others. No condition. || The plain law of a stable sort: insertion, symmetric merges, rotations. No condition. || A row of elements of any kind that is sorted in place: loads and stores of whole elements. No condition; no program. || Regions that draw their order, of computing operations (whole elements loaded too) and a chain of others: one walk in the text's order. No condition; no program. -/
import Derived.Test.YtoamjihchmokcaaChain4M
import Derived.Test.YtoamjihchmokcaaBase
import Derived.Test.YtoamjihchmokcaaFrame
import Derived.Test.YtoamjihchmokcaaCellsM
import Derived.Test.YtoamjihchmokcaaHeadLitM
import Derived.Laws.CopyRow
namespace Go.Proofs.Ytoamjihchmokcaa
open Go.ChangeShapes Go.WideShapes Go.ChangeAt Go.RowKit Go.Deep

def RowAt (w : World) (b : Nat) (vs : List Value) : Prop := ∀ (i : Nat) (v : Value), vs[i]? = some v → w.cell? ⟨b, i, none⟩ = some v
def RowFrom (w : World) (b off : Nat) (vs : List Value) : Prop := ∀ (i : Nat) (v : Value), vs[i]? = some v → w.cell? ⟨b, off + i, none⟩ = some v
theorem RowFrom.below {n : Nat} {w w' : World} {b off : Nat} {vs : List Value} (hb : Below n w w') (hn : w.heap.size = n) (h : RowFrom w b off vs) : RowFrom w' b off vs := fun i v hv => by
  subst hn
  exact Below.cell_some hb (h i v hv)
theorem RowAt.below {n : Nat} {w w' : World} {b : Nat} {vs : List Value} (hb : Below n w w') (hn : w.heap.size = n) (h : RowAt w b vs) : RowAt w' b vs := fun i v hv => by
  subst hn
  exact Below.cell_some hb (h i v hv)
theorem RowAt.cell {w : World} {b : Nat} {vs : List Value} (h : RowAt w b vs) (i : Nat) {v : Value} (hv : vs[i]? = some v) : w.cell? ⟨b, i, none⟩ = some v := h i v hv

def Kept (w : World) (w' : World) : Prop := Below w.heap.size w w'
theorem Kept.refl (w : World) : Kept w w := Below.refl _ _
theorem Kept.drawn (w : World) : Kept w { w with drawn := w.drawn + 1 } := ⟨rfl, rfl, rfl, Nat.le_refl _, fun _ _ => rfl⟩

end Go.Proofs.Ytoamjihchmokcaa
namespace Go.Proofs.Ytoamjihchmokcaa
open Go.ChangeShapes Go.WideShapes Go.ChangeAt Go.RowKit Go.Deep

variable {P : Program} {ops : Array Oper} {ex : List Nat}

def isSel : Op → Bool
  | .select .. => true
  | _ => false

theorem looks_eval {o : Oper} (hs : isSel o.op = false) {a A : Act} (h : ∀ t ∈ o.looksAt ops, a.tmps[t]? = A.tmps[t]?) :
    execOp a.eval o = execOp A.eval o ∧ Region.wanted o (yielded ops a.tmps) = Region.wanted o (yielded ops A.tmps) := by
  refine ⟨execOp_congr o (fun cs b e => by rw [e] at hs; cases hs) fun x hx => ?_, ?_⟩
  · cases x with
    | tmp t =>
      have := h t (List.mem_append_left _ (List.mem_filterMap.2 ⟨.tmp t, by simpa using hx, rfl⟩))
      simp only [Act.eval, Array.getD_eq_getD_getElem?, this]
    | const v => rfl
    | global g => rfl
    | func f => rfl
  · unfold Region.wanted
    cases hg : o.guard with
    | none => rfl
    | some gw =>
      obtain ⟨g, want⟩ := gw
      have hy : yielded ops a.tmps g = yielded ops A.tmps g := by
        unfold yielded
        cases ht : (ops[g]?).bind (·.dst) with
        | none => rfl
        | some t =>
          have := h t (by unfold Oper.looksAt; rw [hg]; simp [ht])
          simp [this]
      simp only [hy]

def YieldsC (P : Program) (ops : Array Oper) (C : World → Prop) (o : Oper) (v : Value) (A : Act) : Prop :=
  if Region.wanted o (yielded ops A.tmps) then ∀ w, (memOp o.op = true → C w) → (execOp A.eval o).run P w = .ok (.value v) w else v = undef

theorem YieldsC.of_same {C : World → Prop} {o : Oper} {v : Value} {a A : Act} (hs : isSel o.op = false) (h : ∀ t ∈ o.looksAt ops, a.tmps[t]? = A.tmps[t]?) (hy : YieldsC P ops C o v A) : YieldsC P ops C o v a := by
  obtain ⟨h1, h2⟩ := looks_eval hs h
  unfold YieldsC at hy ⊢
  rw [h1, h2]
  exact hy

def loudUpon (P : Program) (next : Value → World → Prop) : Result Next → Prop
  | .ok (.value v) w => next v w
  | .ok .skip w => next undef w
  | .ok (.enter f args) w => Calls P f args w fun e w' => ∃ v, e = .returned v ∧ next v w'
  | _ => False

theorem loud_wp {o : Oper} {a : Act} {w : World} {K : Act → World → Prop} {Q : Exit → Act → World → Prop} (h : loudUpon P (fun v w' => K (a.put o.dst v) w') ((execOp a.eval o).run P w)) : o.wp P a w K Q := by
  unfold Oper.wp
  generalize (execOp a.eval o).run P w = r at h
  cases r with
  | halt x w' => exact h.elim
  | ok n w' =>
    cases n <;> simp only [loudUpon] at h <;> simp only [Oper.upon]
    case value v => exact h
    case skip => exact h
    case enter f args => exact h.mono fun e w'' ⟨v, he, hv⟩ => by subst he; exact hv
theorem loudUpon_mono {next next' : Value → World → Prop} (hm : ∀ v w, next v w → next' v w) {r : Result Next} (h : loudUpon P next r) : loudUpon P next' r := by
  cases r with
  | halt x w' => exact h
  | ok n w' =>
    cases n <;> simp only [loudUpon] at h ⊢
    case value v => exact hm _ _ h
    case skip => exact hm _ _ h
    case enter f args => exact h.mono fun e w'' ⟨v, he, hv⟩ => ⟨v, he, hm _ _ hv⟩

def wpLoud (P : Program) (ops : Array Oper) (C : World → Prop) (b : Nat) (R : Act → World → Prop) : List Nat → Act → World → Prop
  | [], A, w => R A w
  | j :: r, A, w => match ops[j]? with
    | none => False
    | some o => if Region.wanted o (yielded ops A.tmps) then loudUpon P (fun v w' => (j < b → C w') ∧ wpLoud P ops C b R r (A.put o.dst v) w') ((execOp A.eval o).run P w) else wpLoud P ops C b R r (A.put o.dst undef) w

def reachB (ops : Array Oper) : Nat → Nat → Nat → Bool
  | 0, _, _ => false
  | f + 1, j, i => match ops[j]? with
    | none => false
    | some o => o.after.any (fun e => Region.binds .any e && e.on == i) || o.after.any (fun e => Region.binds .any e && reachB ops f e.on i)

theorem reach_down {D : Nat → Prop} (hdown : ∀ (i : Nat) (o : Oper), ops[i]? = some o → D i → ∀ e ∈ o.after, Region.binds .any e = true → D e.on) :
    ∀ (f j i : Nat), reachB ops f j i = true → (∀ o : Oper, ops[j]? = some o → ∀ e ∈ o.after, Region.binds .any e = true → D e.on) → D i
  | 0, _, _, h, _ => by cases h
  | f + 1, j, i, h, hj => by
    unfold reachB at h
    split at h
    · cases h
    · rename_i o ho
      simp only [Bool.or_eq_true] at h
      rcases h with h | h
      · obtain ⟨e, he, hb⟩ := Array.any_eq_true'.1 h
        simp only [Bool.and_eq_true, beq_iff_eq] at hb
        rw [← hb.2]
        exact hj o ho e he hb.1
      · obtain ⟨e, he, hb⟩ := Array.any_eq_true'.1 h
        simp only [Bool.and_eq_true] at hb
        have hD := hj o ho e he hb.1
        exact reach_down hdown f e.on i hb.2 fun o' ho' e' he' hb' => hdown e.on o' ho' hD e' he' hb'

theorem getD_put {D : Array Bool} {i j : Nat} (h : i < D.size) : (D.setIfInBounds i true).getD j false = if i = j then true else D.getD j false := by
  by_cases e : i = j
  · subst e
    simp [h]
  · rw [if_neg e, getD_set_ne false e]

end Go.Proofs.Ytoamjihchmokcaa
namespace Go.Proofs.Ytoamjihchmokcaa
open Go.ChangeShapes Go.WideShapes Go.ChangeAt Go.RowKit Go.Deep

variable {P : Program} {β : Nat → Nat × Nat} {C : World → Prop} {T : Tab} {ops : Array Oper} {N : Nat}

def lateB (ops : Array Oper) : List Oper → Bool
  | [] => true
  | o :: r => (!isSel o.op) && ((match o.dst with
    | none => false
    | some d => (d :: dstsOf r).all (fun t => !memN (o.looksAt ops) t) && !memN (dstsOf r) d) && lateB ops r)

def idxAll (f : Nat → Oper → Bool) : List Oper → Nat → Bool
  | [], _ => true
  | o :: r, k => f k o && idxAll f r (k + 1)
theorem idxAll_spec {f : Nat → Oper → Bool} : ∀ {l : List Oper} {k : Nat}, idxAll f l k = true → ∀ (i : Nat) (o : Oper), l[i]? = some o → f (k + i) o = true
  | [], _, _, i, o, h => by cases h
  | x :: r, k, hb, i, o, h => by
    unfold idxAll at hb
    simp only [Bool.and_eq_true] at hb
    cases i with
    | zero => cases h; exact hb.1
    | succ i =>
      have := idxAll_spec hb.2 i o h
      rwa [show k + 1 + i = k + (i + 1) by omega] at this

variable {b : Nat} {R : Act → World → Prop}
theorem wpLoud_nil {A : Act} {w : World} (h : R A w) : wpLoud P ops C b R [] A w := h
theorem wpLoud_one {j : Nat} {r : List Nat} {A : Act} {w : World} {o : Oper} (ho : ops[j]? = some o) (hg : o.guard = none) (h : loudUpon P (fun v w' => (j < b → C w') ∧ wpLoud P ops C b R r (A.put o.dst v) w') ((execOp A.eval o).run P w)) : wpLoud P ops C b R (j :: r) A w := by
  unfold wpLoud
  simp only [ho]
  rw [if_pos (by unfold Region.wanted; rw [hg])]
  exact h
def nthOp : Nat → List Oper → Option Oper
  | _, [] => none
  | 0, o :: _ => some o
  | n + 1, _ :: r => nthOp n r
theorem nthOp_spec : ∀ {j : Nat} {l : List Oper} {o : Oper}, nthOp j l = some o → l.toArray[j]? = some o
  | 0, [], _, h => by cases h
  | _ + 1, [], _, h => by cases h
  | 0, x :: r, o, h => by cases h; rfl
  | n + 1, x :: r, o, h => by
    have := nthOp_spec (l := r) h
    simpa using this

theorem wpLoud_call {j : Nat} {r : List Nat} {A : Act} {w : World} {l : List Oper} {o : Oper} (ho : nthOp j l = some o) (hg : o.guard = none) (f : Nat) (args : List Operand) (ats : Array TypeId) (hop : o.op = .call { callee := .value (.func f), args := args.toArray, argTypes := ats }) {fn : Func} {c : Code} (hf : P.funcs[f]? = some fn)
    (hn : (fn.name == "runtime.NumGoroutine") = false) (hb : fn.body = some c) (vs : List Value) (hv : args.map A.eval = vs) (h : Calls P f vs.toArray w fun e w' => ∃ v, e = .returned v ∧ (j < b → C w') ∧ wpLoud P l.toArray C b R r (A.put o.dst v) w') : wpLoud P l.toArray C b R (j :: r) A w := by
  refine wpLoud_one (nthOp_spec ho) hg ?_
  have h2' : fn.name ≠ "runtime.NumGoroutine" := by simpa using hn
  have h3' : fn.body ≠ none := by rw [hb]; intro e; cases e
  have e2 : (execOp A.eval o).run P w = .ok (.enter f vs.toArray) w := by
    unfold execOp
    have e : (args.toArray.map A.eval) = vs.toArray := by rw [← hv]; simp
    simp only [hop, resolve, e]
    simp [Act.eval, Deferred.ofValue, invoke, callFunc, hf, h2', h3']
  rw [e2]
  exact h
theorem wpLoud_store {j : Nat} {r : List Nat} {A : Act} {w : World} {l : List Oper} {o : Oper} (ho : nthOp j l = some o) (hg : o.guard = none) (t : TypeId) (p x : Operand) (hop : o.op = .store t p x) (q : Addr) (v : Value) (hp : A.eval p = .pointer (some q)) (hx : A.eval x = v)
    (hrun : (Instr.storeAt t (.pointer (some q)) v).run P w = .ok () (w.setCell q v)) (h : (j < b → C (w.setCell q v)) ∧ wpLoud P l.toArray C b R r (A.put o.dst undef) (w.setCell q v)) : wpLoud P l.toArray C b R (j :: r) A w := by
  refine wpLoud_one (nthOp_spec ho) hg ?_
  have e2 : (execOp A.eval o).run P w = .ok .skip (w.setCell q v) := by
    unfold execOp
    simp only [hop, hp, hx]
    rw [Sem.run_bind, hrun]
    rfl
  rw [e2]
  exact h
theorem wpLoud_build {j : Nat} {r : List Nat} {A : Act} {w : World} {l : List Oper} {o : Oper} (ho : nthOp j l = some o) (hg : o.guard = none) (t : TypeId) (n : Nat) (parts : List (Nat × Operand))
    (hop : o.op = .buildSlice t n parts.toArray) (args : List (Nat × Value)) (hargs : parts.map (fun p => (p.1, A.eval p.2)) = args) (cur : Array Value) (e : TypeId)
    (hrun : ∀ w, (Instr.buildSlice t n args.toArray).run P w = .ok (.slice (some ⟨w.heap.size, 0, none⟩) n n) (w.alloc (.cells cur e)))
    (h : (j < b → C (w.alloc (.cells cur e))) ∧ wpLoud P l.toArray C b R r (A.put o.dst (.slice (some ⟨w.heap.size, 0, none⟩) n n)) (w.alloc (.cells cur e))) : wpLoud P l.toArray C b R (j :: r) A w := by
  refine wpLoud_one (nthOp_spec ho) hg ?_
  subst hargs
  have e2 : (execOp A.eval o).run P w = .ok (.value (.slice (some ⟨w.heap.size, 0, none⟩) n n)) (w.alloc (.cells cur e)) := by
    have e : (parts.toArray.map fun (p : Nat × Operand) => (p.1, A.eval p.2)) = (parts.map fun p => (p.1, A.eval p.2)).toArray := by simp
    simp only [execOp, hop]
    rw [e]
    simp [hrun, Result.andThen]
  rw [e2]
  exact h
theorem wpLoud_run {j : Nat} {r : List Nat} {A : Act} {w w' : World} {l : List Oper} {o : Oper} {v : Value} (ho : nthOp j l = some o) (hg : o.guard = none) (hrun : (execOp A.eval o).run P w = .ok (.value v) w') (h : (j < b → C w') ∧ wpLoud P l.toArray C b R r (A.put o.dst v) w') : wpLoud P l.toArray C b R (j :: r) A w := by
  refine wpLoud_one (nthOp_spec ho) hg ?_
  rw [hrun]
  exact h
end Go.Proofs.Ytoamjihchmokcaa
namespace Go.Proofs.Ytoamjihchmokcaa
def segL {α : Type} (d : List α) (a b : Nat) : List α := (d.take b).drop a

variable {α : Type} {cf : α → α → Int} {tag : α → Nat} {T : α → α → Prop}

theorem segL_len (d : List α) {a b : Nat} (hb : b ≤ d.length) : (segL d a b).length = b - a := by
  simp [segL, Nat.min_eq_left hb]

def OutInv (T : α → α → Prop) (a i : Nat) (D d : List α) : Prop :=
  ∃ S, d = D.take a ++ S ++ D.drop i ∧ S.Perm (segL D a i) ∧ S.Pairwise T

def InsInv (T : α → α → Prop) (a i : Nat) (D d : List α) (j : Nat) : Prop :=
  ∃ (S1 S2 : List α) (x : α), D[i]? = some x ∧ d = D.take a ++ (S1 ++ x :: S2) ++ D.drop (i + 1) ∧ (S1 ++ S2).Perm (segL D a i) ∧ (S1 ++ S2).Pairwise T ∧ (∀ s ∈ S2, T x s) ∧ j = a + S1.length

theorem OutInv.len {a i : Nat} {D d : List α} (h : OutInv T a i D d) (hai : a ≤ i) (hi : i ≤ D.length) : d.length = D.length := by
  obtain ⟨S, rfl, hp, _⟩ := h
  have := hp.length_eq
  rw [segL_len D hi] at this
  simp
  omega

theorem InsInv.len {a i j : Nat} {D d : List α} (h : InsInv T a i D d j) (hai : a ≤ i) : d.length = D.length ∧ j ≤ i ∧ a ≤ j ∧ i < D.length := by
  obtain ⟨S1, S2, x, hx, rfl, hp, _, _, rfl⟩ := h
  have hi := (List.getElem?_eq_some_iff.1 hx).1
  have := hp.length_eq
  rw [segL_len D (Nat.le_of_lt hi)] at this
  simp at this ⊢
  omega


def SwpInv (P X Y Z S d : List α) (i : Nat) : Prop :=
  d = P ++ (Z.take i ++ X.drop i) ++ Y ++ (X.take i ++ Z.drop i) ++ S

theorem SwpInv.len {P X Y Z S d : List α} {i : Nat} (h : SwpInv P X Y Z S d i) (hx : i ≤ X.length) (hz : i ≤ Z.length) : d.length = P.length + X.length + Y.length + Z.length + S.length := by
  rw [h]
  simp
  omega




end Go.Proofs.Ytoamjihchmokcaa
namespace Go.Proofs.Ytoamjihchmokcaa
open Go.ChangeShapes Go.WideShapes Go.ChangeAt Go.RowKit Go.Deep

structure SRowK {α : Type} (enc : α → List Value) (T : TypeId) (w0 w : World) (gb : Nat) (rest : List Value) (d : List α) : Prop where
  row : w.heap[gb]? = some (.cells (d.flatMap enc ++ rest).toArray T (0, 0))
  fr : Fr (fun k => k = gb) w0 w

namespace SRowK
variable {α : Type} {enc : α → List Value} {T : TypeId} {w0 w w' : World} {gb sz : Nat} {rest : List Value} {d : List α}
theorem lt (h : SRowK enc T w0 w gb rest d) : gb < w.heap.size := (Array.getElem?_eq_some_iff.1 h.row).1
theorem at_ (h : SRowK enc T w0 w gb rest d) (hl : ∀ x, (enc x).length = sz) {i : Nat} (hi : i < d.length) : ∀ j u, (enc d[i])[j]? = some u → w.cell? ((⟨gb, i * sz, none⟩ : Addr).add j) = some u := by
  intro j u hu
  have hj : j < sz := by rw [← hl d[i]]; exact (List.getElem?_eq_some_iff.1 hu).1
  have h2 : i * sz + j < (d.flatMap enc).length := by
    rw [flatMap_len (f := enc) (sz := sz) hl]
    have : (i + 1) * sz ≤ d.length * sz := Nat.mul_le_mul_right _ hi
    rw [Nat.add_mul, Nat.one_mul] at this
    omega
  rw [Addr.add_lit, cell_of_row _ gb _ _ _ (0, 0) h.row, List.getElem?_toArray, List.getElem?_append_left h2, flatMap_get (f := enc) (sz := sz) hl d i j hi hj, hu]
theorem next (h : SRowK enc T w0 w gb rest d) (hb : Below w.heap.size w w') : SRowK enc T w0 w' gb rest d := ⟨(hb.block gb h.lt).trans h.row, h.fr.then hb⟩
theorem drewN (h : SRowK enc T w0 w gb rest d) (n : Nat) : SRowK enc T w0 (w.drewN n) gb rest d := ⟨h.row, h.fr.drewN n⟩
theorem drew (h : SRowK enc T w0 w gb rest d) : SRowK enc T w0 w.drew gb rest d := ⟨h.row, h.fr.drew⟩
theorem trans {w1 w2 : World} {d' : List α} (h : SRowK enc T w0 w1 gb rest d) (k : SRowK enc T w1 w2 gb rest d') : SRowK enc T w0 w2 gb rest d' := ⟨k.row, h.fr.trans k.fr (fun _ hi => .inl hi)⟩
theorem set_ (h : SRowK enc T w0 w gb rest d) (hl : ∀ x, (enc x).length = sz) {i : Nat} (hi : i < d.length) (y : α) :
    SRowK enc T w0 (w.setRow gb (((d.flatMap enc ++ rest).toArray.toList.take (i * sz + 0) ++ enc y ++ (d.flatMap enc ++ rest).toArray.toList.drop (i * sz + 0 + (enc y).length)).toArray)) gb rest (d.set i y) := by
  refine ⟨?_, h.fr.trans (Fr.setRow (fun k => k = gb) w gb _ rfl) (fun _ hi => .inl hi)⟩
  rw [setRow_heap h.row]
  have := flatMap_set (f := enc) (sz := sz) hl d i y rest hi
  simp only [Nat.add_zero, hl]
  rw [← this]
end SRowK

theorem BW.cells {w : World} {p : Addr} {cs : List Value} (h : ∀ j u, cs[j]? = some u → w.cell? (p.add j) = some u) (b : BW w) : ∀ j u, cs[j]? = some u → b.w'.cell? (p.add j) = some u := fun j u hu => Below.cell_some b.h (h j u hu)

section
variable {P : Program} {T : TypeId} {size : Nat}
theorem wpQuiet_load (A : AggOK P T size) {ops : Array Oper} {C : World → Prop} {Q : Act → Prop} {rest : List Oper} {o : Oper} {a : Act} (hg : Region.wanted o (yielded ops a.tmps) = true) (x : Operand) (ho : o.op = .load T x) (p : Addr) (hx : a.eval x = .pointer (some p))
    (cs : List Value) (hs : cs.length = size) (hc : ∀ w, C w → ∀ j u, cs[j]? = some u → w.cell? (p.add j) = some u) (h : wpQuiet P ops C Q rest (a.put o.dst (.agg cs.toArray))) : wpQuiet P ops C Q (o :: rest) a := by
  refine wpQuiet_step fun K hK => ?_
  rw [if_pos hg]
  refine ⟨.agg cs.toArray, fun w hw => ?_, hK _ h⟩
  unfold Oper.quietAt execOp
  simp only [ho, hx, Instr.loadAt, Instr.sureAddr, Sem.run_bind, Sem.run_pure, Result.andThen_ok, run_loadVar_at A w p cs hs (hc w hw)]
  exact ⟨rfl, rfl⟩
end
end Go.Proofs.Ytoamjihchmokcaa
namespace Go.Proofs.Ytoamjihchmokcaa
open Go.ChangeShapes Go.WideShapes Go.ChangeAt Go.RowKit Go.Deep

section
variable {P : Program} {ops : Array Oper} {C : World → Prop}
def wpVal (P : Program) (ops : Array Oper) (C : World → Prop) (Q : Act → Prop) : List Oper → Act → Prop
  | [], a => Q a
  | o :: rest, a => ∃ v, (if Region.wanted o (yielded ops a.tmps) then ∀ w, (memOp o.op = true → C w) → (execOp a.eval o).run P w = .ok (.value v) w else v = undef) ∧ wpVal P ops C Q rest (a.put o.dst v)
theorem wpVal_one {Q : Act → Prop} {a : Act} {o : Oper} {rest : List Oper} (v : Value) (hg : o.guard = none) (h1 : ∀ w, (execOp a.eval o).run P w = .ok (.value v) w) (h : wpVal P ops C Q rest (a.put o.dst v)) : wpVal P ops C Q (o :: rest) a := by
  refine ⟨v, ?_, h⟩
  rw [if_pos (by simp [Region.wanted, hg])]
  exact fun w _ => h1 w
theorem wpVal_load {T : TypeId} {size : Nat} (A : AggOK P T size) {Q : Act → Prop} {a : Act} {o : Oper} {rest : List Oper} (hg : o.guard = none) (x : Operand) (ho : o.op = .load T x) (p : Addr) (hx : a.eval x = .pointer (some p))
    (cs : List Value) (hs : cs.length = size) (hc : ∀ w, C w → ∀ j u, cs[j]? = some u → w.cell? (p.add j) = some u) (h : wpVal P ops C Q rest (a.put o.dst (.agg cs.toArray))) : wpVal P ops C Q (o :: rest) a := by
  refine ⟨.agg cs.toArray, ?_, h⟩
  rw [if_pos (by simp [Region.wanted, hg])]
  intro w hw
  have hw := hw (by rw [ho]; rfl)
  unfold execOp
  simp only [ho, hx, Instr.loadAt, Instr.sureAddr, Sem.run_bind, Sem.run_pure, Result.andThen_ok, run_loadVar_at A w p cs hs (hc w hw)]

theorem wpVal_oneK {Q : Act → Prop} {a : Act} {o : Oper} {rest : List Oper} (hg : o.guard = none) (h : ∀ K : Act → Prop, (∀ a, wpVal P ops C Q rest a → K a) → ∃ v, (∀ w, (execOp a.eval o).run P w = .ok (.value v) w) ∧ K (a.put o.dst v)) : wpVal P ops C Q (o :: rest) a := by
  obtain ⟨v, h1, h2⟩ := h _ (fun _ h => h)
  exact wpVal_one v hg h1 h2
theorem wpVal_loadK {T : TypeId} {size : Nat} (A : AggOK P T size) {Q : Act → Prop} {a : Act} {o : Oper} {rest : List Oper} (hg : o.guard = none) (x : Operand) (ho : o.op = .load T x) (p : Addr) (hx : a.eval x = .pointer (some p))
    (cs : List Value) (hs : cs.length = size) (hc : ∀ w, C w → ∀ j u, cs[j]? = some u → w.cell? (p.add j) = some u) (h : ∀ K : Act → Prop, (∀ a, wpVal P ops C Q rest a → K a) → K (a.put o.dst (.agg cs.toArray))) : wpVal P ops C Q (o :: rest) a :=
  wpVal_load A hg x ho p hx cs hs hc (h _ (fun _ h => h))
theorem wpVal_vals {Q : Act → Prop} : ∀ (l : List Oper) (a : Act) (N : Nat), a.tmps.size = N → (∀ o ∈ l, ∀ d, o.dst = some d → d < N) → wpVal P ops C Q l a → lateB ops l = true →
    ∃ A, Q A ∧ A.tmps.size = N ∧ A.defers = a.defers ∧ (∀ s, s ∉ dstsOf l → A.tmps[s]? = a.tmps[s]?) ∧ ∀ o ∈ l, ∃ d v, o.dst = some d ∧ A.tmps[d]? = some v ∧ YieldsC P ops C o v A
  | [], a, N, hN, _, h, _ => ⟨a, h, hN, rfl, fun _ _ => rfl, fun o ho => by cases ho⟩
  | o :: r, a, N, hN, hdN, h, hL => by
    obtain ⟨v, hy, h⟩ := h
    unfold lateB at hL
    cases hd : o.dst with
    | none => rw [hd] at hL; simp at hL
    | some d =>
      rw [hd] at hL h
      simp only [Bool.and_eq_true, Bool.not_eq_true', List.all_eq_true] at hL
      obtain ⟨hsel, ⟨hl1, hl2⟩, hL2⟩ := hL
      have hdn := hdN o (List.mem_cons_self ..) d hd
      obtain ⟨A, i1, i2, i3, i4, i5⟩ := wpVal_vals r (a.put (some d) v) N (by simp [Act.put, hN]) (fun o ho => hdN o (List.mem_cons_of_mem _ ho)) h hL2
      have hin : ∀ (l : List Nat) (t : Nat), memN l t = false → t ∉ l := fun l t h hh => by rw [memN_of hh] at h; cases h
      have hput : ∀ s, s ≠ d → (a.put (some d) v).tmps[s]? = a.tmps[s]? := fun s hs => by
        simp only [Act.put]
        rw [Array.getElem?_setIfInBounds, if_neg (fun e => hs e.symm)]
      have hy : YieldsC P ops C o v a := hy
      refine ⟨A, i1, i2, by rw [i3]; rfl, fun s hs => ?_, fun o' ho' => ?_⟩
      · unfold dstsOf at hs
        rw [List.filterMap_cons, hd] at hs
        simp only [List.mem_cons, not_or] at hs
        rw [i4 s hs.2, hput s hs.1]
      · rcases List.mem_cons.1 ho' with rfl | ho'
        · refine ⟨d, v, hd, ?_, hy.of_same hsel fun t ht => ?_⟩
          · rw [i4 d (hin _ _ hl2)]
            simp only [Act.put]
            rw [Array.getElem?_setIfInBounds, if_pos rfl, if_pos (by rw [hN]; exact hdn)]
          · have h1 : t ∉ dstsOf r := fun hh => hin _ _ (hl1 t (by simp [hh])) ht
            have h2 : t ≠ d := fun hh => hin _ _ (hl1 d (by simp)) (hh ▸ ht)
            rw [i4 t h1, hput t h2]
        · exact i5 o' ho'

def dstLt (N : Nat) (l : List Oper) : Bool := l.all fun o => match o.dst with | some d => Nat.blt d N | none => true
end
end Go.Proofs.Ytoamjihchmokcaa
