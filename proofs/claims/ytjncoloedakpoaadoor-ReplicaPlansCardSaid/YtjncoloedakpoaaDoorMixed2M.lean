/- Blocks that are known whole, and contracts, for the reckoner. No condition. || A region that draws its order, of reading operations and a chain of others: one walk serves every order. No condition. || The check of a mixed region, and the walk of its others. No condition. -/
import Derived.Test.YtjncoloedakpoaaDoorChain4
import Derived.Test.YtjncoloedakpoaaDoorBase
namespace Go.Proofs.YtjncoloedakpoaaDoor
open Go.ChangeShapes Go.WideShapes Go.ChangeAt Go.RowKit Go.Deep

def RowAt (w : World) (b : Nat) (vs : List Value) : Prop := ∀ (i : Nat) (v : Value), vs[i]? = some v → w.cell? ⟨b, i, none⟩ = some v
def RowFrom (w : World) (b off : Nat) (vs : List Value) : Prop := ∀ (i : Nat) (v : Value), vs[i]? = some v → w.cell? ⟨b, off + i, none⟩ = some v
theorem RowAt.from_ {w : World} {b : Nat} {vs : List Value} (h : RowAt w b vs) : RowFrom w b 0 vs := fun i v hv => by rw [Nat.zero_add]; exact h i v hv
theorem RowFrom.below {n : Nat} {w w' : World} {b off : Nat} {vs : List Value} (hb : Below n w w') (hn : w.heap.size = n) (h : RowFrom w b off vs) : RowFrom w' b off vs := fun i v hv => by
  subst hn
  exact Below.cell_some hb (h i v hv)
theorem RowAt.of_heap {w : World} {b : Nat} {vs : List Value} {t : TypeId} {fr : Nat × Nat} (h : w.heap[b]? = some (.cells vs.toArray t fr)) : RowAt w b vs := fun i v hv => by
  rw [cell_of_row w b i _ t fr h]
  simpa using hv
theorem RowAt.below {n : Nat} {w w' : World} {b : Nat} {vs : List Value} (hb : Below n w w') (hn : w.heap.size = n) (h : RowAt w b vs) : RowAt w' b vs := fun i v hv => by
  subst hn
  exact Below.cell_some hb (h i v hv)
theorem RowAt.cell {w : World} {b : Nat} {vs : List Value} (h : RowAt w b vs) (i : Nat) {v : Value} (hv : vs[i]? = some v) : w.cell? ⟨b, i, none⟩ = some v := h i v hv

def Kept (w : World) (w' : World) : Prop := Below w.heap.size w w'
theorem Kept.refl (w : World) : Kept w w := Below.refl _ _
theorem Kept.drawn (w : World) : Kept w { w with drawn := w.drawn + 1 } := ⟨rfl, rfl, rfl, Nat.le_refl _, fun _ _ => rfl⟩

def BlkOk (β : Nat → Nat × Nat) (w : World) (l : List (Nat × List Value)) : Prop := ∀ x ∈ l, ∀ (i : Nat) (v : Value), x.2[i]? = some v → ∀ w', Kept w w' → w'.cell? ⟨(β x.1).1, (β x.1).2 + i, none⟩ = some v
theorem blk_nil {w : World} {β : Nat → Nat × Nat} : BlkOk β w [] := fun x hx => by cases hx
theorem blk_cons {w : World} {β : Nat → Nat × Nat} {k : Nat} {vs : List Value} {l : List (Nat × List Value)} (h : RowFrom w (β k).1 (β k).2 vs) (hl : BlkOk β w l) : BlkOk β w ((k, vs) :: l) := by
  intro x hx i v hv w' hw'
  rcases List.mem_cons.1 hx with rfl | hx
  · exact Below.cell_some hw' (h i v hv)
  · exact hl x hx i v hv w' hw'
theorem tab_ok {P : Program} {s : Sta} {β : Nat → Nat × Nat} {w : World} {l : List (Nat × List Value)} {cs : List (Nat × Value)} {ix : List (Nat × SV)} (hs : s.Ok P) (h : BlkOk β w l) : Tab.Ok ⟨s, l, cs, ix⟩ P β (Kept w) := ⟨hs, h⟩

theorem ob_nil {P : Program} {β : Nat → Nat × Nat} {C : World → Prop} : ∀ ob ∈ ([] : List Ob), ob.holds P β C := fun x hx => by cases hx
theorem ob_cons {P : Program} {β : Nat → Nat × Nat} {C : World → Prop} {o : Ob} {l : List Ob} (h : o.holds P β C) (hl : ∀ ob ∈ l, ob.holds P β C) : ∀ ob ∈ o :: l, ob.holds P β C := by
  intro x hx
  rcases List.mem_cons.1 hx with rfl | hx
  · exact h
  · exact hl x hx
theorem ob_kept {P : Program} {β : Nat → Nat × Nat} {w : World} {f : Nat} {args : List SV} {v : Value} {fn : Func} {c : Code} (hf : P.funcs[f]? = some fn) (hn : (fn.name == "runtime.NumGoroutine") = false) (hb : fn.body = some c)
    (h : ∀ w', Kept w w' → Calls P f (args.map (SV.den β)).toArray w' fun e w'' => e = .returned v ∧ Below w'.heap.size w' w'') : Ob.holds P β (Kept w) (.call f args v) :=
  ⟨⟨fn, hf, hn, by rw [hb]; rfl⟩, fun w' hw' => (h w' hw').mono fun _ w'' ⟨he, hb⟩ => ⟨he, hw'.trans (hb.mono hw'.size)⟩⟩

theorem act_to {Q : Exit → Act → World → Prop} {e : Exit} {a L : Act} {w : World} (h : a = L) (hq : Q e L w) : Q e a w := h ▸ hq
end Go.Proofs.YtjncoloedakpoaaDoor
namespace Go.Proofs.YtjncoloedakpoaaDoor
open Go.ChangeShapes Go.WideShapes Go.ChangeAt Go.RowKit Go.Deep

variable {P : Program} {ops : Array Oper} {ex : List Nat}

def isSel : Op → Bool
  | .select .. => true
  | _ => false

theorem looks_eval {o : Oper} (hs : isSel o.op = false) {a A : Act} (h : ∀ t ∈ o.looksAt ops, a.tmps[t]? = A.tmps[t]?) :
    execOp a.eval o = execOp A.eval o ∧ Region.wanted o (yielded ops a.tmps) = Region.wanted o (yielded ops A.tmps) := by
  refine ⟨execOp_congr o (fun cs b e => by rw [e] at hs; cases hs) fun x hx => ?_, ?_⟩
  · cases x with
    | tmp t =>
      have := h t (List.mem_append_left _ (List.mem_filterMap.2 ⟨.tmp t, by simpa using hx, rfl⟩))
      simp only [Act.eval, Array.getD_eq_getD_getElem?, this]
    | const v => rfl
    | global g => rfl
    | func f => rfl
  · unfold Region.wanted
    cases hg : o.guard with
    | none => rfl
    | some gw =>
      obtain ⟨g, want⟩ := gw
      have hy : yielded ops a.tmps g = yielded ops A.tmps g := by
        unfold yielded
        cases ht : (ops[g]?).bind (·.dst) with
        | none => rfl
        | some t =>
          have := h t (by unfold Oper.looksAt; rw [hg]; simp [ht])
          simp [this]
      simp only [hy]

def YieldsC (P : Program) (ops : Array Oper) (C : World → Prop) (o : Oper) (v : Value) (A : Act) : Prop :=
  if Region.wanted o (yielded ops A.tmps) then ∀ w, (memOp o.op = true → C w) → (execOp A.eval o).run P w = .ok (.value v) w else v = undef

theorem YieldsC.of_same {C : World → Prop} {o : Oper} {v : Value} {a A : Act} (hs : isSel o.op = false) (h : ∀ t ∈ o.looksAt ops, a.tmps[t]? = A.tmps[t]?) (hy : YieldsC P ops C o v A) : YieldsC P ops C o v a := by
  obtain ⟨h1, h2⟩ := looks_eval hs h
  unfold YieldsC at hy ⊢
  rw [h1, h2]
  exact hy

def loudUpon (P : Program) (next : Value → World → Prop) : Result Next → Prop
  | .ok (.value v) w => next v w
  | .ok .skip w => next undef w
  | .ok (.enter f args) w => Calls P f args w fun e w' => ∃ v, e = .returned v ∧ next v w'
  | _ => False

theorem loud_wp {o : Oper} {a : Act} {w : World} {K : Act → World → Prop} {Q : Exit → Act → World → Prop} (h : loudUpon P (fun v w' => K (a.put o.dst v) w') ((execOp a.eval o).run P w)) : o.wp P a w K Q := by
  unfold Oper.wp
  generalize (execOp a.eval o).run P w = r at h
  cases r with
  | halt x w' => exact h.elim
  | ok n w' =>
    cases n <;> simp only [loudUpon] at h <;> simp only [Oper.upon]
    case value v => exact h
    case skip => exact h
    case enter f args => exact h.mono fun e w'' ⟨v, he, hv⟩ => by subst he; exact hv
theorem loudUpon_mono {next next' : Value → World → Prop} (hm : ∀ v w, next v w → next' v w) {r : Result Next} (h : loudUpon P next r) : loudUpon P next' r := by
  cases r with
  | halt x w' => exact h
  | ok n w' =>
    cases n <;> simp only [loudUpon] at h ⊢
    case value v => exact hm _ _ h
    case skip => exact hm _ _ h
    case enter f args => exact h.mono fun e w'' ⟨v, he, hv⟩ => ⟨v, he, hm _ _ hv⟩

def wpLoud (P : Program) (ops : Array Oper) (C : World → Prop) (b : Nat) (R : Act → World → Prop) : List Nat → Act → World → Prop
  | [], A, w => R A w
  | j :: r, A, w => match ops[j]? with
    | none => False
    | some o => if Region.wanted o (yielded ops A.tmps) then loudUpon P (fun v w' => (j < b → C w') ∧ wpLoud P ops C b R r (A.put o.dst v) w') ((execOp A.eval o).run P w) else wpLoud P ops C b R r (A.put o.dst undef) w

def reachB (ops : Array Oper) : Nat → Nat → Nat → Bool
  | 0, _, _ => false
  | f + 1, j, i => match ops[j]? with
    | none => false
    | some o => o.after.any (fun e => Region.binds .any e && e.on == i) || o.after.any (fun e => Region.binds .any e && reachB ops f e.on i)

theorem reach_down {D : Nat → Prop} (hdown : ∀ (i : Nat) (o : Oper), ops[i]? = some o → D i → ∀ e ∈ o.after, Region.binds .any e = true → D e.on) :
    ∀ (f j i : Nat), reachB ops f j i = true → (∀ o : Oper, ops[j]? = some o → ∀ e ∈ o.after, Region.binds .any e = true → D e.on) → D i
  | 0, _, _, h, _ => by cases h
  | f + 1, j, i, h, hj => by
    unfold reachB at h
    split at h
    · cases h
    · rename_i o ho
      simp only [Bool.or_eq_true] at h
      rcases h with h | h
      · obtain ⟨e, he, hb⟩ := Array.any_eq_true'.1 h
        simp only [Bool.and_eq_true, beq_iff_eq] at hb
        rw [← hb.2]
        exact hj o ho e he hb.1
      · obtain ⟨e, he, hb⟩ := Array.any_eq_true'.1 h
        simp only [Bool.and_eq_true] at hb
        have hD := hj o ho e he hb.1
        exact reach_down hdown f e.on i hb.2 fun o' ho' e' he' hb' => hdown e.on o' ho' hD e' he' hb'

theorem getD_put {D : Array Bool} {i j : Nat} (h : i < D.size) : (D.setIfInBounds i true).getD j false = if i = j then true else D.getD j false := by
  by_cases e : i = j
  · subst e
    simp [h]
  · rw [if_neg e, getD_set_ne false e]

end Go.Proofs.YtjncoloedakpoaaDoor
namespace Go.Proofs.YtjncoloedakpoaaDoor
open Go.ChangeShapes Go.WideShapes Go.ChangeAt Go.RowKit Go.Deep

variable {P : Program} {β : Nat → Nat × Nat} {C : World → Prop} {T : Tab} {ops : Array Oper} {N : Nat}

def lateB (ops : Array Oper) : List Oper → Bool
  | [] => true
  | o :: r => (!isSel o.op) && ((match o.dst with
    | none => false
    | some d => (d :: dstsOf r).all (fun t => !memN (o.looksAt ops) t) && !memN (dstsOf r) d) && lateB ops r)

def idxAll (f : Nat → Oper → Bool) : List Oper → Nat → Bool
  | [], _ => true
  | o :: r, k => f k o && idxAll f r (k + 1)
theorem idxAll_spec {f : Nat → Oper → Bool} : ∀ {l : List Oper} {k : Nat}, idxAll f l k = true → ∀ (i : Nat) (o : Oper), l[i]? = some o → f (k + i) o = true
  | [], _, _, i, o, h => by cases h
  | x :: r, k, hb, i, o, h => by
    unfold idxAll at hb
    simp only [Bool.and_eq_true] at hb
    cases i with
    | zero => cases h; exact hb.1
    | succ i =>
      have := idxAll_spec hb.2 i o h
      rwa [show k + 1 + i = k + (i + 1) by omega] at this

variable {b : Nat} {R : Act → World → Prop}
theorem wpLoud_nil {A : Act} {w : World} (h : R A w) : wpLoud P ops C b R [] A w := h
theorem wpLoud_one {j : Nat} {r : List Nat} {A : Act} {w : World} {o : Oper} (ho : ops[j]? = some o) (hg : o.guard = none) (h : loudUpon P (fun v w' => (j < b → C w') ∧ wpLoud P ops C b R r (A.put o.dst v) w') ((execOp A.eval o).run P w)) : wpLoud P ops C b R (j :: r) A w := by
  unfold wpLoud
  simp only [ho]
  rw [if_pos (by unfold Region.wanted; rw [hg])]
  exact h
def nthOp : Nat → List Oper → Option Oper
  | _, [] => none
  | 0, o :: _ => some o
  | n + 1, _ :: r => nthOp n r
theorem nthOp_spec : ∀ {j : Nat} {l : List Oper} {o : Oper}, nthOp j l = some o → l.toArray[j]? = some o
  | 0, [], _, h => by cases h
  | _ + 1, [], _, h => by cases h
  | 0, x :: r, o, h => by cases h; rfl
  | n + 1, x :: r, o, h => by
    have := nthOp_spec (l := r) h
    simpa using this

end Go.Proofs.YtjncoloedakpoaaDoor
