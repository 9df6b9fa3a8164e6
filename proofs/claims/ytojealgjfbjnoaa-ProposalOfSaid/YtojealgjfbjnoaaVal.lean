/- Regions that draw their order, of computing operations (whole elements loaded too) and a chain of others: one walk in the text's order. No condition; no program. -/
import Derived.Test.YtojealgjfbjnoaaMixed2
import Derived.Test.YtojealgjfbjnoaaStkM
namespace Go.Proofs.Ytojealgjfbjnoaa
open Go.ChangeShapes Go.WideShapes Go.ChangeAt Go.RowKit Go.Deep

section
variable {P : Program} {ops : Array Oper} {C : World → Prop}
/-- The computing operations, one after the other. -/
def wpVal (P : Program) (ops : Array Oper) (C : World → Prop) (Q : Act → Prop) : List Oper → Act → Prop
  | [], a => Q a
  | o :: rest, a => ∃ v, (if Region.wanted o (yielded ops a.tmps) then ∀ w, (memOp o.op = true → C w) → (execOp a.eval o).run P w = .ok (.value v) w else v = undef) ∧ wpVal P ops C Q rest (a.put o.dst v)
theorem wpVal_nil {Q : Act → Prop} {a : Act} (h : Q a) : wpVal P ops C Q [] a := h
theorem wpVal_one {Q : Act → Prop} {a : Act} {o : Oper} {rest : List Oper} (v : Value) (hg : o.guard = none) (h1 : ∀ w, (execOp a.eval o).run P w = .ok (.value v) w) (h : wpVal P ops C Q rest (a.put o.dst v)) : wpVal P ops C Q (o :: rest) a := by
  refine ⟨v, ?_, h⟩
  rw [if_pos (by simp [Region.wanted, hg])]
  exact fun w _ => h1 w
theorem wpVal_load {T : TypeId} {size : Nat} (A : AggOK P T size) {Q : Act → Prop} {a : Act} {o : Oper} {rest : List Oper} (hg : o.guard = none) (x : Operand) (ho : o.op = .load T x) (p : Addr) (hx : a.eval x = .pointer (some p))
    (cs : List Value) (hs : cs.length = size) (hc : ∀ w, C w → ∀ j u, cs[j]? = some u → w.cell? (p.add j) = some u) (h : wpVal P ops C Q rest (a.put o.dst (.agg cs.toArray))) : wpVal P ops C Q (o :: rest) a := by
  refine ⟨.agg cs.toArray, ?_, h⟩
  rw [if_pos (by simp [Region.wanted, hg])]
  intro w hw
  have hw := hw (by rw [ho]; rfl)
  unfold execOp
  simp only [ho, hx, Instr.loadAt, Instr.sureAddr, Sem.run_bind, Sem.run_pure, Result.andThen_ok, run_loadVar_at A w p cs hs (hc w hw)]

theorem wpVal_oneK {Q : Act → Prop} {a : Act} {o : Oper} {rest : List Oper} (hg : o.guard = none) (h : ∀ K : Act → Prop, (∀ a, wpVal P ops C Q rest a → K a) → ∃ v, (∀ w, (execOp a.eval o).run P w = .ok (.value v) w) ∧ K (a.put o.dst v)) : wpVal P ops C Q (o :: rest) a := by
  obtain ⟨v, h1, h2⟩ := h _ (fun _ h => h)
  exact wpVal_one v hg h1 h2
theorem wpVal_loadK {T : TypeId} {size : Nat} (A : AggOK P T size) {Q : Act → Prop} {a : Act} {o : Oper} {rest : List Oper} (hg : o.guard = none) (x : Operand) (ho : o.op = .load T x) (p : Addr) (hx : a.eval x = .pointer (some p))
    (cs : List Value) (hs : cs.length = size) (hc : ∀ w, C w → ∀ j u, cs[j]? = some u → w.cell? (p.add j) = some u) (h : ∀ K : Act → Prop, (∀ a, wpVal P ops C Q rest a → K a) → K (a.put o.dst (.agg cs.toArray))) : wpVal P ops C Q (o :: rest) a :=
  wpVal_load A hg x ho p hx cs hs hc (h _ (fun _ h => h))
theorem wpVal_take {Q : Act → Prop} {a : Act} {ex : List Nat} {k : Nat} {o : Oper} {r : List Oper} (hq : quietI ex k o = true) (h : wpVal P ops C Q (o :: quietL ex r (k + 1)) a) : wpVal P ops C Q (quietL ex (o :: r) k) a := by
  unfold quietL
  rw [hq]
  exact h
theorem wpVal_skip {Q : Act → Prop} {a : Act} {ex : List Nat} {k : Nat} {o : Oper} {r : List Oper} (hq : quietI ex k o = false) (h : wpVal P ops C Q (quietL ex r (k + 1)) a) : wpVal P ops C Q (quietL ex (o :: r) k) a := by
  unfold quietL
  rw [hq]
  exact h
theorem wpVal_end {Q : Act → Prop} {a : Act} {ex : List Nat} {k : Nat} (h : Q a) : wpVal P ops C Q (quietL ex [] k) a := h

theorem wpVal_vals {Q : Act → Prop} : ∀ (l : List Oper) (a : Act) (N : Nat), a.tmps.size = N → (∀ o ∈ l, ∀ d, o.dst = some d → d < N) → wpVal P ops C Q l a → lateB ops l = true →
    ∃ A, Q A ∧ A.tmps.size = N ∧ A.defers = a.defers ∧ (∀ s, s ∉ dstsOf l → A.tmps[s]? = a.tmps[s]?) ∧ ∀ o ∈ l, ∃ d v, o.dst = some d ∧ A.tmps[d]? = some v ∧ YieldsC P ops C o v A
  | [], a, N, hN, _, h, _ => ⟨a, h, hN, rfl, fun _ _ => rfl, fun o ho => by cases ho⟩
  | o :: r, a, N, hN, hdN, h, hL => by
    obtain ⟨v, hy, h⟩ := h
    unfold lateB at hL
    cases hd : o.dst with
    | none => rw [hd] at hL; simp at hL
    | some d =>
      rw [hd] at hL h
      simp only [Bool.and_eq_true, Bool.not_eq_true', List.all_eq_true] at hL
      obtain ⟨hsel, ⟨hl1, hl2⟩, hL2⟩ := hL
      have hdn := hdN o (List.mem_cons_self ..) d hd
      obtain ⟨A, i1, i2, i3, i4, i5⟩ := wpVal_vals r (a.put (some d) v) N (by simp [Act.put, hN]) (fun o ho => hdN o (List.mem_cons_of_mem _ ho)) h hL2
      have hin : ∀ (l : List Nat) (t : Nat), memN l t = false → t ∉ l := fun l t h hh => by rw [memN_of hh] at h; cases h
      have hput : ∀ s, s ≠ d → (a.put (some d) v).tmps[s]? = a.tmps[s]? := fun s hs => by
        simp only [Act.put]
        rw [Array.getElem?_setIfInBounds, if_neg (fun e => hs e.symm)]
      have hy : YieldsC P ops C o v a := hy
      refine ⟨A, i1, i2, by rw [i3]; rfl, fun s hs => ?_, fun o' ho' => ?_⟩
      · unfold dstsOf at hs
        rw [List.filterMap_cons, hd] at hs
        simp only [List.mem_cons, not_or] at hs
        rw [i4 s hs.2, hput s hs.1]
      · rcases List.mem_cons.1 ho' with rfl | ho'
        · refine ⟨d, v, hd, ?_, hy.of_same hsel fun t ht => ?_⟩
          · rw [i4 d (hin _ _ hl2)]
            simp only [Act.put]
            rw [Array.getElem?_setIfInBounds, if_pos rfl, if_pos (by rw [hN]; exact hdn)]
          · have h1 : t ∉ dstsOf r := fun hh => hin _ _ (hl1 t (by simp [hh])) ht
            have h2 : t ≠ d := fun hh => hin _ _ (hl1 d (by simp)) (hh ▸ ht)
            rw [i4 t h1, hput t h2]
        · exact i5 o' ho'

def dstLt (N : Nat) (l : List Oper) : Bool := l.all fun o => match o.dst with | some d => Nat.blt d N | none => true
/-- A region that draws its order: the computing ones are walked in the text's order, then the others. -/
theorem region_val (C : World → Prop) {id : Nat} {l : List Oper} {a : Act} {Q : Exit → Act → World → Prop} {w : World} (ex : List Nat) (b fuel : Nat) (r : List Nat) (hmx : P.follows .mixedOrders = true)
    (hB : (mixB l ex b fuel && lateB l.toArray (quietL ex l 0)) = true) (hr : loudIdx ex l 0 = r) (hd : dstLt a.tmps.size (quietL ex l 0) = true) (hC : C { w with drawn := w.drawn + 1 })
    (h : wpVal P l.toArray C (fun A => wpLoud P l.toArray C b (fun a' w' => Q .normal a' w') r A { w with drawn := w.drawn + 1 }) (quietL ex l 0) a) : (Code.region id l.toArray true).wp P Q a w := by
  obtain ⟨hB, hL⟩ := Bool.and_eq_true_iff.1 hB
  have M := mixB_ok hB
  obtain ⟨A, hw, i2, i3, i4, i5⟩ := wpVal_vals (quietL ex l 0) a _ rfl (fun o ho d hdd => by
    have := List.all_eq_true.1 hd o ho
    rw [hdd] at this
    exact Nat.blt_eq ▸ this) h hL
  refine wp_region_any hmx ?_
  refine mid_any (C := C) (b := b) (R := fun a' w' => Q .normal a' w') (V := fun i => match (l.toArray[i]?).bind (·.dst) with | some d => A.tmps.getD d undef | none => undef) M (fun _ _ h => h) _ _ _ A _ r ?_ ?_
  · refine ⟨by simp, fun i o ho hd => ?_, by rw [← hr]; exact (loudIdx_spec (ex := ex) l 0).1, fun j => ?_, ?_, i3.symm, fun s hs => ?_, fun i o ho hq _ => ?_, fun _ => hC, hw⟩
    · rw [getD_replicate_false] at hd; cases hd
    · rw [← hr, (loudIdx_spec (ex := ex) l 0).2]
      constructor
      · rintro ⟨i, o, e, h1, h2⟩
        refine ⟨o, ?_, h2, getD_replicate_false _ _⟩
        rw [e, Nat.zero_add]
        simpa using h1
      · rintro ⟨o, h1, h2, _⟩
        exact ⟨j, o, by omega, by simpa using h1, h2⟩
    · exact i2.symm
    · refine (i4 s fun hh => ?_).symm
      unfold dstsOf at hh
      obtain ⟨o, ho, hd⟩ := List.mem_filterMap.1 hh
      obtain ⟨i, h1, h2⟩ := quietL_spec.1 ho
      rw [Nat.zero_add] at h2
      have := hs i o (by simpa using h1) h2 hd
      rw [getD_replicate_false] at this
      cases this
    · obtain ⟨d, v, hd, hv, hy⟩ := i5 o (quietL_spec.2 ⟨i, by simpa using ho, by rw [Nat.zero_add]; exact hq⟩)
      refine ⟨d, hd, ?_, ?_⟩
      · rw [ho]
        simp only [Option.bind_some, hd, Array.getD_eq_getD_getElem?, hv, Option.getD_some]
      · rw [ho]
        simp only [Option.bind_some, hd, Array.getD_eq_getD_getElem?, hv, Option.getD_some]
        exact hy
  · refine Nat.le_trans List.countP_le_length ?_
    simp

/-- A whole element stored in its place. -/
theorem wpLoud_store_el {b : Nat} {R : Act → World → Prop} {T : TypeId} {size : Nat} (A : AggOK P T size) {α : Type} {enc : α → List Value} (hl : ∀ x, (enc x).length = size) (h1 : ∀ x, ∀ v ∈ enc x, v.oneCell' = true) {j : Nat} {r : List Nat} {a : Act} {w : World} {l : List Oper} {o : Oper} (ho : nthOp j l = some o) (hg : o.guard = none)
    (p x : Operand) (hop : o.op = .store T p x) (hd : o.dst = none) {w0 : World} {gb : Nat} {more : List Value} {d : List α} (hS : SRowK enc T w0 w gb more d) {i : Nat} (hi : i < d.length) (y : α) (hp : a.eval p = .pointer (some ⟨gb, i * size, none⟩)) (hx : a.eval x = .agg (enc y).toArray)
    (h : ∀ w', SRowK enc T w0 w' gb more (d.set i y) → (j < b → C w') ∧ wpLoud P l.toArray C b R r a w') : wpLoud P l.toArray C b R (j :: r) a w := by
  obtain ⟨W, hsv, hnew⟩ := store_el A hl h1 hS hi y
  refine wpLoud_one (nthOp_spec ho) hg ?_
  unfold execOp
  simp only [hop, hx, hp, Instr.storeAt, Instr.sureAddr, Sem.run_bind, Sem.run_pure, Result.andThen_ok, hsv]
  rw [hd]
  exact h W hnew
end
end Go.Proofs.Ytojealgjfbjnoaa
