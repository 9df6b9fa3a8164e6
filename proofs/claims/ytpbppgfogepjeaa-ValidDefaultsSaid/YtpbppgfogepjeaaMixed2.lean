/- The check of a mixed region, and the walk of its others. No condition. -/
import Derived.Test.YtpbppgfogepjeaaMixed
namespace Go.Proofs.Ytpbppgfogepjeaa
open Go.ChangeShapes Go.WideShapes Go.ChangeAt Go.RowKit Go.Deep

variable {P : Program} {β : Nat → Nat × Nat} {C : World → Prop} {T : Tab} {ops : Array Oper} {N : Nat}

theorem step1_val (hT : T.Ok P β C) {S S' : St} {a : Act} {o : Oper} (h : step1 T N ops S o = some S') (inv : Inv β S a) (hN : a.tmps.size = N) (hno : S'.obs = []) :
    ∃ d v, o.dst = some d ∧ d < N ∧ Inv β S' (a.put (some d) v) ∧ YieldsC P ops C o v a := by
  have hobs := step1_obs h
  unfold step1 at h
  split at h
  · cases h
  · rename_i d hd
    split at h
    · cases h
    · rename_i hlt0
      have hlt : d < a.tmps.size := by rw [hN]; simpa [Nat.blt_eq] using hlt0
      split at h
      · cases h
      · rename_i gs hgs
        obtain ⟨hw, hgi⟩ := guard_sound inv hgs
        split at h
        · cases h
        · rename_i org sv hout
          obtain ⟨hi, _⟩ := with_sound h inv hgi hlt (outOf_org inv hout)
          refine ⟨d, _, hd, by rw [← hN]; exact hlt, hi, ?_⟩
          unfold YieldsC
          rw [hw]
          cases hh : holds S.G gs
          · simp
          · simp only [if_true]
            exact (outOf_sound hT inv hh hout).1
        · rename_i f l v hout
          have inv1 : Inv β ⟨S.env, S.G, .call f l v :: S.obs⟩ a := ⟨inv.at_, inv.org, inv.gs⟩
          obtain ⟨_, ho⟩ := with_sound h inv1 hgi hlt no_org
          rw [ho] at hno
          cases hno
        · rename_i x y hout
          have inv1 : Inv β ⟨S.env, S.G, .cat x y :: S.obs⟩ a := ⟨inv.at_, inv.org, inv.gs⟩
          obtain ⟨_, ho⟩ := with_sound h inv1 hgi hlt no_org
          rw [ho] at hno
          cases hno
        · rename_i t x i sv hout
          split at h
          rotate_left
          · cases h
          rename_i c hc
          split at h
          rotate_left
          · cases h
          rename_i sv k off
          have inv1 : Inv β ⟨S.env, S.G, .idx c t x i (.ptr k off) :: S.obs⟩ a := ⟨inv.at_, inv.org, inv.gs⟩
          obtain ⟨_, ho⟩ := with_sound h inv1 hgi hlt no_org
          rw [ho] at hno
          cases hno

def lateB (ops : Array Oper) : List Oper → Bool
  | [] => true
  | o :: r => (!isSel o.op) && ((match o.dst with
    | none => false
    | some d => (d :: dstsOf r).all (fun t => !memN (o.looksAt ops) t) && !memN (dstsOf r) d) && lateB ops r)

theorem runL_vals (hT : T.Ok P β C) : ∀ (l : List Oper) (S S' : St) (a : Act), Inv β S a → a.tmps.size = N → runL T N ops l S = some S' → S'.obs = [] → lateB ops l = true →
    ∃ A, Inv β S' A ∧ A.tmps.size = N ∧ A.defers = a.defers ∧ (∀ s, s ∉ dstsOf l → A.tmps[s]? = a.tmps[s]?) ∧ ∀ o ∈ l, ∃ d v, o.dst = some d ∧ A.tmps[d]? = some v ∧ YieldsC P ops C o v A
  | [], S, S', a, inv, hN, h, _, _ => by
    cases h
    exact ⟨a, inv, hN, rfl, fun _ _ => rfl, fun o ho => by cases ho⟩
  | o :: r, S, S', a, inv, hN, h, hno, hL => by
    unfold runL at h
    split at h
    · cases h
    · rename_i S1 h1
      have hno1 : S1.obs = [] := List.eq_nil_iff_forall_not_mem.2 fun ob hob => by
        have := runL_obs h ob hob
        rw [hno] at this
        cases this
      obtain ⟨d, v, hd, hdN, hi, hy⟩ := step1_val hT h1 inv hN hno1
      unfold lateB at hL
      rw [hd] at hL
      simp only [Bool.and_eq_true, Bool.not_eq_true', List.all_eq_true] at hL
      obtain ⟨hsel, ⟨hl1, hl2⟩, hL2⟩ := hL
      obtain ⟨A, i1, i2, i3, i4, i5⟩ := runL_vals hT r S1 S' (a.put (some d) v) hi (by simp [Act.put, hN]) h hno hL2
      have hin : ∀ (l : List Nat) (t : Nat), memN l t = false → t ∉ l := fun l t h hh => by rw [memN_of hh] at h; cases h
      have hput : ∀ s, s ≠ d → (a.put (some d) v).tmps[s]? = a.tmps[s]? := fun s hs => by
        simp only [Act.put]
        rw [Array.getElem?_setIfInBounds, if_neg (fun e => hs e.symm)]
      refine ⟨A, i1, i2, by rw [i3]; rfl, fun s hs => ?_, fun o' ho' => ?_⟩
      · unfold dstsOf at hs
        rw [List.filterMap_cons, hd] at hs
        simp only [List.mem_cons, not_or] at hs
        rw [i4 s hs.2, hput s hs.1]
      · rcases List.mem_cons.1 ho' with rfl | ho'
        · refine ⟨d, v, hd, ?_, hy.of_same hsel fun t ht => ?_⟩
          · rw [i4 d (hin _ _ hl2)]
            simp only [Act.put]
            rw [Array.getElem?_setIfInBounds, if_pos rfl, if_pos (by rw [hN]; exact hdN)]
          · have h1 : t ∉ dstsOf r := fun hh => hin _ _ (hl1 t (by simp [hh])) ht
            have h2 : t ≠ d := fun hh => hin _ _ (hl1 d (by simp)) (hh ▸ ht)
            rw [i4 t h1, hput t h2]
        · exact i5 o' ho'

def idxAll (f : Nat → Oper → Bool) : List Oper → Nat → Bool
  | [], _ => true
  | o :: r, k => f k o && idxAll f r (k + 1)
theorem idxAll_spec {f : Nat → Oper → Bool} : ∀ {l : List Oper} {k : Nat}, idxAll f l k = true → ∀ (i : Nat) (o : Oper), l[i]? = some o → f (k + i) o = true
  | [], _, _, i, o, h => by cases h
  | x :: r, k, hb, i, o, h => by
    unfold idxAll at hb
    simp only [Bool.and_eq_true] at hb
    cases i with
    | zero => cases h; exact hb.1
    | succ i =>
      have := idxAll_spec hb.2 i o h
      rwa [show k + 1 + i = k + (i + 1) by omega] at this

def pairB (ops : Array Oper) (ex : List Nat) (b fuel i j : Nat) (oi oj : Oper) : Bool :=
  (match oj.dst with
   | none => true
   | some t => !memN (oi.looksAt ops) t || ((!quietI ex j oj || oi.after.any (fun e => Region.binds .any e && e.on == j)) && (!(quietI ex i oi && !quietI ex j oj) || reachB ops fuel j i))) &&
  ((match oi.dst with
   | none => true
   | some t => match oj.dst with
     | none => true
     | some u => Nat.beq i j || !Nat.beq t u) &&
  ((!(Nat.blt i j && (!quietI ex i oi && !quietI ex j oj)) || reachB ops fuel j i) &&
   (!((quietI ex i oi && memOp oi.op) && (!quietI ex j oj && Nat.ble b j)) || reachB ops fuel j i)))
def mixB (l : List Oper) (ex : List Nat) (b fuel : Nat) : Bool :=
  ordL l 0 && idxAll (fun i oi => (!isSel oi.op && (!quietI ex i oi || oi.dst.isSome)) && idxAll (fun j oj => pairB l.toArray ex b fuel i j oi oj) l 0) l 0

theorem mixB_ok {l : List Oper} {ex : List Nat} {b fuel : Nat} (h : mixB l ex b fuel = true) : MixOk l.toArray ex b := by
  unfold mixB at h
  simp only [Bool.and_eq_true] at h
  obtain ⟨h1, h2⟩ := h
  have hg : ∀ {i : Nat} {o : Oper}, l.toArray[i]? = some o → l[i]? = some o := fun h => by simpa using h
  have hone : ∀ (i : Nat) (o : Oper), l.toArray[i]? = some o → isSel o.op = false ∧ (quietI ex i o = true → ∃ d, o.dst = some d) := by
    intro i o ho
    have := idxAll_spec h2 i o (hg ho)
    simp only [Bool.and_eq_true, Bool.or_eq_true, Bool.not_eq_true'] at this
    refine ⟨this.1.1, fun hq => ?_⟩
    rcases this.1.2 with h | h
    · rw [Nat.zero_add, hq] at h; cases h
    · exact Option.isSome_iff_exists.1 h
  have hpair : ∀ (i j : Nat) (oi oj : Oper), l.toArray[i]? = some oi → l.toArray[j]? = some oj → pairB l.toArray ex b fuel i j oi oj = true := by
    intro i j oi oj hi hj
    have := idxAll_spec h2 i oi (hg hi)
    simp only [Bool.and_eq_true] at this
    have := idxAll_spec this.2 j oj (hg hj)
    rw [Nat.zero_add, Nat.zero_add] at this
    exact this
  have hin : ∀ (l : List Nat) (t : Nat), memN l t = false → t ∉ l := fun l t h hh => by rw [memN_of hh] at h; cases h
  refine ⟨fun i o ho => ?_, fun i o ho => (hone i o ho).1, fun i j oi oj t hi hj hd ht => ?_, fun i j oi oj t hi hj hdi hdj => ?_, fun i j oi oj hlt hi hj hqi hqj => ⟨fuel, ?_⟩, fun i j oi oj hi hj hqi hm hq hb => ⟨fuel, ?_⟩, fun i o ho => (hone i o ho).2⟩
  · have := ordL_spec h1 i o (hg ho)
    simpa using this
  · have := hpair i j oi oj hi hj
    unfold pairB at this
    rw [hd] at this
    simp only [Bool.and_eq_true, Bool.or_eq_true, Bool.not_eq_true'] at this
    rcases this.1 with h | ⟨h, h'⟩
    · exact absurd ht (hin _ _ h)
    · refine ⟨fun hq => ?_, fun hq hq2 => ⟨fuel, ?_⟩⟩
      · rcases h with h | h
        · rw [hq] at h; cases h
        · obtain ⟨e, he, hb⟩ := Array.any_eq_true'.1 h
          simp only [Bool.and_eq_true, beq_iff_eq] at hb
          exact ⟨e, he, hb.1, hb.2⟩
      · rcases h' with h' | h'
        · rw [hq, hq2] at h'; cases h'
        · exact h'
  · have := hpair i j oi oj hi hj
    unfold pairB at this
    rw [hdi, hdj] at this
    simp only [Bool.and_eq_true, Bool.or_eq_true, Bool.not_eq_true'] at this
    rcases this.2.1 with h | h
    · exact beq_true h
    · rw [Nat.beq_refl] at h; cases h
  · have := hpair i j oi oj hi hj
    unfold pairB at this
    simp only [Bool.and_eq_true, Bool.or_eq_true] at this
    rcases this.2.2.1 with h | h
    · rw [hqi, hqj, show Nat.blt i j = true by simpa using hlt] at h; cases h
    · exact h
  · have := hpair i j oi oj hi hj
    unfold pairB at this
    simp only [Bool.and_eq_true, Bool.or_eq_true] at this
    rcases this.2.2.2 with h | h
    · rw [hqi, hm, hq, show Nat.ble b j = true by simpa using hb] at h; cases h
    · exact h

def loudIdx (ex : List Nat) : List Oper → Nat → List Nat
  | [], _ => []
  | o :: r, k => match quietI ex k o with
    | true => loudIdx ex r (k + 1)
    | false => k :: loudIdx ex r (k + 1)
theorem loudIdx_spec {ex : List Nat} : ∀ (l : List Oper) (k : Nat), (loudIdx ex l k).Pairwise (· < ·) ∧ ∀ j, j ∈ loudIdx ex l k ↔ ∃ i o, j = k + i ∧ l[i]? = some o ∧ quietI ex j o = false
  | [], k => ⟨.nil, fun j => ⟨fun h => (by cases h), fun ⟨i, o, _, h, _⟩ => (by cases h)⟩⟩
  | x :: r, k => by
    obtain ⟨h1, h2⟩ := loudIdx_spec r (k + 1)
    unfold loudIdx
    split
    · rename_i hq
      refine ⟨h1, fun j => ?_⟩
      rw [h2]
      constructor
      · rintro ⟨i, o, e, h, hh⟩
        exact ⟨i + 1, o, by omega, h, hh⟩
      · rintro ⟨i, o, e, h, hh⟩
        cases i with
        | zero => cases h; rw [e, Nat.add_zero, hq] at hh; cases hh
        | succ i => exact ⟨i, o, by omega, h, hh⟩
    · rename_i hq
      refine ⟨List.pairwise_cons.2 ⟨fun j hj => ?_, h1⟩, fun j => ?_⟩
      · obtain ⟨i, o, e, _⟩ := (h2 j).1 hj
        omega
      · rw [List.mem_cons, h2]
        constructor
        · rintro (rfl | ⟨i, o, e, h, hh⟩)
          · exact ⟨0, x, rfl, rfl, hq⟩
          · exact ⟨i + 1, o, by omega, h, hh⟩
        · rintro ⟨i, o, e, h, hh⟩
          cases i with
          | zero => left; exact e
          | succ i => right; exact ⟨i, o, by omega, h, hh⟩

def quietL (ex : List Nat) : List Oper → Nat → List Oper
  | [], _ => []
  | o :: r, k => match quietI ex k o with
    | true => o :: quietL ex r (k + 1)
    | false => quietL ex r (k + 1)
theorem quietL_spec {ex : List Nat} {o : Oper} : ∀ {l : List Oper} {k : Nat}, o ∈ quietL ex l k ↔ ∃ i, l[i]? = some o ∧ quietI ex (k + i) o = true
  | [], k => ⟨fun h => (by cases h), fun ⟨i, h, _⟩ => (by cases h)⟩
  | x :: r, k => by
    unfold quietL
    split
    · rename_i hq
      rw [List.mem_cons, quietL_spec]
      constructor
      · rintro (rfl | ⟨i, h1, h2⟩)
        · exact ⟨0, rfl, hq⟩
        · exact ⟨i + 1, h1, by rw [show k + (i + 1) = k + 1 + i by omega]; exact h2⟩
      · rintro ⟨i, h1, h2⟩
        cases i with
        | zero => cases h1; left; rfl
        | succ i => right; exact ⟨i, h1, by rw [show k + 1 + i = k + (i + 1) by omega]; exact h2⟩
    · rename_i hq
      rw [quietL_spec]
      constructor
      · rintro ⟨i, h1, h2⟩
        exact ⟨i + 1, h1, by rw [show k + (i + 1) = k + 1 + i by omega]; exact h2⟩
      · rintro ⟨i, h1, h2⟩
        cases i with
        | zero => cases h1; rw [Nat.add_zero, hq] at h2; cases h2
        | succ i => exact ⟨i, h1, by rw [show k + 1 + i = k + (i + 1) by omega]; exact h2⟩

theorem region_mixed (C : World → Prop) (β : Nat → Nat × Nat) (T : Tab) {id : Nat} {l : List Oper} {L : List Value} {ds : List Deferred} {Q : Exit → Act → World → Prop} {w : World} (ex : List Nat) (b fuel : Nat) (hmx : P.follows .mixedOrders = true)
    (hB : mixB l ex b fuel = true) (hL : lateB l.toArray (quietL ex l 0) = true) (hC : C { w with drawn := w.drawn + 1 }) (hT : T.Ok P β C) (init kn : List (Nat × SV)) (hN : L.length = N)
    (hI : init.map (fun p => L[p.1]?) = init.map (fun p => some (p.2.den β)))
    (hrun : (runL T N l.toArray (quietL ex l 0) ⟨mkInit init, [], []⟩).map (fun S => (kn.map fun p => outV S p.1, S.obs)) = some (kn.map fun p => some p.2, []))
    (ws : Option (List Nat)) (hws : wsOk ws (dstsOf (quietL ex l 0)) = true) (L' : (Nat → Value) → List Value) (hm : ∀ f, mixL β ws kn f 0 L = L' f) (r : List Nat) (hr : loudIdx ex l 0 = r)
    (h : ∀ f, wpLoud P l.toArray C b (fun a' w' => Q .normal a' w') r ⟨(L' f).toArray, ds⟩ { w with drawn := w.drawn + 1 }) : (Code.region id l.toArray true).wp P Q ⟨L.toArray, ds⟩ w := by
  have M := mixB_ok hB
  obtain ⟨S', hS, he⟩ := Option.map_eq_some_iff.1 hrun
  simp only [Prod.mk.injEq] at he
  obtain ⟨hk, ho⟩ := he
  obtain ⟨A, i1, i2, i3, i4, i5⟩ := runL_vals hT (quietL ex l 0) _ S' _ (mkInit_inv (ds := ds) hI) (by simpa using hN) hS ho hL
  obtain ⟨f, hf⟩ := frame_lit (l := quietL ex l 0) i1 i2 i3 i4 hN hk ws hws L' hm
  have hw := h f
  rw [← hf] at hw
  refine wp_region_any hmx ?_
  refine mid_any (C := C) (b := b) (R := fun a' w' => Q .normal a' w') (V := fun i => match (l.toArray[i]?).bind (·.dst) with | some d => A.tmps.getD d undef | none => undef) M (fun _ _ h => h) _ _ _ A _ r ?_ ?_
  · refine ⟨by simp, fun i o ho hd => ?_, by rw [← hr]; exact (loudIdx_spec (ex := ex) l 0).1, fun j => ?_, ?_, i3.symm, fun s hs => ?_, fun i o ho hq _ => ?_, fun _ => hC, hw⟩
    · rw [getD_replicate_false] at hd; cases hd
    · rw [← hr, (loudIdx_spec (ex := ex) l 0).2]
      constructor
      · rintro ⟨i, o, e, h1, h2⟩
        refine ⟨o, ?_, h2, getD_replicate_false _ _⟩
        rw [e, Nat.zero_add]
        simpa using h1
      · rintro ⟨o, h1, h2, _⟩
        exact ⟨j, o, by omega, by simpa using h1, h2⟩
    · simp [i2, hN]
    · refine (i4 s fun hh => ?_).symm
      unfold dstsOf at hh
      obtain ⟨o, ho, hd⟩ := List.mem_filterMap.1 hh
      obtain ⟨i, h1, h2⟩ := quietL_spec.1 ho
      rw [Nat.zero_add] at h2
      have := hs i o (by simpa using h1) h2 hd
      rw [getD_replicate_false] at this
      cases this
    · obtain ⟨d, v, hd, hv, hy⟩ := i5 o (quietL_spec.2 ⟨i, by simpa using ho, by rw [Nat.zero_add]; exact hq⟩)
      refine ⟨d, hd, ?_, ?_⟩
      · rw [ho]
        simp only [Option.bind_some, hd, Array.getD_eq_getD_getElem?, hv, Option.getD_some]
      · rw [ho]
        simp only [Option.bind_some, hd, Array.getD_eq_getD_getElem?, hv, Option.getD_some]
        exact hy
  · refine Nat.le_trans List.countP_le_length ?_
    simp

variable {b : Nat} {R : Act → World → Prop}
theorem wpLoud_nil {A : Act} {w : World} (h : R A w) : wpLoud P ops C b R [] A w := h
theorem wpLoud_one {j : Nat} {r : List Nat} {A : Act} {w : World} {o : Oper} (ho : ops[j]? = some o) (hg : o.guard = none) (h : loudUpon P (fun v w' => (j < b → C w') ∧ wpLoud P ops C b R r (A.put o.dst v) w') ((execOp A.eval o).run P w)) : wpLoud P ops C b R (j :: r) A w := by
  unfold wpLoud
  simp only [ho]
  rw [if_pos (by unfold Region.wanted; rw [hg])]
  exact h
theorem loud_to {r : List Nat} {A L : Act} {w : World} (h : A = L) (hl : wpLoud P ops C b R r L w) : wpLoud P ops C b R r A w := h ▸ hl
def nthOp : Nat → List Oper → Option Oper
  | _, [] => none
  | 0, o :: _ => some o
  | n + 1, _ :: r => nthOp n r
theorem nthOp_spec : ∀ {j : Nat} {l : List Oper} {o : Oper}, nthOp j l = some o → l.toArray[j]? = some o
  | 0, [], _, h => by cases h
  | _ + 1, [], _, h => by cases h
  | 0, x :: r, o, h => by cases h; rfl
  | n + 1, x :: r, o, h => by
    have := nthOp_spec (l := r) h
    simpa using this

theorem wpLoud_call {j : Nat} {r : List Nat} {A : Act} {w : World} {l : List Oper} {o : Oper} (ho : nthOp j l = some o) (hg : o.guard = none) (f : Nat) (args : List Operand) (ats : Array TypeId) (hop : o.op = .call { callee := .value (.func f), args := args.toArray, argTypes := ats }) {fn : Func} {c : Code} (hf : P.funcs[f]? = some fn)
    (hn : (fn.name == "runtime.NumGoroutine") = false) (hb : fn.body = some c) (vs : List Value) (hv : args.map A.eval = vs) (h : Calls P f vs.toArray w fun e w' => ∃ v, e = .returned v ∧ (j < b → C w') ∧ wpLoud P l.toArray C b R r (A.put o.dst v) w') : wpLoud P l.toArray C b R (j :: r) A w := by
  refine wpLoud_one (nthOp_spec ho) hg ?_
  have h2' : fn.name ≠ "runtime.NumGoroutine" := by simpa using hn
  have h3' : fn.body ≠ none := by rw [hb]; intro e; cases e
  have e2 : (execOp A.eval o).run P w = .ok (.enter f vs.toArray) w := by
    unfold execOp
    have e : (args.toArray.map A.eval) = vs.toArray := by rw [← hv]; simp
    simp only [hop, resolve, e]
    simp [Act.eval, Deferred.ofValue, invoke, callFunc, hf, h2', h3']
  rw [e2]
  exact h
theorem wpLoud_store {j : Nat} {r : List Nat} {A : Act} {w : World} {l : List Oper} {o : Oper} (ho : nthOp j l = some o) (hg : o.guard = none) (t : TypeId) (p x : Operand) (hop : o.op = .store t p x) (q : Addr) (v : Value) (hp : A.eval p = .pointer (some q)) (hx : A.eval x = v)
    (hrun : (Instr.storeAt t (.pointer (some q)) v).run P w = .ok () (w.setCell q v)) (h : (j < b → C (w.setCell q v)) ∧ wpLoud P l.toArray C b R r (A.put o.dst undef) (w.setCell q v)) : wpLoud P l.toArray C b R (j :: r) A w := by
  refine wpLoud_one (nthOp_spec ho) hg ?_
  have e2 : (execOp A.eval o).run P w = .ok .skip (w.setCell q v) := by
    unfold execOp
    simp only [hop, hp, hx]
    rw [Sem.run_bind, hrun]
    rfl
  rw [e2]
  exact h
theorem wpLoud_build {j : Nat} {r : List Nat} {A : Act} {w : World} {l : List Oper} {o : Oper} (ho : nthOp j l = some o) (hg : o.guard = none) (t : TypeId) (n : Nat) (parts : List (Nat × Operand))
    (hop : o.op = .buildSlice t n parts.toArray) (args : List (Nat × Value)) (hargs : parts.map (fun p => (p.1, A.eval p.2)) = args) (cur : Array Value) (e : TypeId)
    (hrun : ∀ w, (Instr.buildSlice t n args.toArray).run P w = .ok (.slice (some ⟨w.heap.size, 0, none⟩) n n) (w.alloc (.cells cur e)))
    (h : (j < b → C (w.alloc (.cells cur e))) ∧ wpLoud P l.toArray C b R r (A.put o.dst (.slice (some ⟨w.heap.size, 0, none⟩) n n)) (w.alloc (.cells cur e))) : wpLoud P l.toArray C b R (j :: r) A w := by
  refine wpLoud_one (nthOp_spec ho) hg ?_
  subst hargs
  have e2 : (execOp A.eval o).run P w = .ok (.value (.slice (some ⟨w.heap.size, 0, none⟩) n n)) (w.alloc (.cells cur e)) := by
    have e : (parts.toArray.map fun (p : Nat × Operand) => (p.1, A.eval p.2)) = (parts.map fun p => (p.1, A.eval p.2)).toArray := by simp
    simp only [execOp, hop]
    rw [e]
    simp [hrun, Result.andThen]
  rw [e2]
  exact h
theorem wpLoud_same {j : Nat} {r : List Nat} {A : Act} {w : World} {l : List Oper} {o : Oper} (v : Value) (ho : nthOp j l = some o) (hg : o.guard = none) (hrun : (execOp A.eval o).run P w = .ok (.value v) w) (h : (j < b → C w) ∧ wpLoud P l.toArray C b R r (A.put o.dst v) w) : wpLoud P l.toArray C b R (j :: r) A w := by
  refine wpLoud_one (nthOp_spec ho) hg ?_
  rw [hrun]
  exact h
end Go.Proofs.Ytpbppgfogepjeaa
