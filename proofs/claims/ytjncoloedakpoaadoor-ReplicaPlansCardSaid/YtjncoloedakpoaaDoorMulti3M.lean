/- Five variables out of five fields, in whatever order: the frame and the world behind it. Conditions are of the operations alone. || Five variables out of five fields: the region's law. Conditions are of the operations alone. -/
import Derived.Test.YtjncoloedakpoaaDoorHeadM
namespace Go.Proofs.YtjncoloedakpoaaDoor
open Go.ChangeShapes Go.WideShapes Go.ChangeAt Go.RowKit Go.Deep

theorem wpOp_value {P : Program} {ops : Array Oper} {Q : Exit → Act → World → Prop} {i : Nat} {o : Oper} {K : Act → World → Prop} {a : Act} {w w' : World} {v : Value} (ho : ops[i]? = some o) (hg : o.guard = none)
    (hr : (execOp a.eval o).run P w = .ok (.value v) w') (h : K (a.put o.dst v) w') : wpOp P ops Q i K a w := by
  unfold wpOp
  have hw : Region.wanted o (yielded ops a.tmps) = true := by simp [Region.wanted, hg]
  simp only [ho, hw, if_true]
  refine .inl ?_
  unfold Oper.wp
  rw [hr]
  exact h
theorem wpOp_skip {P : Program} {ops : Array Oper} {Q : Exit → Act → World → Prop} {i : Nat} {o : Oper} {K : Act → World → Prop} {a : Act} {w w' : World} (ho : ops[i]? = some o) (hg : o.guard = none) (hd : o.dst = none)
    (hr : (execOp a.eval o).run P w = .ok .skip w') (h : K a w') : wpOp P ops Q i K a w := by
  unfold wpOp
  have hw : Region.wanted o (yielded ops a.tmps) = true := by simp [Region.wanted, hg]
  simp only [ho, hw, if_true]
  refine .inl ?_
  unfold Oper.wp
  rw [hr, Oper.upon_skip, hd]
  exact h

theorem eval_tmp {a : Act} {t : Nat} {v : Value} (h : a.tmps[t]? = some v) : a.eval (.tmp t) = v := by
  simp [Act.eval, h]

theorem getD_put {l : Array Bool} {i j : Nat} (hi : i < l.size) : (l.setIfInBounds i true).getD j false = if i = j then true else l.getD j false := by
  by_cases e : i = j
  · subst e; simp [hi]
  · rw [getD_set_ne false e, if_neg e]

theorem get_put {a : Act} {d t : Nat} {v : Value} (hd : d < a.tmps.size) : (a.put (some d) v).tmps[t]? = if d = t then some v else a.tmps[t]? := by
  simp only [Act.put, Array.getElem?_setIfInBounds]
  by_cases e : d = t
  · subst e; simp [hd]
  · simp [e]

theorem ready_waits {md : Region.Mode} {ops : Array Oper} {l : Array Bool} {j i : Nat} (hr : j ∈ Region.ready md ops l) (h : Region.waitsFor md ops j i = true) : l.getD i false = true := by
  obtain ⟨oj, hoj, e, he, hb, hon⟩ := Region.waitsFor_spec h
  obtain ⟨_, o, ho, hall⟩ := mem_ready.1 hr
  obtain rfl : o = oj := Option.some.inj (ho.symm.trans hoj)
  rw [← hon]
  exact hall e he hb

structure Five (P : Program) where
  Ts : TypeId
  F : Nat → Nat
  off : Nat → Nat
  T : Nat → TypeId
  sz : Nat → Nat
  cs : Nat → List Value
  b1 : Nat

def Five.val {P : Program} (f : Five P) (B : Nat → Nat) (i : Nat) : Value :=
  if i < 10 then (if i % 2 = 0 then .pointer (some ⟨f.b1, f.off (i / 2), none⟩) else .agg (f.cs (i / 2)).toArray) else .pointer (some ⟨B (i - 10), 0, none⟩)

structure FiveOK {P : Program} (f : Five P) : Prop where
  agg : ∀ k, k < 5 → AggOK P (f.T k) (f.sz k)
  len : ∀ k, k < 5 → (f.cs k).length = f.sz k
  one : ∀ k, k < 5 → (f.cs k).all (fun u => u.oneCell') = true
  addr : ∀ k, k < 5 → ∀ w, (Instr.fieldAt f.Ts (.pointer (some ⟨f.b1, 0, none⟩)) (f.F k)).run P w = .ok (.pointer (some ⟨f.b1, f.off k, none⟩)) w

structure FiveOps {P : Program} (f : Five P) (ops : Array Oper) (sl : Nat → Nat) : Prop where
  size : ops.size = 20
  ord : ∀ i o, ops[i]? = some o → ∀ e ∈ o.after, Region.binds .any e = true → e.on < i
  field : ∀ k, k < 5 → ∃ o, ops[2 * k]? = some o ∧ o.dst = some (sl (2 * k)) ∧ o.op = .fieldAddr f.Ts (.tmp 1) (f.F k) ∧ o.guard = none
  load : ∀ k, k < 5 → ∃ o, ops[2 * k + 1]? = some o ∧ o.dst = some (sl (2 * k + 1)) ∧ o.op = .load (f.T k) (.tmp (sl (2 * k))) ∧ o.guard = none ∧ Region.waitsFor .any ops (2 * k + 1) (2 * k) = true
  alloc : ∀ k, k < 5 → ∃ o, ops[10 + k]? = some o ∧ o.dst = some (sl (10 + k)) ∧ o.op = .alloc (f.T k) ∧ o.guard = none
  store : ∀ k, k < 5 → ∃ o, ops[15 + k]? = some o ∧ o.dst = none ∧ o.op = .store (f.T k) (.tmp (sl (10 + k))) (.tmp (sl (2 * k + 1))) ∧ o.guard = none ∧ Region.waitsFor .any ops (15 + k) (10 + k) = true ∧ Region.waitsFor .any ops (15 + k) (2 * k + 1) = true

structure FiveInv {P : Program} (f : Five P) (sl : Nat → Nat) (a0 : Act) (w0 : World) (B : Nat → Nat) (l : Array Bool) (a : Act) (w : World) : Prop where
  size : l.size = 20
  defers : a.defers = a0.defers
  tsz : a.tmps.size = a0.tmps.size
  oth : ∀ t, (∀ i, i < 15 → t ≠ sl i) → a.tmps[t]? = a0.tmps[t]?
  val : ∀ i, i < 15 → l.getD i false = true → a.tmps[sl i]? = some (f.val B i)
  blk : ∀ k, k < 5 → l.getD (10 + k) false = true → w0.heap.size ≤ B k ∧ ∃ cur, w.heap[B k]? = some (.cells cur (f.T k) (0, 0)) ∧ cur.size = f.sz k ∧ (l.getD (15 + k) false = true → cur = (f.cs k).toArray)
  ne : ∀ k j, k < 5 → j < 5 → k ≠ j → l.getD (10 + k) false = true → l.getD (10 + j) false = true → B k ≠ B j
  st : ∀ k, k < 5 → l.getD (15 + k) false = true → l.getD (10 + k) false = true
  bel : Below w0.heap.size w0 w

theorem FiveInv.put {P : Program} {f : Five P} {sl : Nat → Nat} {a0 : Act} {w0 : World} {B : Nat → Nat} {l : Array Bool} {a : Act} {w : World} (h : FiveInv f sl a0 w0 B l a w) {i : Nat} (hi : i < 10)
    (hsl : ∀ i, i < 15 → sl i < a0.tmps.size) (hinj : ∀ i j, i < 15 → j < 15 → sl i = sl j → i = j) : FiveInv f sl a0 w0 B (l.setIfInBounds i true) (a.put (some (sl i)) (f.val B i)) w := by
  have hl : i < l.size := by rw [h.size]; omega
  have hd : sl i < a.tmps.size := by rw [h.tsz]; exact hsl i (by omega)
  refine ⟨by simp [h.size], h.defers, by simp [Act.put, h.tsz], fun t ht => ?_, fun j hj hlj => ?_, fun k hk hlk => ?_, fun k j hk hj hkj h1 h2 => ?_, fun k hk h1 => ?_, h.bel⟩
  · rw [get_put hd, if_neg (fun e => ht i (by omega) e.symm)]; exact h.oth t ht
  · rw [get_put hd]
    by_cases e : sl i = sl j
    · rw [if_pos e, hinj i j (by omega) hj e]
    · rw [if_neg e]
      rw [getD_put hl, if_neg (fun e' => e (by rw [e']))] at hlj
      exact h.val j hj hlj
  · rw [getD_put hl, if_neg (by omega)] at hlk ⊢
    exact h.blk k hk hlk
  · rw [getD_put hl, if_neg (by omega)] at h1 h2
    exact h.ne k j hk hj hkj h1 h2
  · rw [getD_put hl, if_neg (by omega)] at h1 ⊢
    exact h.st k hk h1

theorem FiveInv.alloc {P : Program} {f : Five P} {sl : Nat → Nat} {a0 : Act} {w0 : World} {B : Nat → Nat} {l : Array Bool} {a : Act} {w : World} (h : FiveInv f sl a0 w0 B l a w) {k : Nat} (hk : k < 5) (hun : l.getD (10 + k) false = false) (z : Array Value) (hz : z.size = f.sz k)
    (hsl : ∀ i, i < 15 → sl i < a0.tmps.size) (hinj : ∀ i j, i < 15 → j < 15 → sl i = sl j → i = j) :
    FiveInv f sl a0 w0 (fun j => if j = k then w.heap.size else B j) (l.setIfInBounds (10 + k) true) (a.put (some (sl (10 + k))) (.pointer (some ⟨w.heap.size, 0, none⟩))) (w.alloc (.cells z (f.T k))) := by
  have hl : 10 + k < l.size := by rw [h.size]; omega
  have hd : sl (10 + k) < a.tmps.size := by rw [h.tsz]; exact hsl _ (by omega)
  have hlt : ∀ j, j < 5 → l.getD (10 + j) false = true → B j < w.heap.size := fun j hj hlj => by
    obtain ⟨_, cur, hc, _⟩ := h.blk j hj hlj
    exact (Array.getElem?_eq_some_iff.1 hc).1
  refine ⟨by simp [h.size], h.defers, by simp [Act.put, h.tsz], fun t ht => ?_, fun j hj hlj => ?_, fun j hj hlj => ?_, fun i j hi hj hij h1 h2 => ?_, fun j hj h1 => ?_, h.bel.alloc h.bel.size _⟩
  · rw [get_put hd, if_neg (fun e => ht _ (by omega) e.symm)]; exact h.oth t ht
  · rw [get_put hd]
    by_cases e : sl (10 + k) = sl j
    · have := hinj _ _ (by omega) hj e
      subst this
      rw [if_pos rfl]
      have : ¬ (10 + k < 10) := by omega
      simp [Five.val, this]
    · rw [if_neg e]
      have hne : ¬ (10 + k = j) := fun e' => e (by rw [e'])
      rw [getD_put hl, if_neg hne] at hlj
      rw [h.val j hj hlj]
      unfold Five.val
      by_cases h10 : j < 10
      · simp [h10]
      · have : ¬ (j - 10 = k) := by omega
        simp [h10, this]
  · by_cases e : j = k
    · subst e
      refine ⟨by simp only [if_true]; exact h.bel.size, z, by simp only [if_true]; exact heap_alloc_new w _, hz, fun h1 => ?_⟩
      rw [getD_put hl, if_neg (by omega)] at h1
      have := h.st j hj h1
      rw [hun] at this
      cases this
    · rw [getD_put hl, if_neg (by omega)] at hlj
      obtain ⟨h1, cur, h2, h3, h4⟩ := h.blk j hj hlj
      simp only [if_neg e]
      refine ⟨h1, cur, ?_, h3, fun h5 => ?_⟩
      · rw [Below.heap_alloc w _ _ (hlt j hj hlj)]; exact h2
      · rw [getD_put hl, if_neg (by omega)] at h5
        exact h4 h5
  · rw [getD_put hl] at h1 h2
    by_cases ei : i = k
    · subst ei
      simp only [if_true, if_neg (Ne.symm hij)]
      rw [if_neg (by omega)] at h2
      have := hlt j hj h2
      omega
    · rw [if_neg (by omega)] at h1
      by_cases ej : j = k
      · subst ej
        simp only [if_true, if_neg ei]
        have := hlt i hi h1
        omega
      · rw [if_neg (by omega)] at h2
        simp only [if_neg ei, if_neg ej]
        exact h.ne i j hi hj hij h1 h2
  · rw [getD_put hl, if_neg (by omega)] at h1
    rw [getD_put hl]
    by_cases e : j = k
    · simp [e]
    · rw [if_neg (by omega)]
      exact h.st j hj h1

theorem FiveInv.store {P : Program} {f : Five P} {sl : Nat → Nat} {a0 : Act} {w0 : World} {B : Nat → Nat} {l : Array Bool} {a : Act} {w : World} (h : FiveInv f sl a0 w0 B l a w) {k : Nat} (hk : k < 5) (hlk : l.getD (10 + k) false = true) (hlen : (f.cs k).length = f.sz k) :
    FiveInv f sl a0 w0 B (l.setIfInBounds (15 + k) true) a (w.setRow (B k) (f.cs k).toArray) := by
  have hl : 15 + k < l.size := by rw [h.size]; omega
  obtain ⟨b1, cur, b2, b3, _⟩ := h.blk k hk hlk
  refine ⟨by simp [h.size], h.defers, h.tsz, h.oth, fun j hj hlj => ?_, fun j hj hlj => ?_, fun i j hi hj hij h1 h2 => ?_, fun j hj h1 => ?_, ?_⟩
  · rw [getD_put hl, if_neg (by omega)] at hlj
    exact h.val j hj hlj
  · rw [getD_put hl, if_neg (by omega)] at hlj
    by_cases e : j = k
    · subst e
      exact ⟨b1, (f.cs j).toArray, setRow_heap b2, by simpa using hlen, fun _ => rfl⟩
    · obtain ⟨h1, cur', h2, h3, h4⟩ := h.blk j hj hlj
      have hne : ¬ (B k = B j) := fun e' => h.ne k j hk hj (Ne.symm e) hlk hlj e'
      refine ⟨h1, cur', ?_, h3, fun h5 => ?_⟩
      · simp only [World.setRow, Array.getElem?_modify, if_neg hne]; exact h2
      · rw [getD_put hl, if_neg (by omega)] at h5
        exact h4 h5
  · rw [getD_put hl, if_neg (by omega)] at h1 h2
    exact h.ne i j hi hj hij h1 h2
  · rw [getD_put hl] at h1
    rw [getD_put hl, if_neg (by omega)]
    by_cases e : j = k
    · subst e; exact hlk
    · rw [if_neg (by omega)] at h1
      exact h.st j hj h1
  · have := (Fr.setRow (fun i => w0.heap.size ≤ i) w (B k) (f.cs k).toArray b1)
    exact ⟨this.os.trans h.bel.os, this.tape.trans h.bel.tape, this.output.trans h.bel.output, Nat.le_trans h.bel.size this.size, fun i hi => (this.block i (Nat.lt_of_lt_of_le hi h.bel.size) (by omega)).trans (h.bel.block i hi)⟩
end Go.Proofs.YtjncoloedakpoaaDoor
namespace Go.Proofs.YtjncoloedakpoaaDoor
open Go.ChangeShapes Go.WideShapes Go.ChangeAt Go.RowKit Go.Deep

def Five.sets {P : Program} (f : Five P) (sl : Nat → Nat) (B : Nat → Nat) : List (Nat × Value) := (List.range 15).map fun i => (sl i, f.val B i)

theorem wp_five {P : Program} (f : Five P) {ops : Array Oper} {sl : Nat → Nat} {id : Nat} {Q : Exit → Act → World → Prop} {a : Act} {w : World} (hm : P.follows .mixedOrders = true) (hf : FiveOK f) (ho : FiveOps f ops sl)
    (hsl : ∀ i, i < 15 → sl i < a.tmps.size) (hinj : ∀ i j, i < 15 → j < 15 → sl i = sl j → i = j) (hone : ∀ i, i < 15 → sl i ≠ 1) (h1 : a.tmps[1]? = some (.pointer (some ⟨f.b1, 0, none⟩)))
    (hc : ∀ k, k < 5 → ∀ j u, (f.cs k)[j]? = some u → w.cell? ((⟨f.b1, f.off k, none⟩ : Addr).add j) = some u)
    (h : ∀ (B : Nat → Nat) (w' : World), Below w.heap.size w w' → (∀ k, k < 5 → w.heap.size ≤ B k ∧ w'.heap[B k]? = some (.cells (f.cs k).toArray (f.T k) (0, 0))) → Q .normal (puts a (f.sets sl B)) w') :
    (Code.region id ops true).wp P Q a w := by
  refine wp_region_any hm ?_
  have hbel : Below w.heap.size w { w with drawn := w.drawn + 1 } := ⟨rfl, rfl, rfl, Nat.le_refl _, fun _ _ => rfl⟩
  refine wpAny_inv (fun l a' w' => ∃ B, FiveInv f sl a w B l a' w') (fun l a' w' hI => by obtain ⟨B, hI⟩ := hI; rw [hI.size, ho.size]) ho.ord ?_ ?_ _ _ _ _ (fun _ _ => trivial) ?_ ?_
  · rintro l a' w' i ⟨B, hI⟩ hr
    obtain ⟨hun, o, hoi, _⟩ := mem_ready.1 hr
    have hi : i < 20 := by rw [← ho.size]; exact (Array.getElem?_eq_some_iff.1 hoi).1
    have hun' : l.getD i false = false := by
      have : i < l.size := by rw [hI.size]; exact hi
      simp [this] at hun ⊢
      exact hun
    rcases (show (∃ k, k < 5 ∧ i = 2 * k) ∨ (∃ k, k < 5 ∧ i = 2 * k + 1) ∨ (∃ k, k < 5 ∧ i = 10 + k) ∨ (∃ k, k < 5 ∧ i = 15 + k) by
      rcases Nat.lt_or_ge i 10 with h10 | h10
      · rcases Nat.mod_two_eq_zero_or_one i with e | e
        · exact .inl ⟨i / 2, by omega, by omega⟩
        · exact .inr (.inl ⟨i / 2, by omega, by omega⟩)
      · rcases Nat.lt_or_ge i 15 with h15 | h15
        · exact .inr (.inr (.inl ⟨i - 10, by omega, by omega⟩))
        · exact .inr (.inr (.inr ⟨i - 15, by omega, by omega⟩))) with ⟨k, hk, rfl⟩ | ⟨k, hk, rfl⟩ | ⟨k, hk, rfl⟩ | ⟨k, hk, rfl⟩
    · obtain ⟨o', ho', hd, hop, hg⟩ := ho.field k hk
      have e1 : a'.eval (.tmp 1) = .pointer (some ⟨f.b1, 0, none⟩) := eval_tmp (by rw [hI.oth 1 (fun i hi e => hone i hi e.symm)]; exact h1)
      refine wpOp_value ho' hg (v := .pointer (some ⟨f.b1, f.off k, none⟩)) (w' := w') ?_ ⟨B, ?_⟩
      · unfold execOp
        simp only [hop, e1, Sem.run_bind, hf.addr k hk w', Result.andThen_ok, Sem.run_pure]
      · have := hI.put (i := 2 * k) (by omega) hsl hinj
        have e : f.val B (2 * k) = .pointer (some ⟨f.b1, f.off k, none⟩) := by
          unfold Five.val
          rw [if_pos (by omega), if_pos (by omega), show 2 * k / 2 = k by omega]
        rw [e] at this
        rw [hd]
        exact this
    · obtain ⟨o', ho', hd, hop, hg, hw⟩ := ho.load k hk
      have hl := ready_waits hr hw
      have e1 : a'.eval (.tmp (sl (2 * k))) = .pointer (some ⟨f.b1, f.off k, none⟩) := eval_tmp (by
        rw [hI.val (2 * k) (by omega) hl]
        unfold Five.val
        rw [if_pos (by omega), if_pos (by omega), show 2 * k / 2 = k by omega])
      have hld := run_loadVar_at (hf.agg k hk) w' ⟨f.b1, f.off k, none⟩ (f.cs k) (hf.len k hk) (fun j u hu => Below.cell_some hI.bel (hc k hk j u hu))
      refine wpOp_value ho' hg (v := .agg (f.cs k).toArray) (w' := w') ?_ ⟨B, ?_⟩
      · unfold execOp
        simp only [hop, e1, Instr.loadAt, Instr.sureAddr, Sem.run_bind, Sem.run_pure, Result.andThen_ok, hld]
      · have := hI.put (i := 2 * k + 1) (by omega) hsl hinj
        have e : f.val B (2 * k + 1) = .agg (f.cs k).toArray := by
          unfold Five.val
          rw [if_pos (by omega), if_neg (by omega), show (2 * k + 1) / 2 = k by omega]
        rw [e] at this
        rw [hd]
        exact this
    · obtain ⟨o', ho', hd, hop, hg⟩ := ho.alloc k hk
      obtain ⟨inf, z, hi', hz, hsz, hzc⟩ := (hf.agg k hk).info
      have hal : (Instr.alloc (f.T k) true (.tuple #[])).run P w' = .ok (.pointer (some ⟨w'.heap.size, 0, none⟩)) (w'.alloc (.cells z.cells (f.T k))) := by
        simp [Instr.alloc, zeroValue, typeInfo, hi', hz, newVar, newRow, go_sem]
      refine wpOp_value ho' hg (v := .pointer (some ⟨w'.heap.size, 0, none⟩)) (w' := w'.alloc (.cells z.cells (f.T k))) ?_ ⟨fun j => if j = k then w'.heap.size else B j, ?_⟩
      · unfold execOp
        simp only [hop, Sem.run_bind, hal, Result.andThen_ok, Sem.run_pure]
      · rw [hd]
        exact hI.alloc hk hun' z.cells hzc hsl hinj
    · obtain ⟨o', ho', hd, hop, hg, hw1, hw2⟩ := ho.store k hk
      have hl1 := ready_waits hr hw1
      have hl2 := ready_waits hr hw2
      have e1 : a'.eval (.tmp (sl (10 + k))) = .pointer (some ⟨B k, 0, none⟩) := eval_tmp (by
        rw [hI.val (10 + k) (by omega) hl1]
        unfold Five.val
        rw [if_neg (by omega), show 10 + k - 10 = k by omega])
      have e2 : a'.eval (.tmp (sl (2 * k + 1))) = .agg (f.cs k).toArray := eval_tmp (by
        rw [hI.val (2 * k + 1) (by omega) hl2]
        unfold Five.val
        rw [if_pos (by omega), if_neg (by omega), show (2 * k + 1) / 2 = k by omega])
      obtain ⟨_, cur, b2, b3, _⟩ := hI.blk k hk hl1
      have hs : (f.cs k).toArray.size = f.sz k := by simpa using hf.len k hk
      have hst := run_store_row (hf.agg k hk) w' (B k) 0 cur (f.cs k).toArray b2 hs (by omega) (by simpa using hf.one k hk)
      have e3 : (cur.toList.take 0 ++ (f.cs k).toArray.toList ++ cur.toList.drop (0 + f.sz k)).toArray = (f.cs k).toArray := by
        rw [List.drop_eq_nil_of_le (by simp; omega)]
        simp
      rw [e3] at hst
      refine wpOp_skip ho' hg hd (w' := w'.setRow (B k) (f.cs k).toArray) ?_ ⟨B, ?_⟩
      · unfold execOp
        simp only [hop, e1, e2, Instr.storeAt, Instr.sureAddr, Sem.run_bind, Sem.run_pure, Result.andThen_ok, hst]
      · exact hI.store hk hl1 (hf.len k hk)
  · rintro l a' w' ⟨B, hI⟩ hall
    rw [ho.size] at hall
    have e : a' = puts a (f.sets sl B) := by
      refine puts_eq _ a a' hI.defers hI.tsz ?_ ?_
      · intro p hp
        obtain ⟨i, hi, rfl⟩ := List.mem_map.1 hp
        have hi := List.mem_range.1 hi
        exact hI.val i hi (hall i (by omega))
      · intro t ht
        refine hI.oth t fun i hi e => ?_
        exact ht (sl i, f.val B i) (List.mem_map.2 ⟨i, List.mem_range.2 hi, rfl⟩) e
    rw [e]
    refine h B w' hI.bel fun k hk => ?_
    obtain ⟨b1, cur, b2, _, b4⟩ := hI.blk k hk (hall _ (by omega))
    rw [b4 (hall _ (by omega))] at b2
    exact ⟨b1, b2⟩
  · rw [ho.size]
    refine Nat.le_trans List.countP_le_length ?_
    simp
  · refine ⟨fun _ => 0, by simp [ho.size], rfl, rfl, fun _ _ => rfl, fun i _ hl => ?_, fun k _ hl => ?_, fun k j _ _ _ hl => ?_, fun k _ hl => ?_, hbel⟩
    all_goals
      rw [getD_replicate_false] at hl
      cases hl
end Go.Proofs.YtjncoloedakpoaaDoor
