/- What text the reference makes of an object. No program. || Five variables out of five fields, in whatever order: the frame and the world behind it. Conditions are of the operations alone. -/
import Derived.Test.YtpbppgfogepjeaaRefRows
import Derived.Test.YtpbppgfogepjeaaCutListM
namespace Go.Proofs.Ytpbppgfogepjeaa
open Go.ChangeShapes Go.WideShapes Go.ChangeAt Go.RowKit Go.Deep

def metS (out : ByteArray) (x : Metric) : ByteArray := ((out ++ intS x.kind) ++ textS x.name) ++ intS x.target
def scS (out : ByteArray) (x : Scaled) : ByteArray := ((out ++ intS x.at_) ++ intS x.from_) ++ intS x.to_
theorem metS_le (out : ByteArray) (x : Metric) : out.size ≤ (metS out x).size := by unfold metS; rw [ByteArray.size_append, ByteArray.size_append, ByteArray.size_append]; omega
theorem scS_le (out : ByteArray) (x : Scaled) : out.size ≤ (scS out x).size := by unfold scS; rw [ByteArray.size_append, ByteArray.size_append, ByteArray.size_append]; omega
def headS (kd : Int) (nm : ByteArray) (ver : Int) : ByteArray := ((putS (u64 kd) 1 ++ textS nm) ++ putS ver 8)
def wlS (h : ByteArray) (x : WlV) : ByteArray := ((((((h ++ intS x.rep) ++ resS x.cpu x.mem) ++ labelsS x.L.xs) ++ asksS x.S.xs) ++ labelsS x.T.xs) ++ intS x.warm)
def podS (h : ByteArray) (x : PodV) : ByteArray := (((((((((h ++ textS x.owner) ++ textS x.node) ++ intS x.phase) ++ intS x.since) ++ resS x.cpu x.mem) ++ labelsS x.L.xs) ++ asksS x.S.xs) ++ labelsS x.T.xs) ++ intS x.warm)
def nodeS (h : ByteArray) (x : NodeV) : ByteArray := ((((((h ++ textS x.group) ++ resS x.cpu x.mem) ++ labelsS x.L.xs) ++ labelsS x.T.xs) ++ intS x.since) ++ truthS x.closed)
def groupS (h : ByteArray) (x : GroupV) : ByteArray := (((((((h ++ intS x.min) ++ intS x.max) ++ intS x.target) ++ resS x.cpu x.mem) ++ labelsS x.L.xs) ++ labelsS x.T.xs) ++ intS x.prio)
def hpa1S (h : ByteArray) (x : HpaV) : ByteArray := (((h ++ textS x.target) ++ intS x.min) ++ intS x.max) ++ putS (u64 (x.M.la : Int)) 1
def hpa2S (h : ByteArray) (x : HpaV) : ByteArray := (((h ++ intS x.tol) ++ behS x.up.win x.up.pick x.up.P.xs) ++ behS x.down.win x.down.pick x.down.P.xs) ++ putS (u64 (x.past.la : Int)) 1
def hpaS (h : ByteArray) (x : HpaV) : ByteArray := x.past.xs.foldl scS (hpa2S (x.M.xs.foldl metS (hpa1S h x)) x)
theorem hpa2S_le (h : ByteArray) (x : HpaV) : h.size ≤ (hpa2S h x).size := by unfold hpa2S; rw [ByteArray.size_append, ByteArray.size_append, ByteArray.size_append, ByteArray.size_append]; omega
theorem hpaS_2 (h : ByteArray) (x : HpaV) : (hpa2S (x.M.xs.foldl metS (hpa1S h x)) x).size ≤ (hpaS h x).size := foldl_le scS_le _ _
theorem hpaS_1 (h : ByteArray) (x : HpaV) : (hpa1S h x).size ≤ (hpaS h x).size := Nat.le_trans (Nat.le_trans (foldl_le metS_le _ _) (hpa2S_le _ _)) (hpaS_2 h x)
def objS (kd : Int) (nm : ByteArray) (ver : Int) (o : ShapesV) : ByteArray :=
  if kd = 0 then wlS (headS kd nm ver) o.w else if kd = 1 then podS (headS kd nm ver) o.p else if kd = 2 then nodeS (headS kd nm ver) o.n else if kd = 3 then groupS (headS kd nm ver) o.g else hpaS (headS kd nm ver) o.h
theorem headS_size (kd : Int) (nm : ByteArray) (ver : Int) : (headS kd nm ver).size = 10 + nm.size := by
  unfold headS
  rw [ByteArray.size_append, ByteArray.size_append, putS_size, putS_size, textS_size]
  omega
end Go.Proofs.Ytpbppgfogepjeaa
namespace Go.Proofs.Ytpbppgfogepjeaa
open Go.ChangeShapes Go.WideShapes Go.ChangeAt Go.RowKit Go.Deep

theorem wpOp_value {P : Program} {ops : Array Oper} {Q : Exit → Act → World → Prop} {i : Nat} {o : Oper} {K : Act → World → Prop} {a : Act} {w w' : World} {v : Value} (ho : ops[i]? = some o) (hg : o.guard = none)
    (hr : (execOp a.eval o).run P w = .ok (.value v) w') (h : K (a.put o.dst v) w') : wpOp P ops Q i K a w := by
  unfold wpOp
  have hw : Region.wanted o (yielded ops a.tmps) = true := by simp [Region.wanted, hg]
  simp only [ho, hw, if_true]
  refine .inl ?_
  unfold Oper.wp
  rw [hr]
  exact h
theorem wpOp_skip {P : Program} {ops : Array Oper} {Q : Exit → Act → World → Prop} {i : Nat} {o : Oper} {K : Act → World → Prop} {a : Act} {w w' : World} (ho : ops[i]? = some o) (hg : o.guard = none) (hd : o.dst = none)
    (hr : (execOp a.eval o).run P w = .ok .skip w') (h : K a w') : wpOp P ops Q i K a w := by
  unfold wpOp
  have hw : Region.wanted o (yielded ops a.tmps) = true := by simp [Region.wanted, hg]
  simp only [ho, hw, if_true]
  refine .inl ?_
  unfold Oper.wp
  rw [hr, Oper.upon_skip, hd]
  exact h

theorem eval_tmp {a : Act} {t : Nat} {v : Value} (h : a.tmps[t]? = some v) : a.eval (.tmp t) = v := by
  simp [Act.eval, h]

theorem getD_put {l : Array Bool} {i j : Nat} (hi : i < l.size) : (l.setIfInBounds i true).getD j false = if i = j then true else l.getD j false := by
  by_cases e : i = j
  · subst e; simp [hi]
  · rw [getD_set_ne false e, if_neg e]

theorem get_put {a : Act} {d t : Nat} {v : Value} (hd : d < a.tmps.size) : (a.put (some d) v).tmps[t]? = if d = t then some v else a.tmps[t]? := by
  simp only [Act.put, Array.getElem?_setIfInBounds]
  by_cases e : d = t
  · subst e; simp [hd]
  · simp [e]

theorem ready_waits {md : Region.Mode} {ops : Array Oper} {l : Array Bool} {j i : Nat} (hr : j ∈ Region.ready md ops l) (h : Region.waitsFor md ops j i = true) : l.getD i false = true := by
  obtain ⟨oj, hoj, e, he, hb, hon⟩ := Region.waitsFor_spec h
  obtain ⟨_, o, ho, hall⟩ := mem_ready.1 hr
  obtain rfl : o = oj := Option.some.inj (ho.symm.trans hoj)
  rw [← hon]
  exact hall e he hb

structure Five (P : Program) where
  Ts : TypeId
  F : Nat → Nat
  off : Nat → Nat
  T : Nat → TypeId
  sz : Nat → Nat
  cs : Nat → List Value
  b1 : Nat

def Five.val {P : Program} (f : Five P) (B : Nat → Nat) (i : Nat) : Value :=
  if i < 10 then (if i % 2 = 0 then .pointer (some ⟨f.b1, f.off (i / 2), none⟩) else .agg (f.cs (i / 2)).toArray) else .pointer (some ⟨B (i - 10), 0, none⟩)

structure FiveOK {P : Program} (f : Five P) : Prop where
  agg : ∀ k, k < 5 → AggOK P (f.T k) (f.sz k)
  len : ∀ k, k < 5 → (f.cs k).length = f.sz k
  one : ∀ k, k < 5 → (f.cs k).all (fun u => u.oneCell') = true
  addr : ∀ k, k < 5 → ∀ w, (Instr.fieldAt f.Ts (.pointer (some ⟨f.b1, 0, none⟩)) (f.F k)).run P w = .ok (.pointer (some ⟨f.b1, f.off k, none⟩)) w

structure FiveOps {P : Program} (f : Five P) (ops : Array Oper) (sl : Nat → Nat) : Prop where
  size : ops.size = 20
  ord : ∀ i o, ops[i]? = some o → ∀ e ∈ o.after, Region.binds .any e = true → e.on < i
  field : ∀ k, k < 5 → ∃ o, ops[2 * k]? = some o ∧ o.dst = some (sl (2 * k)) ∧ o.op = .fieldAddr f.Ts (.tmp 1) (f.F k) ∧ o.guard = none
  load : ∀ k, k < 5 → ∃ o, ops[2 * k + 1]? = some o ∧ o.dst = some (sl (2 * k + 1)) ∧ o.op = .load (f.T k) (.tmp (sl (2 * k))) ∧ o.guard = none ∧ Region.waitsFor .any ops (2 * k + 1) (2 * k) = true
  alloc : ∀ k, k < 5 → ∃ o, ops[10 + k]? = some o ∧ o.dst = some (sl (10 + k)) ∧ o.op = .alloc (f.T k) ∧ o.guard = none
  store : ∀ k, k < 5 → ∃ o, ops[15 + k]? = some o ∧ o.dst = none ∧ o.op = .store (f.T k) (.tmp (sl (10 + k))) (.tmp (sl (2 * k + 1))) ∧ o.guard = none ∧ Region.waitsFor .any ops (15 + k) (10 + k) = true ∧ Region.waitsFor .any ops (15 + k) (2 * k + 1) = true

structure FiveInv {P : Program} (f : Five P) (sl : Nat → Nat) (a0 : Act) (w0 : World) (B : Nat → Nat) (l : Array Bool) (a : Act) (w : World) : Prop where
  size : l.size = 20
  defers : a.defers = a0.defers
  tsz : a.tmps.size = a0.tmps.size
  oth : ∀ t, (∀ i, i < 15 → t ≠ sl i) → a.tmps[t]? = a0.tmps[t]?
  val : ∀ i, i < 15 → l.getD i false = true → a.tmps[sl i]? = some (f.val B i)
  blk : ∀ k, k < 5 → l.getD (10 + k) false = true → w0.heap.size ≤ B k ∧ ∃ cur, w.heap[B k]? = some (.cells cur (f.T k) (0, 0)) ∧ cur.size = f.sz k ∧ (l.getD (15 + k) false = true → cur = (f.cs k).toArray)
  ne : ∀ k j, k < 5 → j < 5 → k ≠ j → l.getD (10 + k) false = true → l.getD (10 + j) false = true → B k ≠ B j
  st : ∀ k, k < 5 → l.getD (15 + k) false = true → l.getD (10 + k) false = true
  bel : Below w0.heap.size w0 w

theorem FiveInv.put {P : Program} {f : Five P} {sl : Nat → Nat} {a0 : Act} {w0 : World} {B : Nat → Nat} {l : Array Bool} {a : Act} {w : World} (h : FiveInv f sl a0 w0 B l a w) {i : Nat} (hi : i < 10)
    (hsl : ∀ i, i < 15 → sl i < a0.tmps.size) (hinj : ∀ i j, i < 15 → j < 15 → sl i = sl j → i = j) : FiveInv f sl a0 w0 B (l.setIfInBounds i true) (a.put (some (sl i)) (f.val B i)) w := by
  have hl : i < l.size := by rw [h.size]; omega
  have hd : sl i < a.tmps.size := by rw [h.tsz]; exact hsl i (by omega)
  refine ⟨by simp [h.size], h.defers, by simp [Act.put, h.tsz], fun t ht => ?_, fun j hj hlj => ?_, fun k hk hlk => ?_, fun k j hk hj hkj h1 h2 => ?_, fun k hk h1 => ?_, h.bel⟩
  · rw [get_put hd, if_neg (fun e => ht i (by omega) e.symm)]; exact h.oth t ht
  · rw [get_put hd]
    by_cases e : sl i = sl j
    · rw [if_pos e, hinj i j (by omega) hj e]
    · rw [if_neg e]
      rw [getD_put hl, if_neg (fun e' => e (by rw [e']))] at hlj
      exact h.val j hj hlj
  · rw [getD_put hl, if_neg (by omega)] at hlk ⊢
    exact h.blk k hk hlk
  · rw [getD_put hl, if_neg (by omega)] at h1 h2
    exact h.ne k j hk hj hkj h1 h2
  · rw [getD_put hl, if_neg (by omega)] at h1 ⊢
    exact h.st k hk h1

theorem FiveInv.alloc {P : Program} {f : Five P} {sl : Nat → Nat} {a0 : Act} {w0 : World} {B : Nat → Nat} {l : Array Bool} {a : Act} {w : World} (h : FiveInv f sl a0 w0 B l a w) {k : Nat} (hk : k < 5) (hun : l.getD (10 + k) false = false) (z : Array Value) (hz : z.size = f.sz k)
    (hsl : ∀ i, i < 15 → sl i < a0.tmps.size) (hinj : ∀ i j, i < 15 → j < 15 → sl i = sl j → i = j) :
    FiveInv f sl a0 w0 (fun j => if j = k then w.heap.size else B j) (l.setIfInBounds (10 + k) true) (a.put (some (sl (10 + k))) (.pointer (some ⟨w.heap.size, 0, none⟩))) (w.alloc (.cells z (f.T k))) := by
  have hl : 10 + k < l.size := by rw [h.size]; omega
  have hd : sl (10 + k) < a.tmps.size := by rw [h.tsz]; exact hsl _ (by omega)
  have hlt : ∀ j, j < 5 → l.getD (10 + j) false = true → B j < w.heap.size := fun j hj hlj => by
    obtain ⟨_, cur, hc, _⟩ := h.blk j hj hlj
    exact (Array.getElem?_eq_some_iff.1 hc).1
  refine ⟨by simp [h.size], h.defers, by simp [Act.put, h.tsz], fun t ht => ?_, fun j hj hlj => ?_, fun j hj hlj => ?_, fun i j hi hj hij h1 h2 => ?_, fun j hj h1 => ?_, h.bel.alloc h.bel.size _⟩
  · rw [get_put hd, if_neg (fun e => ht _ (by omega) e.symm)]; exact h.oth t ht
  · rw [get_put hd]
    by_cases e : sl (10 + k) = sl j
    · have := hinj _ _ (by omega) hj e
      subst this
      rw [if_pos rfl]
      have : ¬ (10 + k < 10) := by omega
      simp [Five.val, this]
    · rw [if_neg e]
      have hne : ¬ (10 + k = j) := fun e' => e (by rw [e'])
      rw [getD_put hl, if_neg hne] at hlj
      rw [h.val j hj hlj]
      unfold Five.val
      by_cases h10 : j < 10
      · simp [h10]
      · have : ¬ (j - 10 = k) := by omega
        simp [h10, this]
  · by_cases e : j = k
    · subst e
      refine ⟨by simp only [if_true]; exact h.bel.size, z, by simp only [if_true]; exact heap_alloc_new w _, hz, fun h1 => ?_⟩
      rw [getD_put hl, if_neg (by omega)] at h1
      have := h.st j hj h1
      rw [hun] at this
      cases this
    · rw [getD_put hl, if_neg (by omega)] at hlj
      obtain ⟨h1, cur, h2, h3, h4⟩ := h.blk j hj hlj
      simp only [if_neg e]
      refine ⟨h1, cur, ?_, h3, fun h5 => ?_⟩
      · rw [Below.heap_alloc w _ _ (hlt j hj hlj)]; exact h2
      · rw [getD_put hl, if_neg (by omega)] at h5
        exact h4 h5
  · rw [getD_put hl] at h1 h2
    by_cases ei : i = k
    · subst ei
      simp only [if_true, if_neg (Ne.symm hij)]
      rw [if_neg (by omega)] at h2
      have := hlt j hj h2
      omega
    · rw [if_neg (by omega)] at h1
      by_cases ej : j = k
      · subst ej
        simp only [if_true, if_neg ei]
        have := hlt i hi h1
        omega
      · rw [if_neg (by omega)] at h2
        simp only [if_neg ei, if_neg ej]
        exact h.ne i j hi hj hij h1 h2
  · rw [getD_put hl, if_neg (by omega)] at h1
    rw [getD_put hl]
    by_cases e : j = k
    · simp [e]
    · rw [if_neg (by omega)]
      exact h.st j hj h1

theorem FiveInv.store {P : Program} {f : Five P} {sl : Nat → Nat} {a0 : Act} {w0 : World} {B : Nat → Nat} {l : Array Bool} {a : Act} {w : World} (h : FiveInv f sl a0 w0 B l a w) {k : Nat} (hk : k < 5) (hlk : l.getD (10 + k) false = true) (hlen : (f.cs k).length = f.sz k) :
    FiveInv f sl a0 w0 B (l.setIfInBounds (15 + k) true) a (w.setRow (B k) (f.cs k).toArray) := by
  have hl : 15 + k < l.size := by rw [h.size]; omega
  obtain ⟨b1, cur, b2, b3, _⟩ := h.blk k hk hlk
  refine ⟨by simp [h.size], h.defers, h.tsz, h.oth, fun j hj hlj => ?_, fun j hj hlj => ?_, fun i j hi hj hij h1 h2 => ?_, fun j hj h1 => ?_, ?_⟩
  · rw [getD_put hl, if_neg (by omega)] at hlj
    exact h.val j hj hlj
  · rw [getD_put hl, if_neg (by omega)] at hlj
    by_cases e : j = k
    · subst e
      exact ⟨b1, (f.cs j).toArray, setRow_heap b2, by simpa using hlen, fun _ => rfl⟩
    · obtain ⟨h1, cur', h2, h3, h4⟩ := h.blk j hj hlj
      have hne : ¬ (B k = B j) := fun e' => h.ne k j hk hj (Ne.symm e) hlk hlj e'
      refine ⟨h1, cur', ?_, h3, fun h5 => ?_⟩
      · simp only [World.setRow, Array.getElem?_modify, if_neg hne]; exact h2
      · rw [getD_put hl, if_neg (by omega)] at h5
        exact h4 h5
  · rw [getD_put hl, if_neg (by omega)] at h1 h2
    exact h.ne i j hi hj hij h1 h2
  · rw [getD_put hl] at h1
    rw [getD_put hl, if_neg (by omega)]
    by_cases e : j = k
    · subst e; exact hlk
    · rw [if_neg (by omega)] at h1
      exact h.st j hj h1
  · have := (Fr.setRow (fun i => w0.heap.size ≤ i) w (B k) (f.cs k).toArray b1)
    exact ⟨this.os.trans h.bel.os, this.tape.trans h.bel.tape, this.output.trans h.bel.output, Nat.le_trans h.bel.size this.size, fun i hi => (this.block i (Nat.lt_of_lt_of_le hi h.bel.size) (by omega)).trans (h.bel.block i hi)⟩
end Go.Proofs.Ytpbppgfogepjeaa
