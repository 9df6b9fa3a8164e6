/- Which labels and asks are right, as plain functions. No condition. || The shapes of an object as values. No condition. -/
import Derived.Test.YtpbppgfogepjeaaName2M
import Derived.Sort.Walk0
namespace Go.Proofs.Ytpbppgfogepjeaa
open Go.ChangeShapes Go.WideShapes Go.ChangeAt Go.RowKit Go.Deep

theorem less_trans {x y z : List UInt8} (h1 : Op.bytesLess x y = true) (h2 : Op.bytesLess y z = true) : Op.bytesLess x z = true := by
  rw [bytesLess_eq, decide_eq_true_iff] at *
  exact List.lt_trans h1 h2

def okVal (v : ByteArray) : Bool := v.toList.isEmpty || nameOf v.data.toList
def okLabel (x : Label) : Bool := nameOf x.key.data.toList && okVal x.val
def keyLt (a b : Label) : Bool := Op.bytesLess a.key.toList b.key.toList

def LabelsOk (xs : List Label) : Prop := (∀ k, (h : k < xs.length) → okLabel xs[k] = true) ∧ (∀ k, (h : k + 1 < xs.length) → keyLt xs[k] xs[k + 1] = true) ∧ xs.length ≤ 8
noncomputable def labelsOk (xs : List Label) : Bool := @decide (LabelsOk xs) (Classical.propDecidable _)

def Good (xs : List Label) (k : Nat) : Prop := (∀ j, (h : j < xs.length) → j < k → okLabel xs[j] = true) ∧ (∀ j, (h : j + 1 < xs.length) → j + 1 < k → keyLt xs[j] xs[j + 1] = true)

theorem Good.zero (xs : List Label) : Good xs 0 := ⟨fun _ _ h => by omega, fun _ _ h => by omega⟩
theorem Good.next {xs : List Label} {k : Nat} (hk : k < xs.length) (h : Good xs k) (h1 : okLabel xs[k] = true) (h2 : ∀ _ : 0 < k, keyLt xs[k - 1] xs[k] = true) : Good xs (k + 1) := by
  refine ⟨fun j hj hjk => ?_, fun j hj hjk => ?_⟩
  · by_cases e : j = k
    · subst e; exact h1
    · exact h.1 j hj (by omega)
  · by_cases e : j + 1 = k
    · subst e; exact h2 (by omega)
    · exact h.2 j hj (by omega)
theorem Good.done {xs : List Label} {k : Nat} (h : Good xs k) (hk : xs.length ≤ k) : labelsOk xs = decide (xs.length ≤ 8) := by
  unfold labelsOk
  rw [decide_eq_decide]
  exact ⟨fun h' => h'.2.2, fun h8 => ⟨fun j hj => h.1 j hj (by omega), fun j hj => h.2 j hj (by omega), h8⟩⟩
theorem labels_no1 {xs : List Label} {k : Nat} (hk : k < xs.length) (h : okLabel xs[k] = false) : labelsOk xs = false := by
  unfold labelsOk
  rw [decide_eq_false_iff_not]
  intro h'
  have := h'.1 k hk
  rw [h] at this
  cases this
theorem rising_all {xs : List Label} (h : ∀ k, (h : k + 1 < xs.length) → keyLt xs[k] xs[k + 1] = true) (i : Nat) : ∀ d, (hj : i + d + 1 < xs.length) → keyLt xs[i] xs[i + d + 1] = true
  | 0, hj => h i hj
  | d + 1, hj => less_trans (rising_all h i d (by omega)) (h (i + d + 1) (by omega))
theorem labels_no2 {xs : List Label} {i j : Nat} (hij : i < j) (hj : j < xs.length) (h : keyLt xs[i] xs[j] = false) : labelsOk xs = false := by
  unfold labelsOk
  rw [decide_eq_false_iff_not]
  intro h'
  obtain ⟨d, rfl⟩ : ∃ d, j = i + d + 1 := ⟨j - i - 1, by omega⟩
  have := rising_all h'.2.1 i d hj
  rw [h] at this
  cases this

def askOk (r : Require) : Bool := (decide (0 ≤ r.op) && decide (r.op ≤ 3)) && ((nameOf r.key.data.toList && okVal r.val) && (decide (r.op < 2) || r.val.toList.isEmpty))
def asksOk (rs : List Require) : Bool := rs.all askOk && decide (rs.length ≤ 8)

def wholeOk (m : Int) : Bool := decide (0 ≤ m) && decide (m ≤ 9007199254740992)
def sizeOk (c m : Int) : Bool := wholeOk c && (wholeOk m && decide (0 < c))
def btw (x l h : Int) : Bool := decide (l ≤ x) && decide (x ≤ h)
noncomputable def wantsOk (c m : Int) (L : List Label) (S : List Require) (T : List Label) (warm : Int) : Bool := sizeOk c m && (labelsOk L && (asksOk S && (labelsOk T && btw warm 0 1800)))
end Go.Proofs.Ytpbppgfogepjeaa
namespace Go.Proofs.Ytpbppgfogepjeaa
open Go.ChangeShapes Go.WideShapes Go.ChangeAt Go.RowKit Go.Deep

structure RowV (α : Type) where
  ao : Option Addr
  la : Nat
  ca : Nat
  xs : List α

structure Metric where
  kind : Int
  name : ByteArray
  target : Int
deriving Inhabited
structure Policy where
  percent : Bool
  value : Int
  period : Int
deriving Inhabited
structure Scaled where
  at_ : Int
  from_ : Int
  to_ : Int
deriving Inhabited
def Metric.cells (x : Metric) : List Value := [.int .i64 x.kind, .string x.name, .int .i64 x.target]
def Policy.cells (x : Policy) : List Value := [.bool x.percent, .int .i64 x.value, .int .i64 x.period]
def Scaled.cells (x : Scaled) : List Value := [.int .i64 x.at_, .int .i64 x.from_, .int .i64 x.to_]

structure WlV where
  rep : Int
  cpu : Int
  mem : Int
  L : RowV Label
  S : RowV Require
  T : RowV Label
  warm : Int
structure PodV where
  owner : ByteArray
  node : ByteArray
  phase : Int
  since : Int
  cpu : Int
  mem : Int
  L : RowV Label
  S : RowV Require
  T : RowV Label
  warm : Int
structure NodeV where
  group : ByteArray
  cpu : Int
  mem : Int
  L : RowV Label
  T : RowV Label
  since : Int
  closed : Bool
structure GroupV where
  min : Int
  max : Int
  target : Int
  cpu : Int
  mem : Int
  L : RowV Label
  T : RowV Label
  prio : Int
structure BehV where
  win : Int
  pick : Int
  P : RowV Policy
structure HpaV where
  target : ByteArray
  min : Int
  max : Int
  M : RowV Metric
  tol : Int
  up : BehV
  down : BehV
  past : RowV Scaled
structure ShapesV where
  w : WlV
  p : PodV
  n : NodeV
  g : GroupV
  h : HpaV

def RowL (w : World) (r : RowV Label) : Prop := SlR (Flat Label.cells) 2 w r.ao r.la r.ca r.xs
def RowS (w : World) (r : RowV Require) : Prop := SlR (Flat Require.cells) 3 w r.ao r.la r.ca r.xs
def RowM (w : World) (r : RowV Metric) : Prop := SlR (Flat Metric.cells) 3 w r.ao r.la r.ca r.xs
def RowP (w : World) (r : RowV Policy) : Prop := SlR (Flat Policy.cells) 3 w r.ao r.la r.ca r.xs
def RowD (w : World) (r : RowV Scaled) : Prop := SlR (Flat Scaled.cells) 3 w r.ao r.la r.ca r.xs

structure WlAt (w : World) (x : WlV) : Prop where
  L : RowL w x.L
  S : RowS w x.S
  T : RowL w x.T
structure PodAt (w : World) (x : PodV) : Prop where
  L : RowL w x.L
  S : RowS w x.S
  T : RowL w x.T
structure NodeAt (w : World) (x : NodeV) : Prop where
  L : RowL w x.L
  T : RowL w x.T
structure GroupAt (w : World) (x : GroupV) : Prop where
  L : RowL w x.L
  T : RowL w x.T
structure HpaAt (w : World) (x : HpaV) : Prop where
  M : RowM w x.M
  U : RowP w x.up.P
  D : RowP w x.down.P
  P : RowD w x.past
structure ShapesAt (wq : World) (o : ShapesV) : Prop where
  w : WlAt wq o.w
  p : PodAt wq o.p
  n : NodeAt wq o.n
  g : GroupAt wq o.g
  h : HpaAt wq o.h

section
variable {w w' : World} (hb : Below w.heap.size w w')
include hb
theorem RowL.b {r} (h : RowL w r) : RowL w' r := SlR.flatKeeps h (Keeps.below hb)
theorem RowS.b {r} (h : RowS w r) : RowS w' r := SlR.flatKeeps h (Keeps.below hb)
theorem RowM.b {r} (h : RowM w r) : RowM w' r := SlR.flatKeeps h (Keeps.below hb)
theorem RowP.b {r} (h : RowP w r) : RowP w' r := SlR.flatKeeps h (Keeps.below hb)
theorem RowD.b {r} (h : RowD w r) : RowD w' r := SlR.flatKeeps h (Keeps.below hb)
theorem WlAt.b {x} (h : WlAt w x) : WlAt w' x := ⟨h.L.b hb, h.S.b hb, h.T.b hb⟩
theorem PodAt.b {x} (h : PodAt w x) : PodAt w' x := ⟨h.L.b hb, h.S.b hb, h.T.b hb⟩
theorem NodeAt.b {x} (h : NodeAt w x) : NodeAt w' x := ⟨h.L.b hb, h.T.b hb⟩
theorem GroupAt.b {x} (h : GroupAt w x) : GroupAt w' x := ⟨h.L.b hb, h.T.b hb⟩
theorem HpaAt.b {x} (h : HpaAt w x) : HpaAt w' x := ⟨h.M.b hb, h.U.b hb, h.D.b hb, h.P.b hb⟩
theorem ShapesAt.b {o} (h : ShapesAt w o) : ShapesAt w' o := ⟨h.w.b hb, h.p.b hb, h.n.b hb, h.g.b hb, h.h.b hb⟩
end

theorem aggMetric : AggOK Try.prog 83 3 := .mk' (by kernel_rfl) (by kernel_rfl)
theorem aggPolicy : AggOK Try.prog 49 3 := .mk' (by kernel_rfl) (by kernel_rfl)
end Go.Proofs.Ytpbppgfogepjeaa
