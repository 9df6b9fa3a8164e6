/- The shapes of an object as values. No condition. -/
import Derived.Test.YtmoeddpbmclckaaRightPlain
namespace Go.Proofs.Ytmoeddpbmclckaa
open Go.ChangeShapes Go.WideShapes Go.ChangeAt Go.RowKit Go.Deep

/-- A slice's word, and what it reads as. -/
structure RowV (α : Type) where
  ao : Option Addr
  la : Nat
  ca : Nat
  xs : List α

structure Metric where
  kind : Int
  name : ByteArray
  target : Int
deriving Inhabited
structure Policy where
  percent : Bool
  value : Int
  period : Int
deriving Inhabited
structure Scaled where
  at_ : Int
  from_ : Int
  to_ : Int
deriving Inhabited
def Metric.cells (x : Metric) : List Value := [.int .i64 x.kind, .string x.name, .int .i64 x.target]
def Policy.cells (x : Policy) : List Value := [.bool x.percent, .int .i64 x.value, .int .i64 x.period]
def Scaled.cells (x : Scaled) : List Value := [.int .i64 x.at_, .int .i64 x.from_, .int .i64 x.to_]

structure WlV where
  rep : Int
  cpu : Int
  mem : Int
  L : RowV Label
  S : RowV Require
  T : RowV Label
  warm : Int
structure PodV where
  owner : ByteArray
  node : ByteArray
  phase : Int
  since : Int
  cpu : Int
  mem : Int
  L : RowV Label
  S : RowV Require
  T : RowV Label
  warm : Int
structure NodeV where
  group : ByteArray
  cpu : Int
  mem : Int
  L : RowV Label
  T : RowV Label
  since : Int
  closed : Bool
structure GroupV where
  min : Int
  max : Int
  target : Int
  cpu : Int
  mem : Int
  L : RowV Label
  T : RowV Label
  prio : Int
structure BehV where
  win : Int
  pick : Int
  P : RowV Policy
structure HpaV where
  target : ByteArray
  min : Int
  max : Int
  M : RowV Metric
  tol : Int
  up : BehV
  down : BehV
  past : RowV Scaled
structure ShapesV where
  w : WlV
  p : PodV
  n : NodeV
  g : GroupV
  h : HpaV

def RowL (w : World) (r : RowV Label) : Prop := SlR (Flat Label.cells) 2 w r.ao r.la r.ca r.xs
def RowS (w : World) (r : RowV Require) : Prop := SlR (Flat Require.cells) 3 w r.ao r.la r.ca r.xs
def RowM (w : World) (r : RowV Metric) : Prop := SlR (Flat Metric.cells) 3 w r.ao r.la r.ca r.xs
def RowP (w : World) (r : RowV Policy) : Prop := SlR (Flat Policy.cells) 3 w r.ao r.la r.ca r.xs
def RowD (w : World) (r : RowV Scaled) : Prop := SlR (Flat Scaled.cells) 3 w r.ao r.la r.ca r.xs

structure WlAt (w : World) (x : WlV) : Prop where
  L : RowL w x.L
  S : RowS w x.S
  T : RowL w x.T
structure PodAt (w : World) (x : PodV) : Prop where
  L : RowL w x.L
  S : RowS w x.S
  T : RowL w x.T
structure NodeAt (w : World) (x : NodeV) : Prop where
  L : RowL w x.L
  T : RowL w x.T
structure GroupAt (w : World) (x : GroupV) : Prop where
  L : RowL w x.L
  T : RowL w x.T
structure HpaAt (w : World) (x : HpaV) : Prop where
  M : RowM w x.M
  U : RowP w x.up.P
  D : RowP w x.down.P
  P : RowD w x.past
structure ShapesAt (wq : World) (o : ShapesV) : Prop where
  w : WlAt wq o.w
  p : PodAt wq o.p
  n : NodeAt wq o.n
  g : GroupAt wq o.g
  h : HpaAt wq o.h

section
variable {w w' : World} (hb : Below w.heap.size w w')
include hb
theorem RowL.b {r} (h : RowL w r) : RowL w' r := SlR.flatKeeps h (Keeps.below hb)
theorem RowS.b {r} (h : RowS w r) : RowS w' r := SlR.flatKeeps h (Keeps.below hb)
theorem RowM.b {r} (h : RowM w r) : RowM w' r := SlR.flatKeeps h (Keeps.below hb)
theorem RowP.b {r} (h : RowP w r) : RowP w' r := SlR.flatKeeps h (Keeps.below hb)
theorem RowD.b {r} (h : RowD w r) : RowD w' r := SlR.flatKeeps h (Keeps.below hb)
theorem WlAt.b {x} (h : WlAt w x) : WlAt w' x := ⟨h.L.b hb, h.S.b hb, h.T.b hb⟩
theorem PodAt.b {x} (h : PodAt w x) : PodAt w' x := ⟨h.L.b hb, h.S.b hb, h.T.b hb⟩
theorem NodeAt.b {x} (h : NodeAt w x) : NodeAt w' x := ⟨h.L.b hb, h.T.b hb⟩
theorem GroupAt.b {x} (h : GroupAt w x) : GroupAt w' x := ⟨h.L.b hb, h.T.b hb⟩
theorem HpaAt.b {x} (h : HpaAt w x) : HpaAt w' x := ⟨h.M.b hb, h.U.b hb, h.D.b hb, h.P.b hb⟩
theorem ShapesAt.b {o} (h : ShapesAt w o) : ShapesAt w' o := ⟨h.w.b hb, h.p.b hb, h.n.b hb, h.g.b hb, h.h.b hb⟩
end

theorem aggMetric : AggOK Try.prog 59 3 := .mk' (by kernel_rfl) (by kernel_rfl)
theorem aggPolicy : AggOK Try.prog 62 3 := .mk' (by kernel_rfl) (by kernel_rfl)
theorem aggScaled : AggOK Try.prog 64 3 := .mk' (by kernel_rfl) (by kernel_rfl)
end Go.Proofs.Ytmoeddpbmclckaa
