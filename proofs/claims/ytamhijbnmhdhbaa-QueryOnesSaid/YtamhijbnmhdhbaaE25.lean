/- The executor on regions that draw their order: definitions. No condition. -/
import Derived.Test.YtamhijbnmhdhbaaE24
namespace Go.Proofs.Ytamhijbnmhdhbaa.E
open Go.ChangeShapes Go.WideShapes Go.ChangeAt Go.RowKit Go.Deep

/-! ### Operations that lay a block, whatever the heap is -/
def isFresh : Op → Bool
  | .alloc _ => true
  | .box _ _ => true
  | .buildSlice _ _ _ => true
  | .makeMap _ none => true
  | _ => false
noncomputable def freshV (C : Cf) (e : Operand → V) (op : Op) (id : Nat) : Option (O × V) :=
  match op with
  | .alloc t => match C.T.at_ t with
    | some ti => match cellsV ti.zero with
      | some l => some (.cells l t false, .ptr id 0)
      | none => none
    | none => none
  | .box t x => match cellsV (e x) with
    | some l => some (.cells l t false, .ptr id 0)
    | none => none
  | .buildSlice t n parts => match C.T.at_ t with
    | some ti => match ti.d with
      | .sl el => match C.T.at_ el with
        | some te => match rowOf te n (mapP e parts.toList), Nat.ble n 16777216 with
          | some l, true => some (.cells l el false, .sl id 0 n n none)
          | _, _ => none
        | none => none
      | _ => none
    | none => none
  | .makeMap _ none => some (.map [] 0, .map id)
  | _ => none
/-- Operations whose value hangs on no heap. -/
def heapFree : Op → Bool
  | .move _ => true
  | .assign _ => true
  | .pick _ _ _ => true
  | .build _ _ => true
  | .nilCheck _ => true
  | .binOp _ _ _ _ _ => true
  | .unOp _ _ _ => true
  | .makeFunc _ _ _ => true
  | .slice _ _ _ _ _ => true
  | .fieldAddr _ _ _ => true
  | .field _ _ _ => true
  | .indexAddr _ _ _ => true
  | .index _ _ _ => true
  | .extract _ _ => true
  | _ => false

/-! ### What an operation reads -/
def operandsL : Op → List Operand
  | .move x => [x]
  | .assign x => [x]
  | .pick c a b => [c, a, b]
  | .box _ x => [x]
  | .build _ ps => ps.toList.map (·.2)
  | .buildSlice _ _ ps => ps.toList.map (·.2)
  | .load _ x => [x]
  | .store _ a v => [a, v]
  | .nilCheck x => [x]
  | .binOp _ _ a v _ => [a, v]
  | .unOp _ _ x => [x]
  | .convert _ _ x => [x]
  | .makeFunc _ _ caps => caps.toList
  | .slice _ x lo hi mx => x :: (lo.toList ++ (hi.toList ++ mx.toList))
  | .fieldAddr _ x _ => [x]
  | .field _ x _ => [x]
  | .indexAddr _ a v => [a, v]
  | .index _ a v => [a, v]
  | .makeSlice _ a v => [a, v]
  | .lookup _ a v _ => [a, v]
  | .mapUpdate _ m k v => [m, k, v]
  | .insert _ m k v => [m, k, v]
  | .range _ x => [x]
  | .next x _ => [x]
  | .entry x => [x]
  | .extract x _ => [x]
  | .makeInterface _ x => [x]
  | .typeAssert x _ _ _ => [x]
  | .call c => (match c.callee with | .value f => [f] | _ => []) ++ c.args.toList
  | _ => []
def slotsL : List Operand → List Nat
  | [] => []
  | .tmp t :: l => t :: slotsL l
  | _ :: l => slotsL l
/-- The slots that an operation looks at. -/
def looksL (ops : List Oper) (o : Oper) : List Nat :=
  match o.guard with
  | none => slotsL (operandsL o.op)
  | some (j, _) => match nthO ops j with
    | some p => match p.dst with
      | some d => d :: slotsL (operandsL o.op)
      | none => slotsL (operandsL o.op)
    | none => slotsL (operandsL o.op)

/-! ### Who is ahead of whom -/
def bitB (m i : Nat) : Bool := Nat.beq (Nat.land (Nat.shiftRight m i) 1) 1
noncomputable def befOf (T : Tr Nat) (i : Nat) : List Edge → Option Nat
  | [] => some 0
  | e :: l => match Region.binds .any e with
    | false => befOf T i l
    | true => match Nat.blt e.on i, befOf T i l with
      | true, some m => some (Nat.lor (Nat.lor (Nat.shiftLeft 1 e.on) (T.get e.on)) m)
      | _, _ => none
/-- An operation of a region: its place, the operations ahead of it, the number of blocks that are laid ahead of it. -/
structure It where
  i : Nat
  o : Oper
  m : Nat
  rk : Nat
  looks : List Nat
noncomputable def itsA (all : List Oper) : List Oper → Nat → Nat → Tr Nat → Option (List It)
  | [], _, _, _ => some []
  | o :: l, i, rk, T => match befOf T i o.after.toList with
    | none => none
    | some m => match itsA all l (Nat.succ i) (match isFresh o.op with | true => Nat.succ rk | false => rk) (T.set i m) with
      | some r => some (⟨i, o, m, rk, looksL all o⟩ :: r)
      | none => none
def memN (d : Nat) : List Nat → Bool
  | [] => false
  | a :: l => match Nat.beq a d with
    | true => true
    | false => memN d l
/-- a may look at what b writes only where they are ordered; no two write the same slot. -/
def pairOk (a b : It) : Bool :=
  match Nat.beq a.i b.i with
  | true => true
  | false => match b.o.dst with
    | none => true
    | some d => match oEq a.o.dst (some d) with
      | true => false
      | false => match memN d a.looks with
        | false => true
        | true => match Nat.blt a.i b.i with
          | true => bitB b.m a.i
          | false => bitB a.m b.i
noncomputable def its (all : List Oper) : Option (List It) :=
  match Nat.ble all.length 256 with
  | false => none
  | true => match itsA all all 0 0 (Tr.full 0 8) with
    | none => none
    | some l => match allB (fun a => allB (fun b => pairOk a b) l) l with
      | true => some l
      | false => none
def freshN : List Oper → Nat
  | [] => 0
  | o :: l => match isFresh o.op with
    | true => Nat.succ (freshN l)
    | false => freshN l

/-! ### The run in the text's order -/
/-- Blocks laid in this region by operations that are not ahead of one with mask m are forgotten. -/
noncomputable def killS (m : Nat) : List (Nat × Nat) → H → H
  | [], h => h
  | p :: l, h => match bitB m p.1 with
    | true => killS m l h
    | false => killS m l (h.put p.2 .dead)
/-- They come back. -/
noncomputable def backS (m : Nat) (T : H) : List (Nat × Nat) → H → H
  | [], h => h
  | p :: l, h => match bitB m p.1 with
    | true => backS m T l h
    | false => backS m T l (h.put p.2 (T.t.get p.2))
noncomputable def keepV (C : Cf) (N : Nat) (fr : Tr V) (op : Op) (v : V) (h : H) : Bool :=
  match opR C (ev C.G N fr) h op with
  | some (.val u) => beqV u v
  | _ => false
noncomputable def lateOk (f : H → Bool) (m : Nat) (T0 : H) : List (Nat × H) → Bool
  | [] => true
  | p :: l => match bitB m p.1 with
    | true => true
    | false => match f (match l with | [] => T0 | q :: _ => q.2) with
      | true => lateOk f m T0 l
      | false => false
structure Qt where
  i : Nat
  m : Nat
  op : Op
  fr : Tr V
  v : V
noncomputable def soonOk (C : Cf) (N : Nat) (m : Nat) (SL : List (Nat × Nat)) (T : H) : List Qt → Bool
  | [] => true
  | q :: l => match bitB m q.i with
    | true => soonOk C N m SL T l
    | false => match keepV C N q.fr q.op q.v (killS q.m SL T) with
      | true => soonOk C N m SL T l
      | false => false
def allIn (m : Nat) : List (Nat × H) → Bool
  | [] => true
  | p :: l => match bitB m p.1 with
    | true => allIn m l
    | false => false
noncomputable def loudV (C : Cf) (ih : IHT) (env : Env) (h : H) (r : R) : Rv :=
  match r with
  | .val _ => none
  | .mem v h' => some (v, h')
  | .done h' => some (.tup [], h')
  | .call f args => callK C ih env f args h fun v h => some (v, h)
  | .round l args => roundK ih env l args h fun v h => some (v, h)
  | .many _ => none
noncomputable def drun (C : Cf) (ih : IHT) (env : Env) (N : Nat) (all : List Oper) (n0 : Nat) (T0 : H) (K : Tr V → H → Rv) (l : List It) :
    Tr V → H → List (Nat × H) → List Qt → List (Nat × Nat) → Rv :=
  List.rec (motive := fun _ => Tr V → H → List (Nat × H) → List Qt → List (Nat × Nat) → Rv) (fun fr T _ _ _ => K fr T) (fun x _ r fr T Ls Qs SL => match wantsV N all fr x.o.guard with
    | none => none
    | some false => putK N x.o.dst (.tup []) fr fun fr => r fr T Ls Qs SL
    | some true => match isFresh x.o.op with
      | true => match freshV C (ev C.G N fr) x.o.op (n0 + x.rk) with
        | none => none
        | some p => forceV p.2 fun v => forceN (n0 + x.rk) fun id => forceH (T.put id p.1) fun T => putK N x.o.dst v fr fun fr => r fr T Ls Qs ((x.i, id) :: SL)
      | false => forceH (killS x.m SL T) fun M => match opR C (ev C.G N fr) M x.o.op with
        | none => none
        | some (.val v) => forceV v fun v => match heapFree x.o.op with
          | true => putK N x.o.dst v fr fun fr => r fr T Ls Qs SL
          | false => match lateOk (fun h => keepV C N fr x.o.op v (killS x.m SL h)) x.m T0 Ls with
            | true => putK N x.o.dst v fr fun fr' => r fr' T Ls (⟨x.i, x.m, x.o.op, fr, v⟩ :: Qs) SL
            | false => none
        | some res => match loudV C ih env M res with
          | none => none
          | some p => forceV p.1 fun v => forceH p.2 fun M' => forceH (backS x.m T SL M') fun T' => match allIn x.m Ls, soonOk C N x.m SL T' Qs with
            | true, true => putK N x.o.dst v fr fun fr => r fr T' ((x.i, T') :: Ls) Qs SL
            | _, _ => none) l
/-- Blocks are set aside. -/
noncomputable def setAside : Nat → H → H
  | 0, h => h
  | k + 1, h => setAside k (h.add .dead)
noncomputable def drK : DrT := fun C ih env N all fr h K =>
  match its all, Nat.ble (h.n + freshN all) 4096 with
  | some l, true => forceH (setAside (freshN all) h) fun T => drun C ih env N all h.n T K l fr T [] [] []
  | _, _ => none
end Go.Proofs.Ytamhijbnmhdhbaa.E
