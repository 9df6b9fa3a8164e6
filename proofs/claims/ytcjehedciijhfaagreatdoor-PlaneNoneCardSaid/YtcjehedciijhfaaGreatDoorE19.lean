/- The executor on a function's code. No condition. -/
import Derived.Test.YtcjehedciijhfaaGreatDoorE18
namespace Go.Proofs.YtcjehedciijhfaaGreatDoor.E
open Go.ChangeShapes Go.WideShapes Go.ChangeAt Go.RowKit Go.Deep

inductive Ex where
  | normal
  | exit (id : Nat)
  | ret
/-- What is done behind a piece of code: how it was left, the frame, the marks, the heap. -/
abbrev KT := Ex → Tr V → List Nat → H → Rv
/-- A loop around, that is gone through by a function: its number, what is known of it. -/
abbrev Env := List (Nat × LI)

/-! ### Values and trees whose heads are plain -/
noncomputable def forceT {α β : Type} (t : Tr α) (K : Tr α → β) : β :=
  Tr.rec (motive := fun _ => β) (fun v => K (.tip v)) (fun l r _ _ => K (.bin l r)) t
theorem forceT_eq {α β : Type} (t : Tr α) (K : Tr α → β) : forceT t K = K t := by cases t <;> rfl
noncomputable def forceN {β : Type} (n : Nat) (K : Nat → β) : β :=
  match n with
  | 0 => K 0
  | m + 1 => K (Nat.succ m)
theorem forceN_eq {β : Type} (n : Nat) (K : Nat → β) : forceN n K = K n := by cases n <;> rfl
noncomputable def forceH {β : Type} (h : H) (K : H → β) : β :=
  match h with
  | ⟨t, n⟩ => forceT t fun t => forceN n fun n => K ⟨t, n⟩
theorem forceH_eq {β : Type} (h : H) (K : H → β) : forceH h K = K h := by cases h; simp only [forceH, forceT_eq, forceN_eq]
noncomputable def forceV {β : Type} (v : V) (K : V → β) : β :=
  match v with
  | .int k n => forceI n fun n => K (.int k n)
  | .bool b => forceB b fun b => K (.bool b)
  | .str s => forceL s fun s => K (.str s)
  | .agg l => forceL l fun l => K (.agg l)
  | .tup l => forceL l fun l => K (.tup l)
  | v => K v
theorem forceV_eq {β : Type} (v : V) (K : V → β) : forceV v K = K v := by
  cases v <;> simp only [forceV, forceI_eq, forceB_eq, forceL_eq]

/-! ### Slots -/
noncomputable def putK {β : Type} (N : Nat) (d : Option Nat) (v : V) (fr : Tr V) (K : Tr V → β) : β :=
  match d with
  | none => K fr
  | some d => match Nat.blt d N with
    | true => forceT (fr.set d v) K
    | false => K fr
def dstOf (o : Oper) : Option Nat := o.dst
def nthO : List Oper → Nat → Option Oper
  | [], _ => none
  | a :: _, 0 => some a
  | _ :: l, n + 1 => nthO l n
/-- Is an operation wanted? none: it isn't known. -/
noncomputable def wantsV (N : Nat) (ops : List Oper) (fr : Tr V) (g : Option (Nat × Bool)) : Option Bool :=
  match g with
  | none => some true
  | some (j, b) => match nthO ops j with
    | some o => match o.dst with
      | some d => match Nat.blt d N with
        | true => match fr.get d with
          | .bool c => some (bEq c b)
          | .tup [] => some false
          | _ => none
        | false => none
      | none => none
    | none => none
def depthOf (N : Nat) : Nat :=
  match Nat.ble N 32, Nat.ble N 128, Nat.ble N 512 with
  | true, _, _ => 5
  | false, true, _ => 7
  | false, false, true => 9
  | _, _, _ => 11
noncomputable def argsT : List V → Nat → Tr V → Tr V
  | [], _, t => t
  | v :: l, k, t => argsT l (Nat.succ k) (t.set k v)
/-- A result's values. -/
noncomputable def resV (C : Cf) (N : Nat) (fr : Tr V) (h : H) : List ResultVar → Option (List V)
  | [] => some []
  | .tmp t :: r => match Nat.blt t N, resV C N fr h r with
    | true, some l => some (fr.get t :: l)
    | _, _ => none
  | .cell a t :: r => match Nat.blt a N, resV C N fr h r with
    | true, some l => match fr.get a with
      | .ptr b o => match h.t.get b, C.T.at_ t with
        | .cells m _ _, some ti => match loadV ti m o with
          | some v => some (v :: l)
          | none => none
        | _, _ => none
      | _ => none
    | _, _ => none
def oneOf : List V → V
  | [v] => v
  | l => .tup l
/-- The marks of loops gone through by functions, left behind. -/
noncomputable def dropM : List Nat → H → Option H
  | [], h => some h
  | b :: l, h => match h.t.get b with
    | .dfr => dropM l (h.put b .dead)
    | _ => none
def IHT := Env → Option Nat → Code → Nat → Tr V → List Nat → H → KT → Rv
def allB {α : Type} (f : α → Bool) : List α → Bool
  | [] => true
  | a :: l => match f a with
    | true => allB f l
    | false => false
noncomputable def keptB (h : H) (l : List Tab) : Bool := allB (fun x => beqO (h.t.get x.g) x.o) l
/-- Behind a function's body: marks, results. -/
noncomputable def leaveK (C : Cf) (fn : Func) (K : V → H → Rv) : KT := fun e fr df h => match e with
  | .exit _ => none
  | _ => match dropM df h with
    | none => none
    | some h => match resV C fn.ntmps fr h fn.results.toList with
      | none => none
      | some l => K (oneOf l) h
noncomputable def callK (C : Cf) (ih : IHT) (env : Env) (f : Nat) (args : List V) (h : H) (K : V → H → Rv) : Rv :=
  match C.F.at_ f with
  | none => none
  | some fn => match C.con f args with
  | some v => K v h
  | none => match fn.body, Nat.ble args.length fn.ntmps, Nat.ble fn.ntmps 2048 with
    | some c, true, true => (match C.sums f with
      | some v => (match args, keptB h C.Z with
        | [], true => K v h
        | _, _ => none)
      | none => match C.inl f with
      | true => ih env none c fn.ntmps (argsT args 0 (Tr.full .undef (depthOf fn.ntmps))) [] h (leaveK C fn fun v h => forceV v fun v => forceH h fun h => K v h)
      | false => (match ih env none c fn.ntmps (argsT args 0 (Tr.full .undef (depthOf fn.ntmps))) [] h (leaveK C fn fun v h => some (v, h)) with
        | some (v, h) => forceV v fun v => forceH h fun h => K v h
        | none => none))
    | _, _, _ => none
def lookL : Env → Nat → Option LI
  | [], _ => none
  | e :: r, l => match Nat.beq e.1 l with
    | true => some e.2
    | false => lookL r l
noncomputable def setPs : List Nat → List V → Nat → Tr V → Option (Tr V)
  | [], [], _, t => some t
  | p :: ps, v :: l, N, t => match Nat.blt p N with
    | true => setPs ps l N (t.set p v)
    | false => none
  | _, _, _, _ => none
end Go.Proofs.YtcjehedciijhfaaGreatDoor.E
