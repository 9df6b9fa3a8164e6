/- The executor on a function's code. No condition. || The executor on a function's code, put together. No condition. -/
import Derived.Test.YtamhijbnmhdhbaaE18
namespace Go.Proofs.Ytamhijbnmhdhbaa.E
open Go.ChangeShapes Go.WideShapes Go.ChangeAt Go.RowKit Go.Deep

inductive Ex where
  | normal
  | exit (id : Nat)
  | ret
/-- What is done behind a piece of code: how it was left, the frame, the marks, the heap. -/
abbrev KT := Ex → Tr V → List Nat → H → Rv
/-- A loop around, that is gone through by a function: its number, what is known of it. -/
abbrev Env := List (Nat × LI)

/-! ### Values and trees whose heads are plain -/
noncomputable def forceT {α β : Type} (t : Tr α) (K : Tr α → β) : β :=
  Tr.rec (motive := fun _ => β) (fun v => K (.tip v)) (fun l r _ _ => K (.bin l r)) t
theorem forceT_eq {α β : Type} (t : Tr α) (K : Tr α → β) : forceT t K = K t := by cases t <;> rfl
noncomputable def forceN {β : Type} (n : Nat) (K : Nat → β) : β :=
  match n with
  | 0 => K 0
  | m + 1 => K (Nat.succ m)
theorem forceN_eq {β : Type} (n : Nat) (K : Nat → β) : forceN n K = K n := by cases n <;> rfl
noncomputable def forceH {β : Type} (h : H) (K : H → β) : β :=
  match h with
  | ⟨t, n⟩ => forceT t fun t => forceN n fun n => K ⟨t, n⟩
theorem forceH_eq {β : Type} (h : H) (K : H → β) : forceH h K = K h := by cases h; simp only [forceH, forceT_eq, forceN_eq]
noncomputable def forceV {β : Type} (v : V) (K : V → β) : β :=
  match v with
  | .int k n => forceI n fun n => K (.int k n)
  | .bool b => forceB b fun b => K (.bool b)
  | .str s => forceL s fun s => K (.str s)
  | .agg l => forceL l fun l => K (.agg l)
  | .tup l => forceL l fun l => K (.tup l)
  | v => K v
theorem forceV_eq {β : Type} (v : V) (K : V → β) : forceV v K = K v := by
  cases v <;> simp only [forceV, forceI_eq, forceB_eq, forceL_eq]

/-! ### Slots -/
noncomputable def putK {β : Type} (N : Nat) (d : Option Nat) (v : V) (fr : Tr V) (K : Tr V → β) : β :=
  match d with
  | none => K fr
  | some d => match Nat.blt d N with
    | true => forceT (fr.set d v) K
    | false => K fr
def dstOf (o : Oper) : Option Nat := o.dst
def nthO : List Oper → Nat → Option Oper
  | [], _ => none
  | a :: _, 0 => some a
  | _ :: l, n + 1 => nthO l n
/-- Is an operation wanted? none: it isn't known. -/
noncomputable def wantsV (N : Nat) (ops : List Oper) (fr : Tr V) (g : Option (Nat × Bool)) : Option Bool :=
  match g with
  | none => some true
  | some (j, b) => match nthO ops j with
    | some o => match o.dst with
      | some d => match Nat.blt d N with
        | true => match fr.get d with
          | .bool c => some (bEq c b)
          | .tup [] => some false
          | _ => none
        | false => none
      | none => none
    | none => none
def depthOf (N : Nat) : Nat :=
  match Nat.ble N 32, Nat.ble N 128, Nat.ble N 512 with
  | true, _, _ => 5
  | false, true, _ => 7
  | false, false, true => 9
  | _, _, _ => 11
noncomputable def argsT : List V → Nat → Tr V → Tr V
  | [], _, t => t
  | v :: l, k, t => argsT l (Nat.succ k) (t.set k v)
/-- A result's values. -/
noncomputable def resV (C : Cf) (N : Nat) (fr : Tr V) (h : H) : List ResultVar → Option (List V)
  | [] => some []
  | .tmp t :: r => match Nat.blt t N, resV C N fr h r with
    | true, some l => some (fr.get t :: l)
    | _, _ => none
  | .cell a t :: r => match Nat.blt a N, resV C N fr h r with
    | true, some l => match fr.get a with
      | .ptr b o => match h.t.get b, C.T.at_ t with
        | .cells m _ _, some ti => match loadV ti m o with
          | some v => some (v :: l)
          | none => none
        | _, _ => none
      | _ => none
    | _, _ => none
def oneOf : List V → V
  | [v] => v
  | l => .tup l
/-- The marks of loops gone through by functions, left behind. -/
noncomputable def dropM : List Nat → H → Option H
  | [], h => some h
  | b :: l, h => match h.t.get b with
    | .dfr => dropM l (h.put b .dead)
    | _ => none
def IHT := Env → Option Nat → Code → Nat → Tr V → List Nat → H → KT → Rv
def allB {α : Type} (f : α → Bool) : List α → Bool
  | [] => true
  | a :: l => match f a with
    | true => allB f l
    | false => false
noncomputable def keptB (h : H) (l : List Tab) : Bool := allB (fun x => beqO (h.t.get x.g) x.o) l
/-- Behind a function's body: marks, results. -/
noncomputable def leaveK (C : Cf) (fn : Func) (K : V → H → Rv) : KT := fun e fr df h => match e with
  | .exit _ => none
  | _ => match dropM df h with
    | none => none
    | some h => match resV C fn.ntmps fr h fn.results.toList with
      | none => none
      | some l => K (oneOf l) h
noncomputable def callK (C : Cf) (ih : IHT) (env : Env) (f : Nat) (args : List V) (h : H) (K : V → H → Rv) : Rv :=
  match C.F.at_ f with
  | none => none
  | some fn => match C.con f args with
  | some v => K v h
  | none => match fn.body, Nat.ble args.length fn.ntmps, Nat.ble fn.ntmps 2048 with
    | some c, true, true => (match C.sums f with
      | some v => (match args, keptB h C.Z with
        | [], true => K v h
        | _, _ => none)
      | none => match C.inl f with
      | true => ih env none c fn.ntmps (argsT args 0 (Tr.full .undef (depthOf fn.ntmps))) [] h (leaveK C fn fun v h => forceV v fun v => forceH h fun h => K v h)
      | false => (match ih env none c fn.ntmps (argsT args 0 (Tr.full .undef (depthOf fn.ntmps))) [] h (leaveK C fn fun v h => some (v, h)) with
        | some (v, h) => forceV v fun v => forceH h fun h => K v h
        | none => none))
    | _, _, _ => none
def lookL : Env → Nat → Option LI
  | [], _ => none
  | e :: r, l => match Nat.beq e.1 l with
    | true => some e.2
    | false => lookL r l
noncomputable def setPs : List Nat → List V → Nat → Tr V → Option (Tr V)
  | [], [], _, t => some t
  | p :: ps, v :: l, N, t => match Nat.blt p N with
    | true => setPs ps l N (t.set p v)
    | false => none
  | _, _, _, _ => none
end Go.Proofs.Ytamhijbnmhdhbaa.E
namespace Go.Proofs.Ytamhijbnmhdhbaa.E
open Go.ChangeShapes Go.WideShapes Go.ChangeAt Go.RowKit Go.Deep

/-- A loop's block is laid anew. -/
noncomputable def putL (h : H) (l : Nat) (st : LoopState) (p : Option J) : Option H :=
  match h.t.get l with
  | .loop l' _ _ => match Nat.beq l' l with
    | true => some (h.put l (.loop l st p))
    | false => none
  | _ => none
noncomputable def readyL (h : H) (l : Nat) : Bool :=
  match h.t.get l with
  | .loop l' .ready none => Nat.beq l' l
  | _ => false
noncomputable def endRoundV (h : H) (l : Nat) (e : Ex) : Rv :=
  match e with
  | .normal => match putL h l .ready none with
    | some h => some (.bool true, h)
    | none => none
  | .ret => match putL h l .done (some .ret) with
    | some h => some (.bool false, h)
    | none => none
  | .exit j => match putL h l .done (some (.exit j)) with
    | some h => some (.bool false, h)
    | none => none
noncomputable def roundK (ih : IHT) (env : Env) (l : Nat) (args : List V) (h : H) (K : V → H → Rv) : Rv :=
  match lookL env l, readyL h l with
  | some q, true => match setPs q.ps args q.N q.fr with
    | some fr => match ih env (some l) q.assign q.N fr [] h (fun e fr df h => match e, readyL h l with
        | .normal, true => match putL h l .busy none with
          | some h => forceH h fun h => ih env (some l) q.body q.N fr df h (fun e _ _ h => endRoundV h l e)
          | none => none
        | _, _ => none) with
      | some (v, h) => forceV v fun v => forceH h fun h => K v h
      | none => none
    | none => none
  | _, _ => none
noncomputable def manyK (K : V → H → Rv) (l : List (V × H)) : Rv :=
  List.rec (motive := fun _ => Rv) none (fun p r b => match r with
    | [] => K p.1 p.2
    | _ :: _ => merge (K p.1 p.2) b) l
/-- Behind an operation. -/
noncomputable def stepK (C : Cf) (ih : IHT) (env : Env) (N : Nat) (d : Option Nat) (r : R) (fr : Tr V) (h : H) (K : Tr V → H → Rv) : Rv :=
  match r with
  | .val v => forceV v fun v => putK N d v fr fun fr => K fr h
  | .mem v h' => forceV v fun v => forceH h' fun h => putK N d v fr fun fr => K fr h
  | .done h' => forceH h' fun h => putK N d (.tup []) fr fun fr => K fr h
  | .call f args => callK C ih env f args h fun v h => putK N d v fr fun fr => K fr h
  | .round l args => roundK ih env l args h fun v h => putK N d v fr fun fr => K fr h
  | .many l => manyK (fun v h => forceV v fun v => forceH h fun h => putK N d v fr fun fr => K fr h) l
noncomputable def opsK (C : Cf) (ih : IHT) (env : Env) (N : Nat) (all : List Oper) (l : List Oper) : Tr V → H → (Tr V → H → Rv) → Rv :=
  List.rec (motive := fun _ => Tr V → H → (Tr V → H → Rv) → Rv) (fun fr h K => K fr h) (fun o _ r fr h K => match wantsV N all fr o.guard with
    | none => none
    | some false => putK N o.dst (.tup []) fr fun fr => r fr h K
    | some true => match opR C (ev C.G N fr) h o.op with
      | none => none
      | some x => stepK C ih env N o.dst x fr h fun fr h => r fr h K) l
def exOf : Option J → Ex
  | none => .normal
  | some .ret => .ret
  | some (.exit j) => .exit j
/-- The function that was ranged over has ended. -/
noncomputable def endLK (h : H) (l : Nat) (K : Ex → H → Rv) : Rv :=
  match h.t.get l with
  | .loop _ .busy _ => none
  | .loop _ _ p => K (exOf p) (h.put l .dead)
  | _ => none
noncomputable def rangeK (C : Cf) (ih : IHT) (env : Env) (rd : Option Nat) (g : Operand) (ps : List Nat) (assign body : Code) (N : Nat) (fr : Tr V) (df : List Nat) (h : H) (K : KT) : Rv :=
  match ev C.G N fr g, Nat.blt (Nat.succ h.n) 4096 with
  | .fn f caps, true => match rd with
    | none => forceN h.n fun n => forceH ((h.add .dfr).add (.loop (Nat.succ h.n) .ready none)) fun h' =>
      callK C ih ((Nat.succ n, ⟨fr, depthOf N, N, ps, assign, body, n⟩) :: env) f (.yld (Nat.succ n) :: caps) h' fun _ h => endLK h (Nat.succ n) fun e h => K e fr (n :: df) h
    | some l0 => match lookL env l0, h.t.get l0 with
      | some q, .loop l1 _ _ => match Nat.beq l1 l0 with
        | true => forceN h.n fun n => forceH (h.add (.loop h.n .ready none)) fun h' =>
          callK C ih ((n, ⟨fr, depthOf N, N, ps, assign, body, q.dfr⟩) :: env) f (.yld n :: caps) h' fun _ h => endLK h n fun e h => K e fr df h
        | false => none
      | _, _ => none
  | _, _ => none
/-- How a region that draws its order is gone through. -/
def DrT := Cf → IHT → Env → Nat → List Oper → Tr V → H → (Tr V → H → Rv) → Rv
noncomputable def goB (D : DrT) (C : Cf) (ih : IHT) : IHT := fun env rd c N fr df h K =>
  match c with
  | .skip => K .normal fr df h
  | .label _ => K .normal fr df h
  | .seq a b => ih env rd a N fr df h fun e fr df h => match e with
    | .normal => ih env rd b N fr df h K
    | .exit j => K (.exit j) fr df h
    | .ret => K .ret fr df h
  | .cond c a b => match ev C.G N fr c with
    | .bool true => ih env rd a N fr df h K
    | .bool false => ih env rd b N fr df h K
    | _ => none
  | .block id b => ih env rd b N fr df h fun e fr df h => match e with
    | .normal => K .normal fr df h
    | .exit j => match Nat.beq j id with
      | true => K .normal fr df h
      | false => K (.exit j) fr df h
    | .ret => K .ret fr df h
  | .loop b => ih env rd b N fr df h fun e fr df h => match e with
    | .normal => ih env rd (.loop b) N fr df h K
    | .exit j => K (.exit j) fr df h
    | .ret => K .ret fr df h
  | .exit j => K (.exit j) fr df h
  | .ret => K .ret fr df h
  | .scope b => ih env rd b N fr df h K
  | .region _ ops false => opsK C ih env N ops.toList ops.toList fr h fun fr h => K .normal fr df h
  | .region _ ops true => D C ih env N ops.toList fr h fun fr h => K .normal fr df h
  | .rangeFunc g ps assign body => rangeK C ih env rd g ps.toList assign body N fr df h K
  | _ => none
noncomputable def go (D : DrT) (C : Cf) (n : Nat) : IHT :=
  Nat.rec (motive := fun _ => IHT) (fun _ _ _ _ _ _ _ _ => none) (fun _ ih => goB D C ih) n
end Go.Proofs.Ytamhijbnmhdhbaa.E
