/- The executor on a function's code, put together. No condition. -/
import Derived.Test.YtcjehedciijhfaaGreatDoorE19
namespace Go.Proofs.YtcjehedciijhfaaGreatDoor.E
open Go.ChangeShapes Go.WideShapes Go.ChangeAt Go.RowKit Go.Deep

/-- A loop's block is laid anew. -/
noncomputable def putL (h : H) (l : Nat) (st : LoopState) (p : Option J) : Option H :=
  match h.t.get l with
  | .loop l' _ _ => match Nat.beq l' l with
    | true => some (h.put l (.loop l st p))
    | false => none
  | _ => none
noncomputable def readyL (h : H) (l : Nat) : Bool :=
  match h.t.get l with
  | .loop l' .ready none => Nat.beq l' l
  | _ => false
noncomputable def endRoundV (h : H) (l : Nat) (e : Ex) : Rv :=
  match e with
  | .normal => match putL h l .ready none with
    | some h => some (.bool true, h)
    | none => none
  | .ret => match putL h l .done (some .ret) with
    | some h => some (.bool false, h)
    | none => none
  | .exit j => match putL h l .done (some (.exit j)) with
    | some h => some (.bool false, h)
    | none => none
noncomputable def roundK (ih : IHT) (env : Env) (l : Nat) (args : List V) (h : H) (K : V → H → Rv) : Rv :=
  match lookL env l, readyL h l with
  | some q, true => match setPs q.ps args q.N q.fr with
    | some fr => match ih env (some l) q.assign q.N fr [] h (fun e fr df h => match e, readyL h l with
        | .normal, true => match putL h l .busy none with
          | some h => forceH h fun h => ih env (some l) q.body q.N fr df h (fun e _ _ h => endRoundV h l e)
          | none => none
        | _, _ => none) with
      | some (v, h) => forceV v fun v => forceH h fun h => K v h
      | none => none
    | none => none
  | _, _ => none
noncomputable def manyK (K : V → H → Rv) (l : List (V × H)) : Rv :=
  List.rec (motive := fun _ => Rv) none (fun p r b => match r with
    | [] => K p.1 p.2
    | _ :: _ => merge (K p.1 p.2) b) l
/-- Behind an operation. -/
noncomputable def stepK (C : Cf) (ih : IHT) (env : Env) (N : Nat) (d : Option Nat) (r : R) (fr : Tr V) (h : H) (K : Tr V → H → Rv) : Rv :=
  match r with
  | .val v => forceV v fun v => putK N d v fr fun fr => K fr h
  | .mem v h' => forceV v fun v => forceH h' fun h => putK N d v fr fun fr => K fr h
  | .done h' => forceH h' fun h => putK N d (.tup []) fr fun fr => K fr h
  | .call f args => callK C ih env f args h fun v h => putK N d v fr fun fr => K fr h
  | .round l args => roundK ih env l args h fun v h => putK N d v fr fun fr => K fr h
  | .many l => manyK (fun v h => forceV v fun v => forceH h fun h => putK N d v fr fun fr => K fr h) l
noncomputable def opsK (C : Cf) (ih : IHT) (env : Env) (N : Nat) (all : List Oper) (l : List Oper) : Tr V → H → (Tr V → H → Rv) → Rv :=
  List.rec (motive := fun _ => Tr V → H → (Tr V → H → Rv) → Rv) (fun fr h K => K fr h) (fun o _ r fr h K => match wantsV N all fr o.guard with
    | none => none
    | some false => putK N o.dst (.tup []) fr fun fr => r fr h K
    | some true => match opR C (ev C.G N fr) h o.op with
      | none => none
      | some x => stepK C ih env N o.dst x fr h fun fr h => r fr h K) l
def exOf : Option J → Ex
  | none => .normal
  | some .ret => .ret
  | some (.exit j) => .exit j
/-- The function that was ranged over has ended. -/
noncomputable def endLK (h : H) (l : Nat) (K : Ex → H → Rv) : Rv :=
  match h.t.get l with
  | .loop _ .busy _ => none
  | .loop _ _ p => K (exOf p) (h.put l .dead)
  | _ => none
noncomputable def rangeK (C : Cf) (ih : IHT) (env : Env) (rd : Option Nat) (g : Operand) (ps : List Nat) (assign body : Code) (N : Nat) (fr : Tr V) (df : List Nat) (h : H) (K : KT) : Rv :=
  match ev C.G N fr g, Nat.blt (Nat.succ h.n) 4096 with
  | .fn f caps, true => match rd with
    | none => forceN h.n fun n => forceH ((h.add .dfr).add (.loop (Nat.succ h.n) .ready none)) fun h' =>
      callK C ih ((Nat.succ n, ⟨fr, depthOf N, N, ps, assign, body, n⟩) :: env) f (.yld (Nat.succ n) :: caps) h' fun _ h => endLK h (Nat.succ n) fun e h => K e fr (n :: df) h
    | some l0 => match lookL env l0, h.t.get l0 with
      | some q, .loop l1 _ _ => match Nat.beq l1 l0 with
        | true => forceN h.n fun n => forceH (h.add (.loop h.n .ready none)) fun h' =>
          callK C ih ((n, ⟨fr, depthOf N, N, ps, assign, body, q.dfr⟩) :: env) f (.yld n :: caps) h' fun _ h => endLK h n fun e h => K e fr df h
        | false => none
      | _, _ => none
  | _, _ => none
/-- How a region that draws its order is gone through. -/
def DrT := Cf → IHT → Env → Nat → List Oper → Tr V → H → (Tr V → H → Rv) → Rv
noncomputable def goB (D : DrT) (C : Cf) (ih : IHT) : IHT := fun env rd c N fr df h K =>
  match c with
  | .skip => K .normal fr df h
  | .label _ => K .normal fr df h
  | .seq a b => ih env rd a N fr df h fun e fr df h => match e with
    | .normal => ih env rd b N fr df h K
    | .exit j => K (.exit j) fr df h
    | .ret => K .ret fr df h
  | .cond c a b => match ev C.G N fr c with
    | .bool true => ih env rd a N fr df h K
    | .bool false => ih env rd b N fr df h K
    | _ => none
  | .block id b => ih env rd b N fr df h fun e fr df h => match e with
    | .normal => K .normal fr df h
    | .exit j => match Nat.beq j id with
      | true => K .normal fr df h
      | false => K (.exit j) fr df h
    | .ret => K .ret fr df h
  | .loop b => ih env rd b N fr df h fun e fr df h => match e with
    | .normal => ih env rd (.loop b) N fr df h K
    | .exit j => K (.exit j) fr df h
    | .ret => K .ret fr df h
  | .exit j => K (.exit j) fr df h
  | .ret => K .ret fr df h
  | .scope b => ih env rd b N fr df h K
  | .region _ ops false => opsK C ih env N ops.toList ops.toList fr h fun fr h => K .normal fr df h
  | .region _ ops true => D C ih env N ops.toList fr h fun fr h => K .normal fr df h
  | .rangeFunc g ps assign body => rangeK C ih env rd g ps.toList assign body N fr df h K
  | _ => none
noncomputable def go (D : DrT) (C : Cf) (n : Nat) : IHT :=
  Nat.rec (motive := fun _ => IHT) (fun _ _ _ _ _ _ _ _ => none) (fun _ ih => goB D C ih) n
end Go.Proofs.YtcjehedciijhfaaGreatDoor.E
