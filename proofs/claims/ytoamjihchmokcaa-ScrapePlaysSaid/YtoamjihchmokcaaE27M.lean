/- The executor on regions that draw their order: definitions. No condition. || The executor's tables, out of the program itself. No condition. || The executor on regions that draw: what an operation hangs on. No condition. -/
import Derived.Test.YtoamjihchmokcaaE24M
namespace Go.Proofs.Ytoamjihchmokcaa.E
open Go.ChangeShapes Go.WideShapes Go.ChangeAt Go.RowKit Go.Deep

def isFresh : Op → Bool
  | .alloc _ => true
  | .box _ _ => true
  | .buildSlice _ _ _ => true
  | .makeMap _ none => true
  | _ => false
noncomputable def freshV (C : Cf) (e : Operand → V) (op : Op) (id : Nat) : Option (O × V) :=
  match op with
  | .alloc t => match C.T.at_ t with
    | some ti => match cellsV ti.zero with
      | some l => some (.cells l t false, .ptr id 0)
      | none => none
    | none => none
  | .box t x => match cellsV (e x) with
    | some l => some (.cells l t false, .ptr id 0)
    | none => none
  | .buildSlice t n parts => match C.T.at_ t with
    | some ti => match ti.d with
      | .sl el => match C.T.at_ el with
        | some te => match rowOf te n (mapP e parts.toList), Nat.ble n 16777216 with
          | some l, true => some (.cells l el false, .sl id 0 n n none)
          | _, _ => none
        | none => none
      | _ => none
    | none => none
  | .makeMap _ none => some (.map [] 0, .map id)
  | _ => none
def heapFree : Op → Bool
  | .move _ => true
  | .assign _ => true
  | .pick _ _ _ => true
  | .build _ _ => true
  | .nilCheck _ => true
  | .binOp _ _ _ _ _ => true
  | .unOp _ _ _ => true
  | .makeFunc _ _ _ => true
  | .slice _ _ _ _ _ => true
  | .fieldAddr _ _ _ => true
  | .field _ _ _ => true
  | .indexAddr _ _ _ => true
  | .index _ _ _ => true
  | .extract _ _ => true
  | _ => false

def operandsL : Op → List Operand
  | .move x => [x]
  | .assign x => [x]
  | .pick c a b => [c, a, b]
  | .box _ x => [x]
  | .build _ ps => ps.toList.map (·.2)
  | .buildSlice _ _ ps => ps.toList.map (·.2)
  | .load _ x => [x]
  | .store _ a v => [a, v]
  | .nilCheck x => [x]
  | .binOp _ _ a v _ => [a, v]
  | .unOp _ _ x => [x]
  | .convert _ _ x => [x]
  | .makeFunc _ _ caps => caps.toList
  | .slice _ x lo hi mx => x :: (lo.toList ++ (hi.toList ++ mx.toList))
  | .fieldAddr _ x _ => [x]
  | .field _ x _ => [x]
  | .indexAddr _ a v => [a, v]
  | .index _ a v => [a, v]
  | .makeSlice _ a v => [a, v]
  | .lookup _ a v _ => [a, v]
  | .mapUpdate _ m k v => [m, k, v]
  | .insert _ m k v => [m, k, v]
  | .range _ x => [x]
  | .next x _ => [x]
  | .entry x => [x]
  | .extract x _ => [x]
  | .makeInterface _ x => [x]
  | .typeAssert x _ _ _ => [x]
  | .call c => (match c.callee with | .value f => [f] | _ => []) ++ c.args.toList
  | _ => []
def slotsL : List Operand → List Nat
  | [] => []
  | .tmp t :: l => t :: slotsL l
  | _ :: l => slotsL l
def looksL (ops : List Oper) (o : Oper) : List Nat :=
  match o.guard with
  | none => slotsL (operandsL o.op)
  | some (j, _) => match nthO ops j with
    | some p => match p.dst with
      | some d => d :: slotsL (operandsL o.op)
      | none => slotsL (operandsL o.op)
    | none => slotsL (operandsL o.op)

def bitB (m i : Nat) : Bool := Nat.beq (Nat.land (Nat.shiftRight m i) 1) 1
noncomputable def befOf (T : Tr Nat) (i : Nat) : List Edge → Option Nat
  | [] => some 0
  | e :: l => match Region.binds .any e with
    | false => befOf T i l
    | true => match Nat.blt e.on i, befOf T i l with
      | true, some m => some (Nat.lor (Nat.lor (Nat.shiftLeft 1 e.on) (T.get e.on)) m)
      | _, _ => none
structure It where
  i : Nat
  o : Oper
  m : Nat
  rk : Nat
  looks : List Nat
noncomputable def itsA (all : List Oper) : List Oper → Nat → Nat → Tr Nat → Option (List It)
  | [], _, _, _ => some []
  | o :: l, i, rk, T => match befOf T i o.after.toList with
    | none => none
    | some m => match itsA all l (Nat.succ i) (match isFresh o.op with | true => Nat.succ rk | false => rk) (T.set i m) with
      | some r => some (⟨i, o, m, rk, looksL all o⟩ :: r)
      | none => none
def memN (d : Nat) : List Nat → Bool
  | [] => false
  | a :: l => match Nat.beq a d with
    | true => true
    | false => memN d l
def pairOk (a b : It) : Bool :=
  match Nat.beq a.i b.i with
  | true => true
  | false => match b.o.dst with
    | none => true
    | some d => match oEq a.o.dst (some d) with
      | true => false
      | false => match memN d a.looks with
        | false => true
        | true => match Nat.blt a.i b.i with
          | true => bitB b.m a.i
          | false => bitB a.m b.i
noncomputable def its (all : List Oper) : Option (List It) :=
  match Nat.ble all.length 256 with
  | false => none
  | true => match itsA all all 0 0 (Tr.full 0 8) with
    | none => none
    | some l => match allB (fun a => allB (fun b => pairOk a b) l) l with
      | true => some l
      | false => none
def freshN : List Oper → Nat
  | [] => 0
  | o :: l => match isFresh o.op with
    | true => Nat.succ (freshN l)
    | false => freshN l

noncomputable def killS (m : Nat) : List (Nat × Nat) → H → H
  | [], h => h
  | p :: l, h => match bitB m p.1 with
    | true => killS m l h
    | false => killS m l (h.put p.2 .dead)
noncomputable def backS (m : Nat) (T : H) : List (Nat × Nat) → H → H
  | [], h => h
  | p :: l, h => match bitB m p.1 with
    | true => backS m T l h
    | false => backS m T l (h.put p.2 (T.t.get p.2))
noncomputable def keepV (C : Cf) (N : Nat) (fr : Tr V) (op : Op) (v : V) (h : H) : Bool :=
  match opR C (ev C.G N fr) h op with
  | some (.val u) => beqV u v
  | _ => false
noncomputable def lateOk (f : H → Bool) (m : Nat) (T0 : H) : List (Nat × H) → Bool
  | [] => true
  | p :: l => match bitB m p.1 with
    | true => true
    | false => match f (match l with | [] => T0 | q :: _ => q.2) with
      | true => lateOk f m T0 l
      | false => false
structure Qt where
  i : Nat
  m : Nat
  op : Op
  fr : Tr V
  v : V
noncomputable def soonOk (C : Cf) (N : Nat) (m : Nat) (SL : List (Nat × Nat)) (T : H) : List Qt → Bool
  | [] => true
  | q :: l => match bitB m q.i with
    | true => soonOk C N m SL T l
    | false => match keepV C N q.fr q.op q.v (killS q.m SL T) with
      | true => soonOk C N m SL T l
      | false => false
def allIn (m : Nat) : List (Nat × H) → Bool
  | [] => true
  | p :: l => match bitB m p.1 with
    | true => allIn m l
    | false => false
noncomputable def loudV (C : Cf) (ih : IHT) (env : Env) (h : H) (r : R) : Rv :=
  match r with
  | .val _ => none
  | .mem v h' => some (v, h')
  | .done h' => some (.tup [], h')
  | .call f args => callK C ih env f args h fun v h => some (v, h)
  | .round l args => roundK ih env l args h fun v h => some (v, h)
  | .many _ => none
noncomputable def drun (C : Cf) (ih : IHT) (env : Env) (N : Nat) (all : List Oper) (n0 : Nat) (T0 : H) (K : Tr V → H → Rv) (l : List It) :
    Tr V → H → List (Nat × H) → List Qt → List (Nat × Nat) → Rv :=
  List.rec (motive := fun _ => Tr V → H → List (Nat × H) → List Qt → List (Nat × Nat) → Rv) (fun fr T _ _ _ => K fr T) (fun x _ r fr T Ls Qs SL => match wantsV N all fr x.o.guard with
    | none => none
    | some false => putK N x.o.dst (.tup []) fr fun fr => r fr T Ls Qs SL
    | some true => match isFresh x.o.op with
      | true => match freshV C (ev C.G N fr) x.o.op (n0 + x.rk) with
        | none => none
        | some p => forceV p.2 fun v => forceN (n0 + x.rk) fun id => forceH (T.put id p.1) fun T => putK N x.o.dst v fr fun fr => r fr T Ls Qs ((x.i, id) :: SL)
      | false => forceH (killS x.m SL T) fun M => match opR C (ev C.G N fr) M x.o.op with
        | none => none
        | some (.val v) => forceV v fun v => match heapFree x.o.op with
          | true => putK N x.o.dst v fr fun fr => r fr T Ls Qs SL
          | false => match lateOk (fun h => keepV C N fr x.o.op v (killS x.m SL h)) x.m T0 Ls with
            | true => putK N x.o.dst v fr fun fr' => r fr' T Ls (⟨x.i, x.m, x.o.op, fr, v⟩ :: Qs) SL
            | false => none
        | some res => match loudV C ih env M res with
          | none => none
          | some p => forceV p.1 fun v => forceH p.2 fun M' => forceH (backS x.m T SL M') fun T' => match allIn x.m Ls, soonOk C N x.m SL T' Qs with
            | true, true => putK N x.o.dst v fr fun fr => r fr T' ((x.i, T') :: Ls) Qs SL
            | _, _ => none) l
noncomputable def setAside : Nat → H → H
  | 0, h => h
  | k + 1, h => setAside k (h.add .dead)
noncomputable def drK : DrT := fun C ih env N all fr h K =>
  match its all, Nat.ble (h.n + freshN all) 4096 with
  | some l, true => forceH (setAside (freshN all) h) fun T => drun C ih env N all h.n T K l fr T [] [] []
  | _, _ => none
end Go.Proofs.Ytoamjihchmokcaa.E
namespace Go.Proofs.Ytoamjihchmokcaa.E
open Go.ChangeShapes Go.WideShapes Go.ChangeAt Go.RowKit Go.Deep

noncomputable def Tr.tab {α : Type} (d : Nat) : (Nat → α) → Tr α :=
  Nat.rec (motive := fun _ => (Nat → α) → Tr α) (fun f => .tip (f 0)) (fun _ ih f => .bin (ih fun k => f (2 * k)) (ih fun k => f (2 * k + 1))) d
theorem Tr.get_tab {α : Type} : ∀ (d : Nat) (f : Nat → α) (k : Nat), k < 2 ^ d → (Tr.tab d f).get k = f k
  | 0, f, k, h => by
    have : k = 0 := by omega
    subst this
    rfl
  | d + 1, f, k, h => by
    rw [Nat.pow_succ] at h
    show (Tr.bin (Tr.tab d fun k => f (2 * k)) (Tr.tab d fun k => f (2 * k + 1))).get k = f k
    rw [Tr.get_bin]
    split
    · rw [Tr.get_tab d _ _ (by omega)]
      congr 1
      omega
    · rw [Tr.get_tab d _ _ (by omega)]
      congr 1
      omega
noncomputable def funcOf (P : Program) (f : Nat) : Option Func :=
  match P.funcs[f]? with
  | none => none
  | some fn => match fn.name == "runtime.NumGoroutine", fn.body.isSome with
    | false, true => some fn
    | _, _ => none
noncomputable def Cf.of (P : Program) (G : Nat) (A : BinOp → V → V → Option V) (L : Bool → V → Option V) (I : Nat → Bool) (N : Nat → List V → Option V) (S : Nat → Option V) (X : Nat → Bool) (Z : List Tab) : Cf := ⟨⟨2048, Tr.tab 11 (tiOf P)⟩, ⟨2048, Tr.tab 11 (funcOf P)⟩, G, A, L, I, N, S, X, Z⟩
theorem Cf.of_ok (P : Program) (G : Nat) (A : BinOp → V → V → Option V) (L : Bool → V → Option V) (I' : Nat → Bool) (N : Nat → List V → Option V) (S : Nat → Option V) (X : Nat → Bool) (Z : List Tab) (hm : P.follows .mixedOrders = true) (hz : ∀ x ∈ Z, x.g < G)
    (hX : ∀ f, X f = true → ∃ fn, P.funcs[f]? = some fn ∧ (fn.name == "runtime.NumGoroutine") = false ∧ fn.body.isNone = true ∧ Extern.findNext fn = none ∧ Extern.find fn = some Extern.MapsClone.clone)
    (hs : ∀ f v, S f = some v → ∀ w : World, Laid w G Z → Calls P f #[] w fun e w' => ∃ y, e = .returned y ∧ (∀ ι : I, VR ι v y) ∧ Below w.heap.size w w') : (Cf.of P G A L I' N S X Z).Ok P := by
  refine ⟨fun t ti h => ?_, fun f fn h => ?_, hm, hz, hX, hs⟩
  · simp only [Cf.of, Tb.at_] at h
    split at h
    · rename_i hk
      rw [Tr.get_tab 11 _ _ (by simpa [Nat.blt_eq] using hk)] at h
      exact h
    · cases h
  · simp only [Cf.of, Tb.at_] at h
    split at h
    · rename_i hk
      rw [Tr.get_tab 11 _ _ (by simpa [Nat.blt_eq] using hk)] at h
      unfold funcOf at h
      split at h
      · cases h
      · rename_i fn' hf
        split at h
        · rename_i h1 h2
          cases h
          exact ⟨hf, h1, h2⟩
        · cases h
    · cases h
noncomputable def H0 (G : Nat) (l : List (Nat × O)) : H := ⟨List.rec (motive := fun _ => Tr O) (Tr.full .dead DH) (fun p _ r => r.set p.1 p.2) l, G⟩
def noI : Nat → Bool := fun _ => false
def noN : Nat → List V → Option V := fun _ _ => none
def noS : Nat → Option V := fun _ => none
def noX : Nat → Bool := fun _ => false
noncomputable def HT (G : Nat) (l : List Tab) : H := H0 G (l.map fun x => (x.g, x.o))
noncomputable def says (D : DrT) (P : Program) (n f G : Nat) (A : BinOp → V → V → Option V) (L : Bool → V → Option V) (I : Nat → Bool) (N : Nat → List V → Option V) (S : Nat → Option V) (X : Nat → Bool) (Z : List Tab) (args : List V) (b : Bool) : Bool :=
  match callK (Cf.of P G A L I N S X Z) (go D (Cf.of P G A L I N S X Z) n) [] f args (HT G Z) fun v h => some (v, h) with
  | some (.bool c, h) => bEq c b && keptB h Z
  | _ => false
end Go.Proofs.Ytoamjihchmokcaa.E
namespace Go.Proofs.Ytoamjihchmokcaa.E
open Go.ChangeShapes Go.WideShapes Go.ChangeAt Go.RowKit Go.Deep

section
variable {C : Cf} {e e' : Operand → V} {h h' : H}
theorem mapV_congr : ∀ (l : List Operand), (∀ x ∈ l, e x = e' x) → mapV e l = mapV e' l
  | [], _ => rfl
  | x :: l, q => by
    simp only [mapV]
    rw [q x (by simp), mapV_congr l fun y hy => q y (by simp [hy])]
theorem mapP_congr : ∀ (l : List (Nat × Operand)), (∀ x ∈ l.map (·.2), e x = e' x) → mapP e l = mapP e' l
  | [], _ => rfl
  | x :: l, q => by
    simp only [mapP]
    rw [q x.2 (by simp), mapP_congr l fun y hy => q y (by rw [List.map_cons]; exact List.mem_cons_of_mem _ hy)]
theorem mapO_congr : ∀ (o : Option Operand), (∀ x ∈ o.toList, e x = e' x) → mapO e o = mapO e' o
  | none, _ => rfl
  | some x, q => by simp only [mapO]; rw [q x (by simp)]
theorem callR_congr (c : Call) (q : ∀ x ∈ operandsL (.call c), e x = e' x) : callR C e h c = callR C e' h c := by
  obtain ⟨callee, args, ats⟩ := c
  simp only [operandsL, List.mem_append] at q
  have qa : ∀ x ∈ args.toList, e x = e' x := fun x hx => q x (.inr hx)
  have qm := mapV_congr _ qa
  unfold callR
  dsimp only
  cases callee with
  | value f =>
    dsimp only
    rw [q f (.inl (by simp)), qm]
  | invoke _ _ => rfl
  | builtin b =>
    dsimp only
    have h1 : ∀ x, args = ⟨[x]⟩ → e x = e' x := fun x hx => qa x (by rw [hx]; simp)
    have h2 : ∀ x y, args = ⟨[x, y]⟩ → e x = e' x ∧ e y = e' y := fun x y hx => ⟨qa x (by rw [hx]; simp), qa y (by rw [hx]; simp)⟩
    cases b <;> try rfl
    case min => dsimp only; rw [qm]
    case max => dsimp only; rw [qm]
    all_goals
      clear qm qa q
      obtain ⟨args⟩ := args
      rcases ats with ⟨_ | ⟨t, _ | ⟨u, _ | ⟨z, ats⟩⟩⟩⟩ <;>
      match args, h1, h2 with
      | [], _, _ => rfl
      | [x], h1, _ => first | rfl | (dsimp only; rw [h1 x rfl])
      | [x, y], _, h2 => first | rfl | (dsimp only; rw [(h2 x y rfl).1, (h2 x y rfl).2])
      | _ :: _ :: _ :: _, _, _ => rfl
theorem opR_congr (op : Op) (q : ∀ x ∈ operandsL op, e x = e' x) : opR C e h op = opR C e' h op := by
  cases op with
  | call c => exact callR_congr c q
  | build t ps =>
    unfold opR
    dsimp only
    rw [mapP_congr ps.toList q]
  | buildSlice t n ps =>
    unfold opR
    dsimp only
    rw [mapP_congr ps.toList q]
  | slice t x lo hi mx =>
    simp only [operandsL, List.mem_cons, List.mem_append] at q
    unfold opR
    dsimp only
    rw [q x (.inl rfl), mapO_congr lo fun y hy => q y (.inr (.inl hy)), mapO_congr hi fun y hy => q y (.inr (.inr (.inl hy))), mapO_congr mx fun y hy => q y (.inr (.inr (.inr hy)))]
  | makeFunc f b caps =>
    have q2 := mapV_congr caps.toList q
    clear q
    cases f <;> try rfl
    obtain ⟨b⟩ := b
    cases b <;> try rfl
    unfold opR
    dsimp only
    rw [q2]
  | pick c a b =>
    unfold opR
    dsimp only
    rw [q c (by simp [operandsL]), q a (by simp [operandsL]), q b (by simp [operandsL])]
  | mapUpdate t a b c =>
    unfold opR
    dsimp only
    rw [q c (by simp [operandsL]), q a (by simp [operandsL]), q b (by simp [operandsL])]
  | insert t a b c =>
    unfold opR
    dsimp only
    rw [q c (by simp [operandsL]), q a (by simp [operandsL]), q b (by simp [operandsL])]
  | store t a b =>
    unfold opR
    dsimp only
    rw [q a (by simp [operandsL]), q b (by simp [operandsL])]
  | binOp _ _ a b _ =>
    unfold opR
    dsimp only
    rw [q a (by simp [operandsL]), q b (by simp [operandsL])]
  | indexAddr t a b =>
    unfold opR
    dsimp only
    rw [q a (by simp [operandsL]), q b (by simp [operandsL])]
  | index t a b =>
    unfold opR
    dsimp only
    rw [q a (by simp [operandsL]), q b (by simp [operandsL])]
  | lookup t a b _ =>
    unfold opR
    dsimp only
    rw [q a (by simp [operandsL]), q b (by simp [operandsL])]
  | next x b =>
    cases b
    · unfold opR
      dsimp only
      rw [q x (by simp [operandsL])]
    · rfl
  | makeMap t r => cases r <;> rfl
  | typeAssert x a b c =>
    cases c
    · unfold opR
      dsimp only
      rw [q x (by simp [operandsL])]
    · rfl
  | makeInterface _ x => unfold opR; dsimp only; rw [q x (by simp [operandsL])]
  | move x => unfold opR; dsimp only; rw [q x (by simp [operandsL])]
  | assign x => unfold opR; dsimp only; rw [q x (by simp [operandsL])]
  | box t x => unfold opR; dsimp only; rw [q x (by simp [operandsL])]
  | load t x => unfold opR; dsimp only; rw [q x (by simp [operandsL])]
  | nilCheck x => unfold opR; dsimp only; rw [q x (by simp [operandsL])]
  | unOp _ _ x => unfold opR; dsimp only; rw [q x (by simp [operandsL])]
  | convert _ _ x => unfold opR; dsimp only; rw [q x (by simp [operandsL])]
  | fieldAddr _ x _ => unfold opR; dsimp only; rw [q x (by simp [operandsL])]
  | field _ x _ => unfold opR; dsimp only; rw [q x (by simp [operandsL])]
  | makeSlice _ x y => unfold opR; dsimp only; rw [q x (by simp [operandsL]), q y (by simp [operandsL])]
  | range _ x => unfold opR; dsimp only; rw [q x (by simp [operandsL])]
  | entry x => unfold opR; dsimp only; rw [q x (by simp [operandsL])]
  | extract x _ => unfold opR; dsimp only; rw [q x (by simp [operandsL])]
  | _ => rfl
theorem freshV_congr (op : Op) (id : Nat) (q : ∀ x ∈ operandsL op, e x = e' x) : freshV C e op id = freshV C e' op id := by
  cases op with
  | box t x => unfold freshV; dsimp only; rw [q x (by simp [operandsL])]
  | buildSlice t n ps =>
    unfold freshV
    dsimp only
    rw [mapP_congr ps.toList q]
  | makeMap t r => cases r <;> rfl
  | _ => rfl
theorem opR_free (op : Op) (q : heapFree op = true) : opR C e h op = opR C e h' op := by
  cases op with
  | makeFunc f b caps =>
    cases f <;> try rfl
    obtain ⟨b⟩ := b
    cases b <;> rfl
  | _ => first | rfl | (simp [heapFree] at q; done)
end
section
variable {P : Program} {w : World} {ι : I} {C : Cf} {e : Operand → V} {ρ : Operand → Value}
theorem freshV_sound (hC : C.Ok P) (he : ∀ x, VR ι (e x) (ρ x)) (o : Oper) {id : Nat} {b : O} {v : V} (hr : freshV C e o.op id = some (b, v)) :
    b ≠ .dead ∧ ∃ y obj, (execOp ρ o).run P w = .ok (.value y) (w.alloc obj) ∧ ∀ κ : I, ι.Le κ → κ.blk id = some w.heap.size → OR κ b obj ∧ VR κ v y := by
  obtain ⟨dst, op, ty, pos, after, guard⟩ := o
  dsimp only at hr
  have ptr : ∀ {t : Nat} {l : List V} {cs : List Value} {s : Sem Value}, VRs ι l cs → s.run P w = .ok (.pointer (some ⟨w.heap.size, 0, none⟩)) (w.alloc (.cells cs.toArray t)) → b = .cells l t false → v = .ptr id 0 →
      b ≠ .dead ∧ ∃ y obj, ((do pure (Next.value (← s)) : Sem Next).run P w) = .ok (.value y) (w.alloc obj) ∧ ∀ κ : I, ι.Le κ → κ.blk id = some w.heap.size → OR κ b obj ∧ VR κ v y := by
    intro t l cs s h1 h2 h3 h4
    subst h3 h4
    refine ⟨by simp, _, _, by rw [Sem.run_bind, h2]; rfl, fun κ hle hk => ⟨⟨cs, [], h1.mono hle, by simp, fun _ => rfl⟩, by simp only [VR]; exact ⟨_, hk, rfl⟩⟩⟩
  unfold freshV at hr
  split at hr
  · -- alloc
    split at hr
    rotate_left
    · cases hr
    rename_i t ti hti
    split at hr
    rotate_left
    · cases hr
    rename_i l hl
    cases hr
    obtain ⟨cs, h1, h2⟩ := alloc_run (ι := ι) (w := w) (hC.T _ _ hti) hl
    exact ptr h1 h2 rfl rfl
  · -- box
    rename_i t x
    split at hr
    rotate_left
    · cases hr
    rename_i l hl
    cases hr
    obtain ⟨cs, h1, h2⟩ := box_run (P := P) (w := w) t (he x) hl
    exact ptr h1 h2 rfl rfl
  · -- buildSlice
    rename_i t n parts
    split at hr
    rotate_left
    · cases hr
    rename_i ti hti
    split at hr
    rotate_left
    · cases hr
    rename_i el hd
    split at hr
    rotate_left
    · cases hr
    rename_i te hte
    split at hr
    rotate_left
    · cases hr
    rename_i l hl hn
    cases hr
    obtain ⟨m1, m2⟩ := mapP_sound he parts.toList
    have e1 : parts.map (fun (i, x) => (i, ρ x)) = (parts.toList.map fun p => (p.1, ρ p.2)).toArray := by rw [← Array.toList_map]
    obtain ⟨ms, h1, h2⟩ := buildSlice_run (w := w) (hC.T _ _ hti) hd (hC.T _ _ hte) hl m1 m2
    have hn := Nat.le_of_ble_eq_true hn
    refine ⟨by simp, _, .cells ms.toArray el, ?_, fun κ hle hk => ⟨⟨ms, [], h1.mono hle, by simp, fun _ => rfl⟩, VR.sl_mk hk (Nat.le_refl _) (Nat.le_refl _) (by omega) (fun _ => rfl) (fun _ h => by cases h)⟩⟩
    show ((do pure (Next.value (← Instr.buildSlice t n (parts.map fun (i, x) => (i, ρ x)))) : Sem Next).run P w) = _
    rw [e1, Sem.run_bind, h2]
    rfl
  · -- makeMap
    rename_i t
    cases hr
    refine ⟨by simp, _, _, ?_, fun κ hle hk => ⟨⟨[], rfl, rfl⟩, by simp only [VR]; exact ⟨_, hk, rfl⟩⟩⟩
    show ((do pure (Next.value (← Instr.makeMap t none)) : Sem Next).run P w) = _
    rw [Sem.run_bind, show (Instr.makeMap t none).run P w = .ok (.map (some w.heap.size)) (w.alloc (.map #[] 0)) by simp [Instr.makeMap]]
    rfl
  · cases hr
end
end Go.Proofs.Ytoamjihchmokcaa.E
