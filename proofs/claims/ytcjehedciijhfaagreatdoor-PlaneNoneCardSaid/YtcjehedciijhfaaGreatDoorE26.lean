/- The executor's tables, out of the program itself. No condition. -/
import Derived.Test.YtcjehedciijhfaaGreatDoorE25
namespace Go.Proofs.YtcjehedciijhfaaGreatDoor.E
open Go.ChangeShapes Go.WideShapes Go.ChangeAt Go.RowKit Go.Deep

noncomputable def Tr.tab {α : Type} (d : Nat) : (Nat → α) → Tr α :=
  Nat.rec (motive := fun _ => (Nat → α) → Tr α) (fun f => .tip (f 0)) (fun _ ih f => .bin (ih fun k => f (2 * k)) (ih fun k => f (2 * k + 1))) d
theorem Tr.get_tab {α : Type} : ∀ (d : Nat) (f : Nat → α) (k : Nat), k < 2 ^ d → (Tr.tab d f).get k = f k
  | 0, f, k, h => by
    have : k = 0 := by omega
    subst this
    rfl
  | d + 1, f, k, h => by
    rw [Nat.pow_succ] at h
    show (Tr.bin (Tr.tab d fun k => f (2 * k)) (Tr.tab d fun k => f (2 * k + 1))).get k = f k
    rw [Tr.get_bin]
    split
    · rw [Tr.get_tab d _ _ (by omega)]
      congr 1
      omega
    · rw [Tr.get_tab d _ _ (by omega)]
      congr 1
      omega
noncomputable def funcOf (P : Program) (f : Nat) : Option Func :=
  match P.funcs[f]? with
  | none => none
  | some fn => match fn.name == "runtime.NumGoroutine", fn.body.isSome with
    | false, true => some fn
    | _, _ => none
noncomputable def Cf.of (P : Program) (G : Nat) (A : BinOp → V → V → Option V) (L : Bool → V → Option V) (I : Nat → Bool) (N : Nat → List V → Option V) (S : Nat → Option V) (X : Nat → Bool) (Z : List Tab) : Cf := ⟨⟨2048, Tr.tab 11 (tiOf P)⟩, ⟨2048, Tr.tab 11 (funcOf P)⟩, G, A, L, I, N, S, X, Z⟩
theorem Cf.of_ok (P : Program) (G : Nat) (A : BinOp → V → V → Option V) (L : Bool → V → Option V) (I' : Nat → Bool) (N : Nat → List V → Option V) (S : Nat → Option V) (X : Nat → Bool) (Z : List Tab) (hm : P.follows .mixedOrders = true) (hz : ∀ x ∈ Z, x.g < G)
    (hX : ∀ f, X f = true → ∃ fn, P.funcs[f]? = some fn ∧ (fn.name == "runtime.NumGoroutine") = false ∧ fn.body.isNone = true ∧ Extern.findNext fn = none ∧ Extern.find fn = some Extern.MapsClone.clone)
    (hs : ∀ f v, S f = some v → ∀ w : World, Laid w G Z → Calls P f #[] w fun e w' => ∃ y, e = .returned y ∧ (∀ ι : I, VR ι v y) ∧ Below w.heap.size w w') : (Cf.of P G A L I' N S X Z).Ok P := by
  refine ⟨fun t ti h => ?_, fun f fn h => ?_, hm, hz, hX, hs⟩
  · simp only [Cf.of, Tb.at_] at h
    split at h
    · rename_i hk
      rw [Tr.get_tab 11 _ _ (by simpa [Nat.blt_eq] using hk)] at h
      exact h
    · cases h
  · simp only [Cf.of, Tb.at_] at h
    split at h
    · rename_i hk
      rw [Tr.get_tab 11 _ _ (by simpa [Nat.blt_eq] using hk)] at h
      unfold funcOf at h
      split at h
      · cases h
      · rename_i fn' hf
        split at h
        · rename_i h1 h2
          cases h
          exact ⟨hf, h1, h2⟩
        · cases h
    · cases h
noncomputable def H0 (G : Nat) (l : List (Nat × O)) : H := ⟨List.rec (motive := fun _ => Tr O) (Tr.full .dead DH) (fun p _ r => r.set p.1 p.2) l, G⟩
/-- No atom is known. -/
def noA : BinOp → V → V → Option V := fun _ _ _ => none
def noL : Bool → V → Option V := fun _ _ => none
def noI : Nat → Bool := fun _ => false
def noN : Nat → List V → Option V := fun _ _ => none
def noS : Nat → Option V := fun _ => none
def noX : Nat → Bool := fun _ => false
noncomputable def HT (G : Nat) (l : List Tab) : H := H0 G (l.map fun x => (x.g, x.o))
/-- Does a call answer b, the tables as they were? -/
noncomputable def says (D : DrT) (P : Program) (n f G : Nat) (A : BinOp → V → V → Option V) (L : Bool → V → Option V) (I : Nat → Bool) (N : Nat → List V → Option V) (S : Nat → Option V) (X : Nat → Bool) (Z : List Tab) (args : List V) (b : Bool) : Bool :=
  match callK (Cf.of P G A L I N S X Z) (go D (Cf.of P G A L I N S X Z) n) [] f args (HT G Z) fun v h => some (v, h) with
  | some (.bool c, h) => bEq c b && keptB h Z
  | _ => false
end Go.Proofs.YtcjehedciijhfaaGreatDoor.E
