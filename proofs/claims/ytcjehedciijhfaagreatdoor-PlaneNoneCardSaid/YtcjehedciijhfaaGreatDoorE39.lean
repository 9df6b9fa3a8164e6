/- The executor: what is known of atoms that are numbers, or texts. No condition. -/
import Derived.Test.YtcjehedciijhfaaGreatDoorTabsM
namespace Go.Proofs.YtcjehedciijhfaaGreatDoor.E
open Go.ChangeShapes Go.WideShapes Go.ChangeAt Go.RowKit Go.Deep

def opN : BinOp → Nat
  | .add => 0
  | .sub => 1
  | .mul => 2
  | .quo => 3
  | .rem => 4
  | .and => 5
  | .or => 6
  | .xor => 7
  | .shl => 8
  | .shr => 9
  | .andNot => 10
  | .eql => 11
  | .neq => 12
  | .lss => 13
  | .leq => 14
  | .gtr => 15
  | .geq => 16
theorem opN_inj : ∀ {a b : BinOp}, opN a = opN b → a = b := by
  intro a b h
  cases a <;> cases b <;> first | rfl | cases h
structure Fact where
  op : BinOp
  x : V
  y : V
  v : V
def lookA : List Fact → BinOp → V → V → Option V
  | [], _, _, _ => none
  | f :: l, op, x, y => match Nat.beq (opN f.op) (opN op) && (beqV f.x x && beqV f.y y) with
    | true => some f.v
    | false => lookA l op x y
def factA (fs : List Fact) (op : BinOp) (x y : V) : Option V :=
  match x, y with
  | .atom i, y => lookA fs op (.atom i) y
  | x, .atom j => lookA fs op x (.atom j)
  | _, _ => none
theorem lookA_out : ∀ {fs : List Fact} {op : BinOp} {x y v : V}, lookA fs op x y = some v → ∃ f ∈ fs, f.op = op ∧ f.x = x ∧ f.y = y ∧ f.v = v
  | f :: l, op, x, y, v, h => by
    unfold lookA at h
    split at h
    · rename_i hb
      cases h
      obtain ⟨h1, h2⟩ := and2 hb
      obtain ⟨h2, h3⟩ := and2 h2
      exact ⟨f, List.mem_cons_self .., opN_inj (Nat.eq_of_beq_eq_true h1), beqV_eq h2, beqV_eq h3, rfl⟩
    · obtain ⟨g, g1, g2⟩ := lookA_out h
      exact ⟨g, List.mem_cons_of_mem _ g1, g2⟩
theorem factA_out {fs : List Fact} {op : BinOp} {x y v : V} (h : factA fs op x y = some v) : ∃ f ∈ fs, f.op = op ∧ f.x = x ∧ f.y = y ∧ f.v = v := by
  unfold factA at h
  split at h
  · exact lookA_out h
  · exact lookA_out h
  · cases h
/-- A text's length. -/
def lookL' : List (Nat × V) → Nat → Option V
  | [], _ => none
  | p :: l, i => match Nat.beq p.1 i with
    | true => some p.2
    | false => lookL' l i
def factL (ls ms : List (Nat × V)) (b : Bool) (x : V) : Option V :=
  match x with
  | .atom i => match b with
    | true => lookL' ls i
    | false => lookL' ms i
  | _ => none
theorem lookL'_out : ∀ {ls : List (Nat × V)} {i : Nat} {v : V}, lookL' ls i = some v → (i, v) ∈ ls
  | p :: l, i, v, h => by
    unfold lookL' at h
    split at h
    · rename_i hb
      cases h
      rw [← Nat.eq_of_beq_eq_true hb]
      exact List.mem_cons_self ..
    · exact List.mem_cons_of_mem _ (lookL'_out h)
def asInt (at_ : Nat → Value) : V → Option (IntKind × Int)
  | .int k n => some (k, n)
  | .atom i => match at_ i with
    | .int k n => some (k, n)
    | _ => none
  | _ => none
section
variable {P : Program} {at_ : Nat → Value}
theorem asInt_in {v : V} {k : IntKind} {n : Int} (h : asInt at_ v = some (k, n)) {κ : I} (hk : κ.atom = at_) {a : Value} (ha : VR κ v a) : a = .int k n := by
  unfold asInt at h
  split at h
  · cases h; simp only [VR] at ha; exact ha
  · split at h
    · rename_i e
      cases h
      simp only [VR] at ha
      rw [ha.1, hk, e]
    · cases h
  · cases h
theorem asInt_out {v : V} {k : IntKind} {n : Int} (h : asInt at_ v = some (k, n)) {κ : I} (hk : κ.atom = at_) : VR κ v (.int k n) := by
  unfold asInt at h
  split at h
  · cases h; simp only [VR]
  · split at h
    · rename_i e
      cases h
      simp only [VR]
      rw [hk, e]
      exact ⟨rfl, rfl⟩
    · cases h
  · cases h
def FactOk (P : Program) (at_ : Nat → Value) (f : Fact) : Prop := ∀ κ : I, κ.atom = at_ → ∀ (t : TypeId) (p q : Operand) (a b : Value) (w : World), VR κ f.x a → VR κ f.y b → ∃ z, ((do eqGuard f.op t p q a b; binOp f.op t a b) : Sem Value).run P w = .ok z w ∧ VR κ f.v z
theorem fact_int {f : Fact} {k : IntKind} {a b : Int} (h1 : asInt at_ f.x = some (k, a)) (h2 : asInt at_ f.y = some (k, b)) {u : V} (h3 : binI f.op k a b = some u) (h4 : u = f.v ∨ ∃ j m, u = .int j m ∧ asInt at_ f.v = some (j, m)) : FactOk P at_ f := by
  intro κ hk t p q x y w hx hy
  rw [asInt_in h1 hk hx, asInt_in h2 hk hy]
  obtain ⟨z, z1, z2⟩ := binI_sound (P := P) (ι := κ) (w := w) h3 t p q
  refine ⟨z, z1, ?_⟩
  rcases h4 with h4 | ⟨j, m, h4, h5⟩
  · rw [← h4]; exact z2
  · rw [h4] at z2
    simp only [VR] at z2
    rw [z2]
    exact asInt_out h5 hk
theorem fact_lss {x y : V} {c : Bool} {k : IntKind} {a b : Int} (h1 : asInt at_ x = some (k, a)) (h2 : asInt at_ y = some (k, b)) (h : decide (a < b) = c) : FactOk P at_ ⟨.lss, x, y, .bool c⟩ :=
  fact_int h1 h2 (u := .bool c) (by simp only [binI, iLt_eq, h]) (.inl rfl)
theorem fact_leq {x y : V} {c : Bool} {k : IntKind} {a b : Int} (h1 : asInt at_ x = some (k, a)) (h2 : asInt at_ y = some (k, b)) (h : decide (a ≤ b) = c) : FactOk P at_ ⟨.leq, x, y, .bool c⟩ :=
  fact_int h1 h2 (u := .bool c) (by simp only [binI, iLt_eq]; rw [← h]; congr 2; rw [Bool.eq_iff_iff]; simp) (.inl rfl)
theorem fact_gtr {x y : V} {c : Bool} {k : IntKind} {a b : Int} (h1 : asInt at_ x = some (k, a)) (h2 : asInt at_ y = some (k, b)) (h : decide (b < a) = c) : FactOk P at_ ⟨.gtr, x, y, .bool c⟩ :=
  fact_int h1 h2 (u := .bool c) (by simp only [binI, iLt_eq, h]) (.inl rfl)
theorem fact_geq {x y : V} {c : Bool} {k : IntKind} {a b : Int} (h1 : asInt at_ x = some (k, a)) (h2 : asInt at_ y = some (k, b)) (h : decide (b ≤ a) = c) : FactOk P at_ ⟨.geq, x, y, .bool c⟩ :=
  fact_int h1 h2 (u := .bool c) (by simp only [binI, iLt_eq]; rw [← h]; congr 2; rw [Bool.eq_iff_iff]; simp) (.inl rfl)
theorem fact_add {x y v : V} {k : IntKind} {a b : Int} (h1 : asInt at_ x = some (k, a)) (h2 : asInt at_ y = some (k, b)) (h : asInt at_ v = some (k, k.wrap (a + b))) : FactOk P at_ ⟨.add, x, y, v⟩ :=
  fact_int h1 h2 (u := .int k (k.wrap (a + b))) (by simp only [binI, wrapF_eq]) (.inr ⟨_, _, rfl, h⟩)
theorem fact_sub {x y v : V} {k : IntKind} {a b : Int} (h1 : asInt at_ x = some (k, a)) (h2 : asInt at_ y = some (k, b)) (h : asInt at_ v = some (k, k.wrap (a - b))) : FactOk P at_ ⟨.sub, x, y, v⟩ :=
  fact_int h1 h2 (u := .int k (k.wrap (a - b))) (by simp only [binI, wrapF_eq]) (.inr ⟨_, _, rfl, h⟩)
theorem atoms_facts {G : Nat} {I' : Nat → Bool} {N : Nat → List V → Option V} {S : Nat → Option V} {X : Nat → Bool} {Z : List Tab} {fs : List Fact} {ls ms : List (Nat × V)} (h1 : ∀ k, (at_ k).oneCell' = true) (h2 : ∀ f ∈ fs, FactOk P at_ f)
    (h3 : ∀ p ∈ ls, ∃ s : ByteArray, at_ p.1 = .string s ∧ asInt at_ p.2 = some (.i64, (s.size : Int)))
    (h3' : ∀ p ∈ ms, ∃ (a : Option Addr) (n c : Nat), at_ p.1 = .slice a n c ∧ asInt at_ p.2 = some (.i64, (n : Int)))
    {K : Ker} {w0 : World} (h4 : ∀ f args v, N f args = some v → ∀ (κ : I) (w : World), κ.atom = at_ → Base K w0 w → ∀ xs : List Value, VRs κ args xs → Calls P f xs.toArray w fun e w' => ∃ y, e = .returned y ∧ VR κ v y ∧ Below w.heap.size w w') : Atoms (Cf.of P G (factA fs) (factL ls ms) I' N S X Z) P K w0 (I0 G at_) := by
  refine ⟨h1, fun _ hg => if_pos hg, fun op x y v hv κ hk t p q a b w hx hy => ?_, fun x v hv κ hk t ty ti a w ht hd hx => ?_, fun x v hv κ hk t ty ti el a w ht hd hx => ?_, h4⟩
  · obtain ⟨f, hf, rfl, rfl, rfl, rfl⟩ := factA_out hv
    exact h2 f hf κ hk t p q a b w hx hy
  · have hv : factL ls ms true x = some v := hv
    unfold factL at hv
    split at hv
    · obtain ⟨s, e1, e2⟩ := h3 _ (lookL'_out hv)
      simp only [VR] at hx
      have hk' : κ.atom = at_ := hk
      rw [hk', e1] at hx
      obtain ⟨rfl, _⟩ := hx
      exact ⟨goInt s.size, by simp [Builtin.len_, run_underlying (under_str ht hd)], asInt_out e2 hk'⟩
    · cases hv
  · have hv : factL ls ms false x = some v := hv
    unfold factL at hv
    split at hv
    · obtain ⟨s, n, c, e1, e2⟩ := h3' _ (lookL'_out hv)
      simp only [VR] at hx
      have hk' : κ.atom = at_ := hk
      rw [hk', e1] at hx
      obtain ⟨rfl, _⟩ := hx
      exact ⟨goInt n, by simp [Builtin.len_, run_underlying (under_sl ht hd)], asInt_out e2 hk'⟩
    · cases hv
end
end Go.Proofs.YtcjehedciijhfaaGreatDoor.E
