/- The executor's tables, out of the program itself. No condition. || The executor on regions that draw: what an operation hangs on. No condition. -/
import Derived.Test.YtamhijbnmhdhbaaE25
namespace Go.Proofs.Ytamhijbnmhdhbaa.E
open Go.ChangeShapes Go.WideShapes Go.ChangeAt Go.RowKit Go.Deep

noncomputable def Tr.tab {α : Type} (d : Nat) : (Nat → α) → Tr α :=
  Nat.rec (motive := fun _ => (Nat → α) → Tr α) (fun f => .tip (f 0)) (fun _ ih f => .bin (ih fun k => f (2 * k)) (ih fun k => f (2 * k + 1))) d
theorem Tr.get_tab {α : Type} : ∀ (d : Nat) (f : Nat → α) (k : Nat), k < 2 ^ d → (Tr.tab d f).get k = f k
  | 0, f, k, h => by
    have : k = 0 := by omega
    subst this
    rfl
  | d + 1, f, k, h => by
    rw [Nat.pow_succ] at h
    show (Tr.bin (Tr.tab d fun k => f (2 * k)) (Tr.tab d fun k => f (2 * k + 1))).get k = f k
    rw [Tr.get_bin]
    split
    · rw [Tr.get_tab d _ _ (by omega)]
      congr 1
      omega
    · rw [Tr.get_tab d _ _ (by omega)]
      congr 1
      omega
noncomputable def funcOf (P : Program) (f : Nat) : Option Func :=
  match P.funcs[f]? with
  | none => none
  | some fn => match fn.name == "runtime.NumGoroutine", fn.body.isSome with
    | false, true => some fn
    | _, _ => none
noncomputable def Cf.of (P : Program) (G : Nat) (A : BinOp → V → V → Option V) (L : Bool → V → Option V) (I : Nat → Bool) (N : Nat → List V → Option V) (S : Nat → Option V) (X : Nat → Bool) (Z : List Tab) : Cf := ⟨⟨2048, Tr.tab 11 (tiOf P)⟩, ⟨2048, Tr.tab 11 (funcOf P)⟩, G, A, L, I, N, S, X, Z⟩
theorem Cf.of_ok (P : Program) (G : Nat) (A : BinOp → V → V → Option V) (L : Bool → V → Option V) (I' : Nat → Bool) (N : Nat → List V → Option V) (S : Nat → Option V) (X : Nat → Bool) (Z : List Tab) (hm : P.follows .mixedOrders = true) (hz : ∀ x ∈ Z, x.g < G)
    (hX : ∀ f, X f = true → ∃ fn, P.funcs[f]? = some fn ∧ (fn.name == "runtime.NumGoroutine") = false ∧ fn.body.isNone = true ∧ Extern.findNext fn = none ∧ Extern.find fn = some Extern.MapsClone.clone)
    (hs : ∀ f v, S f = some v → ∀ w : World, Laid w G Z → Calls P f #[] w fun e w' => ∃ y, e = .returned y ∧ (∀ ι : I, VR ι v y) ∧ Below w.heap.size w w') : (Cf.of P G A L I' N S X Z).Ok P := by
  refine ⟨fun t ti h => ?_, fun f fn h => ?_, hm, hz, hX, hs⟩
  · simp only [Cf.of, Tb.at_] at h
    split at h
    · rename_i hk
      rw [Tr.get_tab 11 _ _ (by simpa [Nat.blt_eq] using hk)] at h
      exact h
    · cases h
  · simp only [Cf.of, Tb.at_] at h
    split at h
    · rename_i hk
      rw [Tr.get_tab 11 _ _ (by simpa [Nat.blt_eq] using hk)] at h
      unfold funcOf at h
      split at h
      · cases h
      · rename_i fn' hf
        split at h
        · rename_i h1 h2
          cases h
          exact ⟨hf, h1, h2⟩
        · cases h
    · cases h
noncomputable def H0 (G : Nat) (l : List (Nat × O)) : H := ⟨List.rec (motive := fun _ => Tr O) (Tr.full .dead DH) (fun p _ r => r.set p.1 p.2) l, G⟩
/-- No atom is known. -/
def noA : BinOp → V → V → Option V := fun _ _ _ => none
def noL : Bool → V → Option V := fun _ _ => none
def noI : Nat → Bool := fun _ => false
def noN : Nat → List V → Option V := fun _ _ => none
def noS : Nat → Option V := fun _ => none
def noX : Nat → Bool := fun _ => false
noncomputable def HT (G : Nat) (l : List Tab) : H := H0 G (l.map fun x => (x.g, x.o))
/-- Does a call answer b, the tables as they were? -/
noncomputable def says (D : DrT) (P : Program) (n f G : Nat) (A : BinOp → V → V → Option V) (L : Bool → V → Option V) (I : Nat → Bool) (N : Nat → List V → Option V) (S : Nat → Option V) (X : Nat → Bool) (Z : List Tab) (args : List V) (b : Bool) : Bool :=
  match callK (Cf.of P G A L I N S X Z) (go D (Cf.of P G A L I N S X Z) n) [] f args (HT G Z) fun v h => some (v, h) with
  | some (.bool c, h) => bEq c b && keptB h Z
  | _ => false
end Go.Proofs.Ytamhijbnmhdhbaa.E
namespace Go.Proofs.Ytamhijbnmhdhbaa.E
open Go.ChangeShapes Go.WideShapes Go.ChangeAt Go.RowKit Go.Deep

section
variable {C : Cf} {e e' : Operand → V} {h h' : H}
theorem mapV_congr : ∀ (l : List Operand), (∀ x ∈ l, e x = e' x) → mapV e l = mapV e' l
  | [], _ => rfl
  | x :: l, q => by
    simp only [mapV]
    rw [q x (by simp), mapV_congr l fun y hy => q y (by simp [hy])]
theorem mapP_congr : ∀ (l : List (Nat × Operand)), (∀ x ∈ l.map (·.2), e x = e' x) → mapP e l = mapP e' l
  | [], _ => rfl
  | x :: l, q => by
    simp only [mapP]
    rw [q x.2 (by simp), mapP_congr l fun y hy => q y (by rw [List.map_cons]; exact List.mem_cons_of_mem _ hy)]
theorem mapO_congr : ∀ (o : Option Operand), (∀ x ∈ o.toList, e x = e' x) → mapO e o = mapO e' o
  | none, _ => rfl
  | some x, q => by simp only [mapO]; rw [q x (by simp)]
theorem callR_congr (c : Call) (q : ∀ x ∈ operandsL (.call c), e x = e' x) : callR C e h c = callR C e' h c := by
  obtain ⟨callee, args, ats⟩ := c
  simp only [operandsL, List.mem_append] at q
  have qa : ∀ x ∈ args.toList, e x = e' x := fun x hx => q x (.inr hx)
  have qm := mapV_congr _ qa
  unfold callR
  dsimp only
  cases callee with
  | value f =>
    dsimp only
    rw [q f (.inl (by simp)), qm]
  | invoke _ _ => rfl
  | builtin b =>
    dsimp only
    have h1 : ∀ x, args = ⟨[x]⟩ → e x = e' x := fun x hx => qa x (by rw [hx]; simp)
    have h2 : ∀ x y, args = ⟨[x, y]⟩ → e x = e' x ∧ e y = e' y := fun x y hx => ⟨qa x (by rw [hx]; simp), qa y (by rw [hx]; simp)⟩
    cases b <;> try rfl
    case min => dsimp only; rw [qm]
    case max => dsimp only; rw [qm]
    all_goals
      clear qm qa q
      obtain ⟨args⟩ := args
      rcases ats with ⟨_ | ⟨t, _ | ⟨u, _ | ⟨z, ats⟩⟩⟩⟩ <;>
      match args, h1, h2 with
      | [], _, _ => rfl
      | [x], h1, _ => first | rfl | (dsimp only; rw [h1 x rfl])
      | [x, y], _, h2 => first | rfl | (dsimp only; rw [(h2 x y rfl).1, (h2 x y rfl).2])
      | _ :: _ :: _ :: _, _, _ => rfl
theorem opR_congr (op : Op) (q : ∀ x ∈ operandsL op, e x = e' x) : opR C e h op = opR C e' h op := by
  cases op with
  | call c => exact callR_congr c q
  | build t ps =>
    unfold opR
    dsimp only
    rw [mapP_congr ps.toList q]
  | buildSlice t n ps =>
    unfold opR
    dsimp only
    rw [mapP_congr ps.toList q]
  | slice t x lo hi mx =>
    simp only [operandsL, List.mem_cons, List.mem_append] at q
    unfold opR
    dsimp only
    rw [q x (.inl rfl), mapO_congr lo fun y hy => q y (.inr (.inl hy)), mapO_congr hi fun y hy => q y (.inr (.inr (.inl hy))), mapO_congr mx fun y hy => q y (.inr (.inr (.inr hy)))]
  | makeFunc f b caps =>
    have q2 := mapV_congr caps.toList q
    clear q
    cases f <;> try rfl
    obtain ⟨b⟩ := b
    cases b <;> try rfl
    unfold opR
    dsimp only
    rw [q2]
  | pick c a b =>
    unfold opR
    dsimp only
    rw [q c (by simp [operandsL]), q a (by simp [operandsL]), q b (by simp [operandsL])]
  | mapUpdate t a b c =>
    unfold opR
    dsimp only
    rw [q c (by simp [operandsL]), q a (by simp [operandsL]), q b (by simp [operandsL])]
  | insert t a b c =>
    unfold opR
    dsimp only
    rw [q c (by simp [operandsL]), q a (by simp [operandsL]), q b (by simp [operandsL])]
  | store t a b =>
    unfold opR
    dsimp only
    rw [q a (by simp [operandsL]), q b (by simp [operandsL])]
  | binOp _ _ a b _ =>
    unfold opR
    dsimp only
    rw [q a (by simp [operandsL]), q b (by simp [operandsL])]
  | indexAddr t a b =>
    unfold opR
    dsimp only
    rw [q a (by simp [operandsL]), q b (by simp [operandsL])]
  | index t a b =>
    unfold opR
    dsimp only
    rw [q a (by simp [operandsL]), q b (by simp [operandsL])]
  | lookup t a b _ =>
    unfold opR
    dsimp only
    rw [q a (by simp [operandsL]), q b (by simp [operandsL])]
  | next x b =>
    cases b
    · unfold opR
      dsimp only
      rw [q x (by simp [operandsL])]
    · rfl
  | makeMap t r => cases r <;> rfl
  | typeAssert x a b c =>
    cases c
    · unfold opR
      dsimp only
      rw [q x (by simp [operandsL])]
    · rfl
  | makeInterface _ x => unfold opR; dsimp only; rw [q x (by simp [operandsL])]
  | move x => unfold opR; dsimp only; rw [q x (by simp [operandsL])]
  | assign x => unfold opR; dsimp only; rw [q x (by simp [operandsL])]
  | box t x => unfold opR; dsimp only; rw [q x (by simp [operandsL])]
  | load t x => unfold opR; dsimp only; rw [q x (by simp [operandsL])]
  | nilCheck x => unfold opR; dsimp only; rw [q x (by simp [operandsL])]
  | unOp _ _ x => unfold opR; dsimp only; rw [q x (by simp [operandsL])]
  | convert _ _ x => unfold opR; dsimp only; rw [q x (by simp [operandsL])]
  | fieldAddr _ x _ => unfold opR; dsimp only; rw [q x (by simp [operandsL])]
  | field _ x _ => unfold opR; dsimp only; rw [q x (by simp [operandsL])]
  | makeSlice _ x y => unfold opR; dsimp only; rw [q x (by simp [operandsL]), q y (by simp [operandsL])]
  | range _ x => unfold opR; dsimp only; rw [q x (by simp [operandsL])]
  | entry x => unfold opR; dsimp only; rw [q x (by simp [operandsL])]
  | extract x _ => unfold opR; dsimp only; rw [q x (by simp [operandsL])]
  | _ => rfl
theorem freshV_congr (op : Op) (id : Nat) (q : ∀ x ∈ operandsL op, e x = e' x) : freshV C e op id = freshV C e' op id := by
  cases op with
  | box t x => unfold freshV; dsimp only; rw [q x (by simp [operandsL])]
  | buildSlice t n ps =>
    unfold freshV
    dsimp only
    rw [mapP_congr ps.toList q]
  | makeMap t r => cases r <;> rfl
  | _ => rfl
theorem opR_free (op : Op) (q : heapFree op = true) : opR C e h op = opR C e h' op := by
  cases op with
  | makeFunc f b caps =>
    cases f <;> try rfl
    obtain ⟨b⟩ := b
    cases b <;> rfl
  | _ => first | rfl | (simp [heapFree] at q; done)
end
section
variable {P : Program} {w : World} {ι : I} {C : Cf} {e : Operand → V} {ρ : Operand → Value}
/-- A block is laid: whatever number it gets. -/
theorem freshV_sound (hC : C.Ok P) (he : ∀ x, VR ι (e x) (ρ x)) (o : Oper) {id : Nat} {b : O} {v : V} (hr : freshV C e o.op id = some (b, v)) :
    b ≠ .dead ∧ ∃ y obj, (execOp ρ o).run P w = .ok (.value y) (w.alloc obj) ∧ ∀ κ : I, ι.Le κ → κ.blk id = some w.heap.size → OR κ b obj ∧ VR κ v y := by
  obtain ⟨dst, op, ty, pos, after, guard⟩ := o
  dsimp only at hr
  have ptr : ∀ {t : Nat} {l : List V} {cs : List Value} {s : Sem Value}, VRs ι l cs → s.run P w = .ok (.pointer (some ⟨w.heap.size, 0, none⟩)) (w.alloc (.cells cs.toArray t)) → b = .cells l t false → v = .ptr id 0 →
      b ≠ .dead ∧ ∃ y obj, ((do pure (Next.value (← s)) : Sem Next).run P w) = .ok (.value y) (w.alloc obj) ∧ ∀ κ : I, ι.Le κ → κ.blk id = some w.heap.size → OR κ b obj ∧ VR κ v y := by
    intro t l cs s h1 h2 h3 h4
    subst h3 h4
    refine ⟨by simp, _, _, by rw [Sem.run_bind, h2]; rfl, fun κ hle hk => ⟨⟨cs, [], h1.mono hle, by simp, fun _ => rfl⟩, by simp only [VR]; exact ⟨_, hk, rfl⟩⟩⟩
  unfold freshV at hr
  split at hr
  · -- alloc
    split at hr
    rotate_left
    · cases hr
    rename_i t ti hti
    split at hr
    rotate_left
    · cases hr
    rename_i l hl
    cases hr
    obtain ⟨cs, h1, h2⟩ := alloc_run (ι := ι) (w := w) (hC.T _ _ hti) hl
    exact ptr h1 h2 rfl rfl
  · -- box
    rename_i t x
    split at hr
    rotate_left
    · cases hr
    rename_i l hl
    cases hr
    obtain ⟨cs, h1, h2⟩ := box_run (P := P) (w := w) t (he x) hl
    exact ptr h1 h2 rfl rfl
  · -- buildSlice
    rename_i t n parts
    split at hr
    rotate_left
    · cases hr
    rename_i ti hti
    split at hr
    rotate_left
    · cases hr
    rename_i el hd
    split at hr
    rotate_left
    · cases hr
    rename_i te hte
    split at hr
    rotate_left
    · cases hr
    rename_i l hl hn
    cases hr
    obtain ⟨m1, m2⟩ := mapP_sound he parts.toList
    have e1 : parts.map (fun (i, x) => (i, ρ x)) = (parts.toList.map fun p => (p.1, ρ p.2)).toArray := by rw [← Array.toList_map]
    obtain ⟨ms, h1, h2⟩ := buildSlice_run (w := w) (hC.T _ _ hti) hd (hC.T _ _ hte) hl m1 m2
    have hn := Nat.le_of_ble_eq_true hn
    refine ⟨by simp, _, .cells ms.toArray el, ?_, fun κ hle hk => ⟨⟨ms, [], h1.mono hle, by simp, fun _ => rfl⟩, VR.sl_mk hk (Nat.le_refl _) (Nat.le_refl _) (by omega) (fun _ => rfl) (fun _ h => by cases h)⟩⟩
    show ((do pure (Next.value (← Instr.buildSlice t n (parts.map fun (i, x) => (i, ρ x)))) : Sem Next).run P w) = _
    rw [e1, Sem.run_bind, h2]
    rfl
  · -- makeMap
    rename_i t
    cases hr
    refine ⟨by simp, _, _, ?_, fun κ hle hk => ⟨⟨[], rfl, rfl⟩, by simp only [VR]; exact ⟨_, hk, rfl⟩⟩⟩
    show ((do pure (Next.value (← Instr.makeMap t none)) : Sem Next).run P w) = _
    rw [Sem.run_bind, show (Instr.makeMap t none).run P w = .ok (.map (some w.heap.size)) (w.alloc (.map #[] 0)) by simp [Instr.makeMap]]
    rfl
  · cases hr
end
end Go.Proofs.Ytamhijbnmhdhbaa.E
