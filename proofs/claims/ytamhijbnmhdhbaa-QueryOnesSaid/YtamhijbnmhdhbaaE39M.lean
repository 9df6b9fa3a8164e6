/- The executor on a whole call: from a closed fact of the kernel to the call's contract. Conditions: what is known of atoms, and the package-level variables' tables. || The executor: what is known of atoms that are numbers, or texts. No condition. -/
import Derived.Test.YtamhijbnmhdhbaaE37
namespace Go.Proofs.Ytamhijbnmhdhbaa.E
open Go.ChangeShapes Go.WideShapes Go.ChangeAt Go.RowKit Go.Deep

def onceB : List Tab → Bool
  | [] => true
  | x :: l => allB (fun y => !(Nat.beq y.g x.g)) l && onceB l
section
variable {P : Program} {w : World}
theorem allB_out {α : Type} {f : α → Bool} {l : List α} (h : allB f l = true) : ∀ x ∈ l, f x = true := allB_mem h
theorem onceB_out : ∀ {l : List Tab}, onceB l = true → ∀ x ∈ l, ∀ y ∈ l, x.g = y.g → x = y
  | [], _, _, h, _, _, _ => by cases h
  | a :: l, h, x, hx, y, hy, e => by
    unfold onceB at h
    obtain ⟨h1, h2⟩ := and2 h
    have key : ∀ z ∈ l, z.g ≠ a.g := fun z hz => by
      have := allB_mem h1 z hz
      intro e
      rw [e] at this
      simp at this
    rcases List.mem_cons.1 hx with hx | hx <;> rcases List.mem_cons.1 hy with hy | hy
    · rw [hx, hy]
    · exact absurd (e.symm.trans (by rw [hx])) (key y hy)
    · exact absurd (e.trans (by rw [hy])) (key x hx)
    · exact onceB_out h2 x hx y hy e
theorem H0_perf (G : Nat) : ∀ (l : List (Nat × O)), Perf DH (H0 G l).t
  | [] => Perf.full _ _
  | _ :: l => (H0_perf G l).set _ _
theorem HT_get (G : Nat) (hG : G ≤ 2 ^ DH) : ∀ (l : List Tab), (∀ x ∈ l, x.g < G) → onceB l = true → ∀ b, b < G → (∀ x ∈ l, x.g = b → (HT G l).t.get b = x.o) ∧ ((∀ x ∈ l, x.g ≠ b) → (HT G l).t.get b = .dead)
  | [], _, _, b, _ => ⟨(fun _ h => by cases h), fun _ => Tr.get_full O.dead DH b⟩
  | a :: l, hl, ho, b, hb => by
    have ho' := ho
    unfold onceB at ho
    obtain ⟨o1, o2⟩ := and2 ho
    obtain ⟨h1, h2⟩ := HT_get G hG l (fun x hx => hl x (List.mem_cons_of_mem _ hx)) o2 b hb
    have hg : (HT G (a :: l)).t.get b = if b = a.g then a.o else (HT G l).t.get b :=
      (H0_perf G (l.map fun x : Tab => (x.g, x.o))).get_set a.g a.o b (Nat.lt_of_lt_of_le (hl a (List.mem_cons_self ..)) hG) (Nat.lt_of_lt_of_le hb hG)
    refine ⟨fun x hx e => ?_, fun hno => ?_⟩
    · rw [hg]
      by_cases e2 : b = a.g
      · rw [if_pos e2, onceB_out ho' x hx a (List.mem_cons_self ..) (e.trans e2)]
      · rw [if_neg e2]
        rcases List.mem_cons.1 hx with rfl | hx
        · exact absurd e.symm e2
        · exact h1 x hx e
    · rw [hg, if_neg (fun e => hno a (List.mem_cons_self ..) e.symm)]
      exact h2 fun x hx => hno x (List.mem_cons_of_mem _ hx)
/-- What is known when a call begins. -/
def I0 (G : Nat) (at_ : Nat → Value) : I := ⟨fun b => if b < G then some b else none, fun _ => none, fun _ => none, at_⟩
def KT0 (w : World) (l : List Tab) : Ker := ⟨fun c => c < w.heap.size ∧ ∀ x ∈ l, x.g ≠ c, fun _ => False⟩
theorem rep_start {G : Nat} {l : List Tab} (hG : G ≤ 2 ^ DH) (ho : onceB l = true) (L : Laid w G l) (at_ : Nat → Value) : Rep (KT0 w l) w (I0 G at_) (HT G l) w := by
  have hl : ∀ x ∈ l, x.g < G := fun x hx => (L.at_ x hx).1
  have blk : ∀ b c, (I0 G at_).blk b = some c → b < G ∧ c = b := fun b c e => by
    have e : (if b < G then some b else none) = some c := e
    split at e
    · rename_i h; cases e; exact ⟨h, rfl⟩
    · cases e
  refine ⟨H0_perf _ _, hG, ⟨rfl, rfl, rfl, Nat.le_refl _, fun c hc => ⟨hc.1, rfl⟩⟩, fun b hb hd => ?_, fun p q c hp hq _ _ ep eq => ?_, fun b c e => ?_, (fun b q e => by cases e), (fun b E e => by cases e), (fun b hb => hb.elim)⟩
  · have hb : b < G := hb
    by_cases hex : ∃ x ∈ l, x.g = b
    · obtain ⟨x, hx, e⟩ := hex
      refine ⟨b, x.obj, if_pos hb, fun hk => hk.2 x hx e, by rw [← e]; exact (L.at_ x hx).2, ?_⟩
      rw [(HT_get G hG l hl ho b hb).1 x hx e]
      exact x.or_ _
    · exact absurd ((HT_get G hG l hl ho b hb).2 fun x hx e => hex ⟨x, hx, e⟩) hd
  · rw [← (blk p c ep).2, (blk q c eq).2]
  · obtain ⟨h1, h2⟩ := blk b c e
    have := L.size
    exact ⟨h1, by omega⟩
theorem below_end {G : Nat} {l : List Tab} (L : Laid w G l) {at_ : Nat → Value} {κ : I} {h' : H} {w' : World} (hle : (I0 G at_).Le κ) (r : Rep (KT0 w l) w κ h' w') (hk : keptB h' l = true) : Below w.heap.size w w' := by
  refine ⟨r.base.os, r.base.tape, r.base.output, r.base.size, fun c hc => ?_⟩
  by_cases hex : ∃ x ∈ l, x.g = c
  · obtain ⟨x, hx, rfl⟩ := hex
    have hd := beqO_eq (allB_mem hk x hx)
    obtain ⟨o, _, h1, h2⟩ := r.at_ (hle.blk x.g x.g (if_pos (L.at_ x hx).1)) (by rw [hd]; simp [Tab.o])
    rw [hd] at h2
    rw [h1, (L.at_ x hx).2, Tab.only h2]
  · exact (r.base.kept c ⟨hc, fun x hx e => hex ⟨x, hx, e⟩⟩).2
/-- A call that the executor has gone through. -/
theorem says_sound {n f G : Nat} {A : BinOp → V → V → Option V} {L : Bool → V → Option V} {I' : Nat → Bool} {N : Nat → List V → Option V} {S : Nat → Option V} {X : Nat → Bool} {l : List Tab} {args : List V} {b : Bool} (h : says drK P n f G A L I' N S X l args b = true) (hC : (Cf.of P G A L I' N S X l).Ok P)
    (hG : Nat.ble G 4096 = true) (ho : onceB l = true) (hL : Laid w G l) (at_ : Nat → Value) (ha : Atoms (Cf.of P G A L I' N S X l) P (KT0 w l) w (I0 G at_)) {xs : List Value} (hx : VRs (I0 G at_) args xs) :
    Calls P f xs.toArray w fun e w' => e = .returned (.bool b) ∧ Below w.heap.size w w' := by
  have hG : G ≤ 2 ^ DH := Nat.le_of_ble_eq_true hG
  unfold says at h
  split at h
  rotate_left
  · cases h
  rename_i c h' hc
  obtain ⟨h1, h2⟩ := and2 h
  have h1 := bEq_eq h1
  subst h1
  have hr := rep_start hG ho hL at_
  obtain ⟨_, q⟩ := callK_sound hC (go_sound hC (drK_sound hC) n) (RvLe.of_eq hc) ha hr (EOk.nil _) hx none
  refine (callsIn_wide.1 q).mono ?_
  rintro e w' ⟨v, y, h2', κ, rfl, hle, hrep, hv, v', x, h0, q1, q2, hsub⟩
  cases q1
  cases q2
  simp only [VR] at hv
  subst hv
  exact ⟨rfl, below_end hL hle (hrep.sub hsub) h2⟩
/-- Nothing is known of atoms. -/
theorem atoms_none (G : Nat) (I' : Nat → Bool) (S : Nat → Option V) (X : Nat → Bool) (l : List Tab) (at_ : Nat → Value) (K : Ker) (w0 : World) (h : ∀ k, (at_ k).oneCell' = true) : Atoms (Cf.of P G noA noL I' noN S X l) P K w0 (I0 G at_) :=
  ⟨h, fun _ hg => if_pos hg, (fun _ _ _ _ h => by cases h), (fun _ _ h => by cases h), (fun _ _ h => by cases h), (fun _ _ _ h => by cases h)⟩
end
end Go.Proofs.Ytamhijbnmhdhbaa.E
namespace Go.Proofs.Ytamhijbnmhdhbaa.E
open Go.ChangeShapes Go.WideShapes Go.ChangeAt Go.RowKit Go.Deep

def opN : BinOp → Nat
  | .add => 0
  | .sub => 1
  | .mul => 2
  | .quo => 3
  | .rem => 4
  | .and => 5
  | .or => 6
  | .xor => 7
  | .shl => 8
  | .shr => 9
  | .andNot => 10
  | .eql => 11
  | .neq => 12
  | .lss => 13
  | .leq => 14
  | .gtr => 15
  | .geq => 16
theorem opN_inj : ∀ {a b : BinOp}, opN a = opN b → a = b := by
  intro a b h
  cases a <;> cases b <;> first | rfl | cases h
structure Fact where
  op : BinOp
  x : V
  y : V
  v : V
def lookA : List Fact → BinOp → V → V → Option V
  | [], _, _, _ => none
  | f :: l, op, x, y => match Nat.beq (opN f.op) (opN op) && (beqV f.x x && beqV f.y y) with
    | true => some f.v
    | false => lookA l op x y
def factA (fs : List Fact) (op : BinOp) (x y : V) : Option V :=
  match x, y with
  | .atom i, y => lookA fs op (.atom i) y
  | x, .atom j => lookA fs op x (.atom j)
  | _, _ => none
theorem lookA_out : ∀ {fs : List Fact} {op : BinOp} {x y v : V}, lookA fs op x y = some v → ∃ f ∈ fs, f.op = op ∧ f.x = x ∧ f.y = y ∧ f.v = v
  | f :: l, op, x, y, v, h => by
    unfold lookA at h
    split at h
    · rename_i hb
      cases h
      obtain ⟨h1, h2⟩ := and2 hb
      obtain ⟨h2, h3⟩ := and2 h2
      exact ⟨f, List.mem_cons_self .., opN_inj (Nat.eq_of_beq_eq_true h1), beqV_eq h2, beqV_eq h3, rfl⟩
    · obtain ⟨g, g1, g2⟩ := lookA_out h
      exact ⟨g, List.mem_cons_of_mem _ g1, g2⟩
theorem factA_out {fs : List Fact} {op : BinOp} {x y v : V} (h : factA fs op x y = some v) : ∃ f ∈ fs, f.op = op ∧ f.x = x ∧ f.y = y ∧ f.v = v := by
  unfold factA at h
  split at h
  · exact lookA_out h
  · exact lookA_out h
  · cases h
/-- A text's length. -/
def lookL' : List (Nat × V) → Nat → Option V
  | [], _ => none
  | p :: l, i => match Nat.beq p.1 i with
    | true => some p.2
    | false => lookL' l i
def factL (ls ms : List (Nat × V)) (b : Bool) (x : V) : Option V :=
  match x with
  | .atom i => match b with
    | true => lookL' ls i
    | false => lookL' ms i
  | _ => none
theorem lookL'_out : ∀ {ls : List (Nat × V)} {i : Nat} {v : V}, lookL' ls i = some v → (i, v) ∈ ls
  | p :: l, i, v, h => by
    unfold lookL' at h
    split at h
    · rename_i hb
      cases h
      rw [← Nat.eq_of_beq_eq_true hb]
      exact List.mem_cons_self ..
    · exact List.mem_cons_of_mem _ (lookL'_out h)
def asInt (at_ : Nat → Value) : V → Option (IntKind × Int)
  | .int k n => some (k, n)
  | .atom i => match at_ i with
    | .int k n => some (k, n)
    | _ => none
  | _ => none
section
variable {P : Program} {at_ : Nat → Value}
theorem asInt_in {v : V} {k : IntKind} {n : Int} (h : asInt at_ v = some (k, n)) {κ : I} (hk : κ.atom = at_) {a : Value} (ha : VR κ v a) : a = .int k n := by
  unfold asInt at h
  split at h
  · cases h; simp only [VR] at ha; exact ha
  · split at h
    · rename_i e
      cases h
      simp only [VR] at ha
      rw [ha.1, hk, e]
    · cases h
  · cases h
theorem asInt_out {v : V} {k : IntKind} {n : Int} (h : asInt at_ v = some (k, n)) {κ : I} (hk : κ.atom = at_) : VR κ v (.int k n) := by
  unfold asInt at h
  split at h
  · cases h; simp only [VR]
  · split at h
    · rename_i e
      cases h
      simp only [VR]
      rw [hk, e]
      exact ⟨rfl, rfl⟩
    · cases h
  · cases h
def FactOk (P : Program) (at_ : Nat → Value) (f : Fact) : Prop := ∀ κ : I, κ.atom = at_ → ∀ (t : TypeId) (p q : Operand) (a b : Value) (w : World), VR κ f.x a → VR κ f.y b → ∃ z, ((do eqGuard f.op t p q a b; binOp f.op t a b) : Sem Value).run P w = .ok z w ∧ VR κ f.v z
theorem fact_int {f : Fact} {k : IntKind} {a b : Int} (h1 : asInt at_ f.x = some (k, a)) (h2 : asInt at_ f.y = some (k, b)) {u : V} (h3 : binI f.op k a b = some u) (h4 : u = f.v ∨ ∃ j m, u = .int j m ∧ asInt at_ f.v = some (j, m)) : FactOk P at_ f := by
  intro κ hk t p q x y w hx hy
  rw [asInt_in h1 hk hx, asInt_in h2 hk hy]
  obtain ⟨z, z1, z2⟩ := binI_sound (P := P) (ι := κ) (w := w) h3 t p q
  refine ⟨z, z1, ?_⟩
  rcases h4 with h4 | ⟨j, m, h4, h5⟩
  · rw [← h4]; exact z2
  · rw [h4] at z2
    simp only [VR] at z2
    rw [z2]
    exact asInt_out h5 hk
theorem fact_lss {x y : V} {c : Bool} {k : IntKind} {a b : Int} (h1 : asInt at_ x = some (k, a)) (h2 : asInt at_ y = some (k, b)) (h : decide (a < b) = c) : FactOk P at_ ⟨.lss, x, y, .bool c⟩ :=
  fact_int h1 h2 (u := .bool c) (by simp only [binI, iLt_eq, h]) (.inl rfl)
theorem fact_leq {x y : V} {c : Bool} {k : IntKind} {a b : Int} (h1 : asInt at_ x = some (k, a)) (h2 : asInt at_ y = some (k, b)) (h : decide (a ≤ b) = c) : FactOk P at_ ⟨.leq, x, y, .bool c⟩ :=
  fact_int h1 h2 (u := .bool c) (by simp only [binI, iLt_eq]; rw [← h]; congr 2; rw [Bool.eq_iff_iff]; simp) (.inl rfl)
theorem fact_gtr {x y : V} {c : Bool} {k : IntKind} {a b : Int} (h1 : asInt at_ x = some (k, a)) (h2 : asInt at_ y = some (k, b)) (h : decide (b < a) = c) : FactOk P at_ ⟨.gtr, x, y, .bool c⟩ :=
  fact_int h1 h2 (u := .bool c) (by simp only [binI, iLt_eq, h]) (.inl rfl)
theorem fact_geq {x y : V} {c : Bool} {k : IntKind} {a b : Int} (h1 : asInt at_ x = some (k, a)) (h2 : asInt at_ y = some (k, b)) (h : decide (b ≤ a) = c) : FactOk P at_ ⟨.geq, x, y, .bool c⟩ :=
  fact_int h1 h2 (u := .bool c) (by simp only [binI, iLt_eq]; rw [← h]; congr 2; rw [Bool.eq_iff_iff]; simp) (.inl rfl)
theorem fact_add {x y v : V} {k : IntKind} {a b : Int} (h1 : asInt at_ x = some (k, a)) (h2 : asInt at_ y = some (k, b)) (h : asInt at_ v = some (k, k.wrap (a + b))) : FactOk P at_ ⟨.add, x, y, v⟩ :=
  fact_int h1 h2 (u := .int k (k.wrap (a + b))) (by simp only [binI, wrapF_eq]) (.inr ⟨_, _, rfl, h⟩)
theorem fact_sub {x y v : V} {k : IntKind} {a b : Int} (h1 : asInt at_ x = some (k, a)) (h2 : asInt at_ y = some (k, b)) (h : asInt at_ v = some (k, k.wrap (a - b))) : FactOk P at_ ⟨.sub, x, y, v⟩ :=
  fact_int h1 h2 (u := .int k (k.wrap (a - b))) (by simp only [binI, wrapF_eq]) (.inr ⟨_, _, rfl, h⟩)
theorem atoms_facts {G : Nat} {I' : Nat → Bool} {N : Nat → List V → Option V} {S : Nat → Option V} {X : Nat → Bool} {Z : List Tab} {fs : List Fact} {ls ms : List (Nat × V)} (h1 : ∀ k, (at_ k).oneCell' = true) (h2 : ∀ f ∈ fs, FactOk P at_ f)
    (h3 : ∀ p ∈ ls, ∃ s : ByteArray, at_ p.1 = .string s ∧ asInt at_ p.2 = some (.i64, (s.size : Int)))
    (h3' : ∀ p ∈ ms, ∃ (a : Option Addr) (n c : Nat), at_ p.1 = .slice a n c ∧ asInt at_ p.2 = some (.i64, (n : Int)))
    {K : Ker} {w0 : World} (h4 : ∀ f args v, N f args = some v → ∀ (κ : I) (w : World), κ.atom = at_ → Base K w0 w → ∀ xs : List Value, VRs κ args xs → Calls P f xs.toArray w fun e w' => ∃ y, e = .returned y ∧ VR κ v y ∧ Below w.heap.size w w') : Atoms (Cf.of P G (factA fs) (factL ls ms) I' N S X Z) P K w0 (I0 G at_) := by
  refine ⟨h1, fun _ hg => if_pos hg, fun op x y v hv κ hk t p q a b w hx hy => ?_, fun x v hv κ hk t ty ti a w ht hd hx => ?_, fun x v hv κ hk t ty ti el a w ht hd hx => ?_, h4⟩
  · obtain ⟨f, hf, rfl, rfl, rfl, rfl⟩ := factA_out hv
    exact h2 f hf κ hk t p q a b w hx hy
  · have hv : factL ls ms true x = some v := hv
    unfold factL at hv
    split at hv
    · obtain ⟨s, e1, e2⟩ := h3 _ (lookL'_out hv)
      simp only [VR] at hx
      have hk' : κ.atom = at_ := hk
      rw [hk', e1] at hx
      obtain ⟨rfl, _⟩ := hx
      exact ⟨goInt s.size, by simp [Builtin.len_, run_underlying (under_str ht hd)], asInt_out e2 hk'⟩
    · cases hv
  · have hv : factL ls ms false x = some v := hv
    unfold factL at hv
    split at hv
    · obtain ⟨s, n, c, e1, e2⟩ := h3' _ (lookL'_out hv)
      simp only [VR] at hx
      have hk' : κ.atom = at_ := hk
      rw [hk', e1] at hx
      obtain ⟨rfl, _⟩ := hx
      exact ⟨goInt n, by simp [Builtin.len_, run_underlying (under_sl ht hd)], asInt_out e2 hk'⟩
    · cases hv
end
end Go.Proofs.Ytamhijbnmhdhbaa.E
