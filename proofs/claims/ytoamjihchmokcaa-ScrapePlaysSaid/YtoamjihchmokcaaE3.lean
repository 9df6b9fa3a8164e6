/- The executor's types and its operations on plain values. No condition. -/
import Derived.Test.YtoamjihchmokcaaE2
import Derived.Laws.Strings
namespace Go.Proofs.Ytoamjihchmokcaa.E
open Go.ChangeShapes Go.WideShapes Go.ChangeAt Go.RowKit Go.Deep

structure Tb (α : Type) where
  m : Nat
  t : Tr (Option α)
noncomputable def Tb.at_ {α : Type} (T : Tb α) (k : Nat) : Option α :=
  match Nat.blt k T.m with
  | true => T.t.get k
  | false => none
theorem Tb.mem {α : Type} (T : Tb α) (d : Nat) (l : List (Nat × α)) (hm : T.m = 2 ^ d) (hT : l.foldl (fun T p => T.set p.1 (some p.2)) (Tr.full none d) = T.t) (hd : l.all (fun p => Nat.blt p.1 (2 ^ d)) = true) {k : Nat} {x : α} (h : T.at_ k = some x) : (k, x) ∈ l := by
  have key : ∀ (l : List (Nat × α)) (T0 : Tr (Option α)), Perf d T0 → l.all (fun p => Nat.blt p.1 (2 ^ d)) = true → ∀ t ti, t < 2 ^ d → (l.foldl (fun T p => T.set p.1 (some p.2)) T0).get t = some ti → (t, ti) ∈ l ∨ T0.get t = some ti := by
    intro l
    induction l with
    | nil => intro T0 _ _ t ti _ h; exact .inr h
    | cons p l ih =>
      intro T0 hP hl t ti ht h
      rw [List.all_cons, Bool.and_eq_true] at hl
      rcases ih _ (hP.set _ _) hl.2 t ti ht h with h | h
      · exact .inl (List.mem_cons_of_mem _ h)
      · rw [hP.get_set _ _ _ (by simpa [Nat.blt_eq] using hl.1) ht] at h
        split at h
        · rename_i e
          cases h
          subst e
          exact .inl (by simp)
        · exact .inr h
  unfold Tb.at_ at h
  split at h
  · rename_i hk
    rw [hm] at hk
    rw [← hT] at h
    rcases key l _ (Perf.full none d) hd k x (by simpa [Nat.blt_eq] using hk) h with h | h
    · exact h
    · rw [Tr.get_full] at h; cases h
  · cases h

inductive TD where
  | int (k : IntKind)
  | bool
  | str
  | flt
  | ptr (e : Nat)
  | sl (e : Nat)
  | map (k e : Nat)
  | arr (n e : Nat)
  | st (fs : List (Nat × Nat × Nat))
  | fn
  | other
structure TI where
  d : TD
  size : Nat
  by_ : Nat
  zero : V
  eq : Bool
def fieldOf (P : Program) (f : Field) : Option (Nat × Nat × Nat) := (P.info? f.type).map fun i => (f.offset, i.size, f.type)
def tdOf (P : Program) : TypeDesc → TD
  | .int k => .int k
  | .bool => .bool
  | .string => .str
  | .float .f64 => .flt
  | .pointer e => .ptr e
  | .slice e => .sl e
  | .map k e => .map k e
  | .array n e => .arr n e
  | .struct fs => match fs.toList.mapM (fieldOf P) with
    | some l => .st l
    | none => .other
  | .func _ _ _ => .fn
  | _ => .other
def eqOk (P : Program) (t : TypeId) : TypeDesc → Bool
  | .struct fs => match P.stoodInHeld t, P.eqGuardType P.depth t with
    | false, false => fs.toList.all fun f => f.name != "_"
    | _, _ => false
  | _ => false
def tiOf (P : Program) (t : TypeId) : Option TI :=
  match P.info? t, P.underlying t with
  | some i, some u => match i.zero with
    | some z => match Nat.beq z.cells.size i.size with
      | true => some ⟨tdOf P u, i.size, i.bytes, ofVal z, eqOk P t u⟩
      | false => none
    | none => none
  | _, _ => none
def TOk (P : Program) (T : Tb TI) : Prop := ∀ t ti, T.at_ t = some ti → tiOf P t = some ti
theorem TOk.of (P : Program) (T : Tb TI) (d : Nat) (l : List (Nat × TI)) (hm : T.m = 2 ^ d) (hT : l.foldl (fun T p => T.set p.1 (some p.2)) (Tr.full none d) = T.t) (hd : l.all (fun p => Nat.blt p.1 (2 ^ d)) = true) (hl : l.map (fun p => tiOf P p.1) = l.map (fun p => some p.2)) : TOk P T := fun _ _ h =>
  (List.map_inj_left.1 hl) _ (T.mem d l hm hT hd h)
def FOk (P : Program) (F : Tb Func) : Prop := ∀ f fn, F.at_ f = some fn → P.funcs[f]? = some fn
theorem FOk.of (P : Program) (F : Tb Func) (d : Nat) (l : List (Nat × Func)) (hm : F.m = 2 ^ d) (hT : l.foldl (fun T p => T.set p.1 (some p.2)) (Tr.full none d) = F.t) (hd : l.all (fun p => Nat.blt p.1 (2 ^ d)) = true) (hl : l.map (fun p => P.funcs[p.1]?) = l.map (fun p => some p.2)) : FOk P F := fun _ _ h =>
  (List.map_inj_left.1 hl) _ (F.mem d l hm hT hd h)

section
variable {P : Program} {t : TypeId} {ti : TI} {w : World}
theorem ti_some (h : tiOf P t = some ti) : ∃ i u z, P.info? t = some i ∧ P.underlying t = some u ∧ i.zero = some z ∧ ti = ⟨tdOf P u, i.size, i.bytes, ofVal z, eqOk P t u⟩ ∧ z.cells.size = i.size := by
  unfold tiOf at h
  split at h
  · rename_i i u hi hu
    split at h
    · rename_i z hz
      split at h
      · rename_i hs
        cases h
        exact ⟨i, u, z, hi, hu, hz, rfl, Nat.eq_of_beq_eq_true hs⟩
      · cases h
    · cases h
  · cases h
theorem run_size (h : tiOf P t = some ti) : (sizeOf t).run P w = .ok ti.size w := by
  obtain ⟨i, u, z, hi, hu, hz, rfl, _⟩ := ti_some h
  simp [sizeOf, typeInfo, hi, go_sem]
theorem run_zero (ι : I) (h : tiOf P t = some ti) : ∃ z, (zeroValue t).run P w = .ok z w ∧ VR ι ti.zero z := by
  obtain ⟨i, u, z, hi, hu, hz, rfl, _⟩ := ti_some h
  exact ⟨z, by simp [zeroValue, typeInfo, hi, hz, go_sem], ofVal_sound ι z⟩
theorem run_under (h : tiOf P t = some ti) : ∃ u, P.underlying t = some u ∧ (underlying t).run P w = .ok u w ∧ tdOf P u = ti.d := by
  obtain ⟨i, u, z, hi, hu, hz, rfl, _⟩ := ti_some h
  exact ⟨u, hu, by simp [underlying, hu, go_sem], rfl⟩
def TD.agg : TD → Bool
  | .st _ => true
  | _ => false
def TD.odd : TD → Bool
  | .other => true
  | .arr _ _ => true
  | _ => false
theorem run_isAgg (h : tiOf P t = some ti) (ho : ti.d.odd = false) : (isAgg t).run P w = .ok ti.d.agg w := by
  obtain ⟨u, hu, _, e⟩ := run_under (w := w) h
  rw [← e] at ho ⊢
  cases u with
  | float k => cases k <;> first | (cases ho; done) | simp [isAgg, underlying, hu, go_sem, tdOf, TD.agg]
  | array _ _ => simp [tdOf, TD.odd] at ho
  | struct F =>
    simp only [tdOf] at ho ⊢
    cases hm : F.toList.mapM (fieldOf P) with
    | none => rw [hm] at ho; cases ho
    | some l => simp [isAgg, underlying, hu, go_sem, TD.agg]
  | _ => first | (simp [tdOf, TD.odd] at ho; done) | simp [isAgg, underlying, hu, go_sem, tdOf, TD.agg]
theorem under_int {k : IntKind} (h : tiOf P t = some ti) (hd : ti.d = .int k) : P.underlying t = some (.int k) := by
  obtain ⟨u, hu, _, e⟩ := run_under (w := default) h
  rw [hd] at e
  cases u with
  | float k => cases k <;> simp [tdOf] at e
  | int j => simp [tdOf] at e; rw [hu, e]
  | struct F => simp only [tdOf] at e; cases hm : F.toList.mapM (fieldOf P) <;> rw [hm] at e <;> cases e
  | _ => simp [tdOf] at e
theorem under_bool (h : tiOf P t = some ti) (hd : ti.d = .bool) : P.underlying t = some .bool := by
  obtain ⟨u, hu, _, e⟩ := run_under (w := default) h
  rw [hd] at e
  cases u with
  | float k => cases k <;> simp [tdOf] at e
  | bool => exact hu
  | struct F => simp only [tdOf] at e; cases hm : F.toList.mapM (fieldOf P) <;> rw [hm] at e <;> cases e
  | _ => simp [tdOf] at e
theorem under_str (h : tiOf P t = some ti) (hd : ti.d = .str) : P.underlying t = some .string := by
  obtain ⟨u, hu, _, e⟩ := run_under (w := default) h
  rw [hd] at e
  cases u with
  | float k => cases k <;> simp [tdOf] at e
  | string => exact hu
  | struct F => simp only [tdOf] at e; cases hm : F.toList.mapM (fieldOf P) <;> rw [hm] at e <;> cases e
  | _ => simp [tdOf] at e
theorem under_ptr {k : Nat} (h : tiOf P t = some ti) (hd : ti.d = .ptr k) : P.underlying t = some (.pointer k) := by
  obtain ⟨u, hu, _, e⟩ := run_under (w := default) h
  rw [hd] at e
  cases u with
  | float k => cases k <;> simp [tdOf] at e
  | pointer j => simp [tdOf] at e; rw [hu, e]
  | struct F => simp only [tdOf] at e; cases hm : F.toList.mapM (fieldOf P) <;> rw [hm] at e <;> cases e
  | _ => simp [tdOf] at e
theorem under_sl {k : Nat} (h : tiOf P t = some ti) (hd : ti.d = .sl k) : P.underlying t = some (.slice k) := by
  obtain ⟨u, hu, _, e⟩ := run_under (w := default) h
  rw [hd] at e
  cases u with
  | float k => cases k <;> simp [tdOf] at e
  | slice j => simp [tdOf] at e; rw [hu, e]
  | struct F => simp only [tdOf] at e; cases hm : F.toList.mapM (fieldOf P) <;> rw [hm] at e <;> cases e
  | _ => simp [tdOf] at e
theorem under_map {k e' : Nat} (h : tiOf P t = some ti) (hd : ti.d = .map k e') : P.underlying t = some (.map k e') := by
  obtain ⟨u, hu, _, e⟩ := run_under (w := default) h
  rw [hd] at e
  cases u with
  | float k => cases k <;> simp [tdOf] at e
  | map j q => simp [tdOf] at e; rw [hu, e.1, e.2]
  | struct F => simp only [tdOf] at e; cases hm : F.toList.mapM (fieldOf P) <;> rw [hm] at e <;> cases e
  | _ => simp [tdOf] at e
theorem under_arr {n e : Nat} (h : tiOf P t = some ti) (hd : ti.d = .arr n e) : P.underlying t = some (.array n e) := by
  obtain ⟨u, hu, _, q⟩ := run_under (w := default) h
  rw [hd] at q
  cases u with
  | float k => cases k <;> simp [tdOf] at q
  | array j i => simp [tdOf] at q; rw [hu, q.1, q.2]
  | struct F => simp only [tdOf] at q; cases hm : F.toList.mapM (fieldOf P) <;> rw [hm] at q <;> cases q
  | _ => simp [tdOf] at q
theorem under_fn (h : tiOf P t = some ti) (hd : ti.d = .fn) : ∃ a b c, P.underlying t = some (.func a b c) := by
  obtain ⟨u, hu, _, e⟩ := run_under (w := default) h
  rw [hd] at e
  cases u with
  | float k => cases k <;> simp [tdOf] at e
  | func a b c => exact ⟨a, b, c, hu⟩
  | struct F => simp only [tdOf] at e; cases hm : F.toList.mapM (fieldOf P) <;> rw [hm] at e <;> cases e
  | _ => simp [tdOf] at e
theorem under_st {fs : List (Nat × Nat × Nat)} (h : tiOf P t = some ti) (hd : ti.d = .st fs) : ∃ F : Array Field, P.underlying t = some (.struct F) ∧ F.toList.mapM (fieldOf P) = some fs := by
  obtain ⟨u, hu, _, e⟩ := run_under (w := default) h
  rw [hd] at e
  cases u with
  | float k => cases k <;> simp [tdOf] at e
  | struct F =>
    simp only [tdOf] at e
    cases hm : F.toList.mapM (fieldOf P) with
    | none => rw [hm] at e; cases e
    | some l => rw [hm] at e; cases e; exact ⟨F, hu, hm⟩
  | _ => simp [tdOf] at e
theorem fields_at {P : Program} : ∀ {F : List Field} {fs : List (Nat × Nat × Nat)}, F.mapM (fieldOf P) = some fs → ∀ (i : Nat) (p : Nat × Nat × Nat), fs[i]? = some p → ∃ f : Field, F[i]? = some f ∧ fieldOf P f = some p
  | [], fs, h, i, p, hp => by simp at h; subst h; simp at hp
  | f :: F, fs, h, i, p, hp => by
    rw [List.mapM_cons] at h
    cases h1 : fieldOf P f with
    | none => simp [h1] at h
    | some q =>
      cases h2 : F.mapM (fieldOf P) with
      | none => simp [h1, h2] at h
      | some r =>
        simp [h1, h2] at h
        subst h
        cases i with
        | zero => simp at hp; subst hp; exact ⟨f, rfl, h1⟩
        | succ i => exact fields_at h2 i p hp
theorem field_size {P : Program} {f : Field} {o s t : Nat} (h : fieldOf P f = some (o, s, t)) (w : World) : f.offset = o ∧ f.type = t ∧ (sizeOf f.type).run P w = .ok s w := by
  unfold fieldOf at h
  cases hi : P.info? f.type with
  | none => rw [hi] at h; cases h
  | some i => rw [hi] at h; cases h; exact ⟨rfl, rfl, by simp [sizeOf, typeInfo, hi, go_sem]⟩
theorem fields_places {P : Program} : ∀ {F : List Field} {fs : List (Nat × Nat × Nat)}, F.mapM (fieldOf P) = some fs → F.mapM (fun f => (P.info? f.type).map fun i => (f.offset, i.size)) = some (fs.map fun p => (p.1, p.2.1))
  | [], fs, h => by simp at h; subst h; rfl
  | f :: F, fs, h => by
    rw [List.mapM_cons] at h ⊢
    cases h1 : P.info? f.type with
    | none => simp [fieldOf, h1] at h
    | some q =>
      cases h2 : F.mapM (fieldOf P) with
      | none => simp [fieldOf, h1, h2] at h
      | some r =>
        simp [fieldOf, h1, h2] at h
        subst h
        simp [fields_places h2]
end

def iLt : Int → Int → Bool
  | .ofNat a, .ofNat b => Nat.blt a b
  | .ofNat _, .negSucc _ => false
  | .negSucc _, .ofNat _ => true
  | .negSucc a, .negSucc b => Nat.blt b a
def iEq : Int → Int → Bool
  | .ofNat a, .ofNat b => Nat.beq a b
  | .negSucc a, .negSucc b => Nat.beq a b
  | _, _ => false
theorem iLt_eq (a b : Int) : iLt a b = decide (a < b) := by
  rw [Bool.eq_iff_iff, decide_eq_true_iff]
  cases a <;> cases b <;> simp only [iLt, Nat.blt_eq, Bool.false_eq_true, false_iff, true_iff, Int.ofNat_eq_natCast] <;> omega
theorem iEq_eq (a b : Int) : iEq a b = (a == b) := by
  rw [Bool.eq_iff_iff, beq_iff_eq]
  cases a <;> cases b <;> simp only [iEq, Nat.beq_eq, Bool.false_eq_true, false_iff, Int.ofNat_eq_natCast] <;> omega
def wrapF (k : IntKind) (n : Int) : Int :=
  match n with
  | .ofNat m => match k with
    | .i64 => match Nat.blt m 9223372036854775808 with
      | true => .ofNat m
      | false => k.wrap n
    | .u64 => match Nat.blt m 18446744073709551616 with
      | true => .ofNat m
      | false => k.wrap n
    | _ => k.wrap n
  | _ => k.wrap n
theorem wrapF_eq (k : IntKind) (n : Int) : wrapF k n = k.wrap n := by
  cases n with
  | negSucc m => rfl
  | ofNat m =>
    cases k <;> try rfl
    · simp only [wrapF]
      cases h : Nat.blt m 9223372036854775808
      · rfl
      · simp only [Nat.blt_eq] at h
        rw [IntKind.wrap_i64]
        show (m : Int) = _
        rw [Int.ofNat_eq_natCast]
        omega
    · simp only [wrapF]
      cases h : Nat.blt m 18446744073709551616
      · rfl
      · simp only [Nat.blt_eq] at h
        simp only [IntKind.wrap, IntKind.bits, IntKind.signed, Bool.false_and, Bool.false_eq_true, if_false]
        rw [Int.ofNat_eq_natCast]
        omega
def forceI {β : Type} (n : Int) (K : Int → β) : β :=
  match n with
  | .ofNat m => K (.ofNat m)
  | .negSucc m => K (.negSucc m)
theorem forceI_eq {β : Type} (n : Int) (K : Int → β) : forceI n K = K n := by cases n <;> rfl
def forceB {β : Type} (b : Bool) (K : Bool → β) : β :=
  match b with
  | true => K true
  | false => K false
theorem forceB_eq {β : Type} (b : Bool) (K : Bool → β) : forceB b K = K b := by cases b <;> rfl
noncomputable def forceL {α β : Type} (l : List α) : (List α → β) → β :=
  List.rec (motive := fun _ => (List α → β) → β) (fun K => K []) (fun a _ ih K => ih fun r => K (a :: r)) l
theorem forceL_eq {α β : Type} (l : List α) : ∀ K : List α → β, forceL l K = K l := by
  induction l with
  | nil => intro K; rfl
  | cons a l ih => intro K; exact ih _

def sEq : List Nat → List Nat → Bool
  | [], [] => true
  | a :: l, b :: r => match Nat.beq a b with
    | true => sEq l r
    | false => false
  | _, _ => false
def sLt : List Nat → List Nat → Bool
  | _, [] => false
  | [], _ :: _ => true
  | a :: l, b :: r => match Nat.blt a b with
    | true => true
    | false => match Nat.beq a b with
      | true => sLt l r
      | false => false
theorem Bytes.cons {a : Nat} {l : List Nat} (h : Bytes (a :: l)) : a < 256 ∧ Bytes l := ⟨h a (by simp), fun n hn => h n (by simp [hn])⟩
theorem u8_inj {a b : Nat} (ha : a < 256) (hb : b < 256) (h : a.toUInt8 = b.toUInt8) : a = b := by
  have := congrArg UInt8.toNat h
  simp at this
  omega
theorem strD_toList (s : List Nat) : (strD s).toList = s.map Nat.toUInt8 := by rw [ByteArray.toList_eq]; rfl
theorem strD_size (s : List Nat) : (strD s).size = s.length := by simp [strD, ByteArray.size]
theorem sEq_eq : ∀ {a b : List Nat}, Bytes a → Bytes b → sEq a b = ((strD a).toList == (strD b).toList)
  | [], [], _, _ => by simp [sEq, strD_toList]
  | [], _ :: _, _, _ => by simp [sEq, strD_toList]
  | _ :: _, [], _, _ => by simp [sEq, strD_toList]
  | x :: l, y :: r, ha, hb => by
    have ih := sEq_eq ha.cons.2 hb.cons.2
    rw [strD_toList, strD_toList] at ih ⊢
    unfold sEq
    rw [List.map_cons, List.map_cons, List.cons_beq_cons, ← ih]
    cases h : Nat.beq x y
    · have hne := Nat.ne_of_beq_eq_false h
      have : (x.toUInt8 == y.toUInt8) = false := by
        rw [beq_eq_false_iff_ne]
        exact fun e => hne (u8_inj ha.cons.1 hb.cons.1 e)
      rw [this, Bool.false_and]
    · have he := Nat.eq_of_beq_eq_true h
      subst he
      simp
theorem sLt_eq : ∀ {a b : List Nat}, Bytes a → Bytes b → sLt a b = Op.bytesLess (strD a).toList (strD b).toList
  | [], [], _, _ => by simp [sLt, strD_toList, Op.bytesLess]
  | [], _ :: _, _, _ => by simp [sLt, strD_toList, Op.bytesLess]
  | _ :: _, [], _, _ => by simp [sLt, strD_toList, Op.bytesLess]
  | x :: l, y :: r, ha, hb => by
    have ih := sLt_eq ha.cons.2 hb.cons.2
    rw [strD_toList, strD_toList] at ih ⊢
    unfold sLt
    rw [List.map_cons, List.map_cons, Op.bytesLess, ← ih]
    have hx := ha.cons.1
    have hy := hb.cons.1
    have e1 : (x.toUInt8 < y.toUInt8) ↔ x < y := by
      rw [UInt8.lt_iff_toNat_lt]
      simp
      omega
    cases h1 : Nat.blt x y
    · have h1' : ¬ x < y := by
        intro h
        rw [← Nat.blt_eq] at h
        rw [h] at h1
        cases h1
      have : decide (x.toUInt8 < y.toUInt8) = false := by rw [decide_eq_false_iff_not, e1]; exact h1'
      rw [this, Bool.false_or]
      cases h : Nat.beq x y
      · have hne := Nat.ne_of_beq_eq_false h
        have : (x.toUInt8 == y.toUInt8) = false := by
          rw [beq_eq_false_iff_ne]
          exact fun e => hne (u8_inj hx hy e)
        rw [this, Bool.false_and]
      · have he := Nat.eq_of_beq_eq_true h
        subst he
        simp
    · have h1' : x < y := by simpa [Nat.blt_eq] using h1
      have : decide (x.toUInt8 < y.toUInt8) = true := by rw [decide_eq_true_iff, e1]; exact h1'
      rw [this, Bool.true_or]
theorem strD_append (a b : List Nat) : strD a ++ strD b = strD (a ++ b) := by
  apply ByteArray.ext
  simp [strD]
theorem Bytes.append {a b : List Nat} (ha : Bytes a) (hb : Bytes b) : Bytes (a ++ b) := fun n hn => (List.mem_append.1 hn).elim (ha n) (hb n)
end Go.Proofs.Ytoamjihchmokcaa.E
