/- Plain lemmas for the walks of this seat: arguments of any plain type are opened to cells by their shape; a slice reads as a list. No condition. -/
import Derived.WalkKit
import Derived.ProofKit
import Derived.OpenShut
import Derived.ShutString
import Derived.ChangeOld
import Derived.Below
import Derived.Deep.Slices
import Derived.Deep.QuietTactic
import Derived.BigQuiet
import Derived.Lib.Hide
import Derived.WalkLawsBesides
import Derived.WalkSpells
import Derived.Deep.RegionHeld3
import Derived.Deep.DeepCutAuto
import Derived.Deep.CutBlock
import Derived.Deep.DeepMust
namespace Go.Proofs.Ytoamjihchmokcaa
open Go.ChangeShapes Go.WideShapes Go.ChangeAt Go.RowKit Go.Deep

inductive Sh where
  | bool
  | int (k : IntKind)
  | str
  | slice (e : Sh)
  | pair (a b : Sh)
  | unit

def Sh.size : Sh → Nat
  | .bool => 1
  | .int _ => 1
  | .str => 1
  | .slice _ => 1
  | .pair a b => a.size + b.size
  | .unit => 0

def Rel : Sh → World → List Value → Prop
  | .bool, _, cs => ∃ b, cs = [.bool b]
  | .int k, _, cs => ∃ n, cs = [.int k n] ∧ (Lit.int k n).wf = true
  | .str, _, cs => ∃ s, cs = [.string s] ∧ s.size ≤ maxLen
  | .slice e, w, cs => ∃ ao len cap, cs = [.slice ao len cap] ∧ len ≤ cap ∧ cap ≤ maxLen ∧ (ao = none → cap = 0) ∧
      ∀ a, ao = some a → ∀ i, i < len → ∃ c, c.length = e.size ∧ (∀ j u, c[j]? = some u → w.cell? (a.add (i * e.size + j)) = some u) ∧ Rel e w c
  | .pair a b, w, cs => ∃ c1 c2, cs = c1 ++ c2 ∧ c1.length = a.size ∧ Rel a w c1 ∧ Rel b w c2
  | .unit, _, cs => cs = []

theorem Rel.length : ∀ (s : Sh) {w : World} {cs : List Value}, Rel s w cs → cs.length = s.size
  | .bool, _, _, ⟨_, h⟩ => by rw [h]; rfl
  | .int _, _, _, ⟨_, h, _⟩ => by rw [h]; rfl
  | .str, _, _, ⟨_, h, _⟩ => by rw [h]; rfl
  | .slice _, _, _, ⟨_, _, _, h, _⟩ => by rw [h]; rfl
  | .pair a b, _, _, ⟨_, _, h, h1, _, h2⟩ => by rw [h, List.length_append, h1, Rel.length b h2]; rfl
  | .unit, _, _, h => by rw [show _ = _ from h]; rfl

def Keeps (w w' : World) : Prop := ∀ a v, w.cell? a = some v → w'.cell? a = some v

theorem Rel.keeps {w w' : World} (hk : Keeps w w') : ∀ (s : Sh) {cs : List Value}, Rel s w cs → Rel s w' cs
  | .bool, _, h => h
  | .int _, _, h => h
  | .str, _, h => h
  | .slice e, _, ⟨ao, len, cap, h0, h1, h2, h3, h4⟩ => ⟨ao, len, cap, h0, h1, h2, h3, fun a ha i hi =>
      let ⟨c, q1, q2, q3⟩ := h4 a ha i hi
      ⟨c, q1, fun j u hu => hk _ _ (q2 j u hu), Rel.keeps hk e q3⟩⟩
  | .pair a b, _, ⟨c1, c2, h0, h1, h2, h3⟩ => ⟨c1, c2, h0, h1, Rel.keeps hk a h2, Rel.keeps hk b h3⟩
  | .unit, _, h => h

theorem Keeps.below {w w' : World} (h : Below w.heap.size w w') : Keeps w w' := fun a v hv => by
  rw [h.cell (World.block_lt_of_cell? w a hv)]; exact hv

theorem Keeps.refl (w : World) : Keeps w w := fun _ _ h => h
theorem Keeps.trans {a b c : World} (h : Keeps a b) (k : Keeps b c) : Keeps a c := fun p v hv => k p v (h p v hv)

def shFields (P : Program) (rec : TypeId → Option Sh) : Nat → List Field → Option Sh
  | _, [] => some .unit
  | off, f :: fs =>
    match rec f.type with
    | some s => if f.offset = off ∧ P.cellsOf f.type = s.size then (shFields P rec (off + s.size) fs).map (.pair s) else none
    | none => none

def shOf (P : Program) : Nat → TypeId → Option Sh
  | 0, _ => none
  | n + 1, t =>
    match P.underlying t with
    | some .bool => some .bool
    | some (.int k) => some (.int k)
    | some .string => some .str
    | some (.slice e) =>
      match shOf P n e with
      | some s => if P.cellsOf e = s.size then some (.slice s) else none
      | none => none
    | some (.struct fs) => 
      match shFields P (shOf P n) 0 fs.toList with
      | some s => if P.cellsOf t = s.size then some s else none
      | none => none
    | _ => none

section
variable {H : Type} {enc : TypeId × Value → H} {P : Program} {w : World} {base : Nat} {spare : Nat → Bool} {held : Bool}

theorem rel_fields {rec : TypeId → Option Sh} {k : Nat}
    (ih : ∀ t s cs x, rec t = some s → DataW.trod enc P w base spare held k t cs = some x → Rel s w cs) :
    ∀ (fs : List Field) (off : Nat) (s : Sh) (cs : List Value), shFields P rec off fs = some s → off + s.size ≤ cs.length →
      (∀ (i : Nat) (f : Field), fs[i]? = some f → ∃ y, DataW.trod enc P w base spare held k f.type ((cs.drop f.offset).take (P.cellsOf f.type)) = some y) →
      Rel s w ((cs.drop off).take s.size)
  | [], off, s, cs, h, _, _ => by
    simp [shFields] at h
    subst h
    simp [Rel, Sh.size]
  | f :: fs, off, s, cs, h, hl, hf => by
    simp only [shFields] at h
    split at h
    · rename_i s0 hs0
      split at h
      · rename_i hc
        obtain ⟨s1, hs1, rfl⟩ := Option.map_eq_some_iff.1 h
        obtain ⟨y, hy⟩ := hf 0 f rfl
        have r0 := ih _ _ _ _ hs0 hy
        rw [hc.1, hc.2] at r0
        simp only [Sh.size] at hl
        have r1 := rel_fields ih fs (off + s0.size) s1 cs hs1 (by omega) (fun i g hg => hf (i + 1) g hg)
        refine ⟨_, _, ?_, ?_, r0, r1⟩
        · simp only [Sh.size]
          rw [List.take_add, List.drop_drop]
        · simp; omega
      · cases h
    · cases h

theorem rel_of_trod : ∀ (n : Nat) {k : Nat} {t : TypeId} {s : Sh} {cs : List Value} {x : DataW H × List MemPlace},
    shOf P n t = some s → DataW.trod enc P w base spare held k t cs = some x → Rel s w cs
  | 0, _, _, _, _, _, h, _ => by simp [shOf] at h
  | n + 1, k, t, s, cs, x, h, hx => by
    simp only [shOf] at h
    split at h
    · rename_i ht
      simp at h; subst h
      obtain ⟨b, hb, _⟩ := DataW.trod_bool ht hx
      exact ⟨b, hb⟩
    · rename_i q ht
      simp at h; subst h
      obtain ⟨b, hb, _, hw⟩ := DataW.trod_int ht hx
      exact ⟨b, hb, hw⟩
    · rename_i ht
      simp at h; subst h
      obtain ⟨b, hb, _, hw⟩ := DataW.trod_string ht hx
      exact ⟨b, hb, hw⟩
    · rename_i e ht
      split at h
      · rename_i s0 hs0
        split at h
        · rename_i hc
          simp at h; subst h
          rcases open_slice ht hx with ⟨hcs, _⟩ | ⟨a, len, cap, m, nn, D, Pl, hcs, _, hl, hm, hmm, _, hi⟩
          · exact ⟨none, 0, 0, hcs, Nat.le_refl _, Nat.zero_le _, fun _ => rfl, fun a ha => by cases ha⟩
          · refine ⟨some a, len, cap, hcs, hl, hm, (fun h => by cases h), fun a' ha i hil => ?_⟩
            obtain rfl := Option.some.inj ha
            obtain ⟨c, h1, h2⟩ := hi i (by rw [hmm]; split <;> omega)
            obtain ⟨_, hlen, hcell⟩ := World.cells?_some h1
            refine ⟨c, by rw [hlen, hc], fun j u hu => ?_, rel_of_trod n hs0 h2⟩
            have hj : j < P.cellsOf e := by rw [← hlen]; exact (List.getElem?_eq_some_iff.1 hu).1
            rw [← hc, ← Go.Deep.add_add, hcell j hj, hu]
        · cases h
      · cases h
    · rename_i fs ht
      split at h
      · rename_i s0 hs0
        split at h
        · rename_i hc
          simp at h; subst h
          obtain ⟨xs, m, rfl, _, hlen, hxl, hf⟩ := DataW.trod_struct ht hx
          have := rel_fields (P := P) (w := w) (enc := enc) (base := base) (spare := spare) (held := held) (k := m) (rec := shOf P n) (fun t s cs x h1 h2 => rel_of_trod n h1 h2) fs.toList 0 s0 cs hs0 (by omega) (fun i f hi => by
            have h1 := hf i f (by simpa using hi)
            have hil : i < fs.size := by
              have := (List.getElem?_eq_some_iff.1 hi).1
              simpa using this
            rw [List.getElem?_eq_getElem (by omega)] at h1
            exact ⟨_, h1⟩)
          rw [List.drop_zero, List.take_of_length_le (by omega)] at this
          exact this
        · cases h
      · cases h
    · cases h
end


structure SlR {α : Type} (R : World → α → List Value → Prop) (sz : Nat) (w : World) (ao : Option Addr) (len cap : Nat) (xs : List α) : Prop where
  hlen : xs.length = len
  hcap : len ≤ cap
  hmax : cap ≤ maxLen
  hnil : ao = none → cap = 0
  hat : ∀ a, ao = some a → ∀ i, (h : i < xs.length) → ∃ c : List Value, c.length = sz ∧ (∀ j u, c[j]? = some u → w.cell? (a.add (i * sz + j)) = some u) ∧ R w xs[i] c

theorem SlR.of_rel {α : Type} [Inhabited α] {R : World → α → List Value → Prop} {e : Sh} {w : World} {cs : List Value} (h : Rel (.slice e) w cs)
    (hR : ∀ c, Rel e w c → ∃ x, R w x c) : ∃ ao len cap xs, cs = [.slice ao len cap] ∧ SlR R e.size w ao len cap xs := by
  obtain ⟨ao, len, cap, rfl, h1, h2, h3, h4⟩ := h
  cases ao with
  | none =>
    have hc := h3 rfl
    refine ⟨none, len, cap, [], rfl, ?_, h1, h2, h3, fun a ha => by cases ha⟩
    simp; omega
  | some a =>
    obtain ⟨f, hf⟩ := choose_lt (n := len) (p := fun i x => ∃ c : List Value, c.length = e.size ∧ (∀ j u, c[j]? = some u → w.cell? (a.add (i * e.size + j)) = some u) ∧ R w x c) (fun i hi => by
      obtain ⟨c, q1, q2, q3⟩ := h4 a rfl i hi
      obtain ⟨x, hx⟩ := hR c q3
      exact ⟨x, c, q1, q2, hx⟩)
    refine ⟨some a, len, cap, (List.range len).map f, rfl, by simp, h1, h2, h3, fun a' ha i hi => ?_⟩
    obtain rfl := Option.some.inj ha
    simp at hi
    simpa using hf i hi

theorem SlR.ptr {α : Type} {R : World → α → List Value → Prop} {sz : Nat} {w : World} {ao : Option Addr} {len cap : Nat} {xs : List α} (h : SlR R sz w ao len cap xs) (hsz : 0 < sz) (h0 : 0 < len) :
    ∃ b off, ao = some ⟨b, off, none⟩ := by
  cases ao with
  | none => have := h.hnil rfl; have := h.hcap; omega
  | some a =>
    obtain ⟨c, hc, hj, _⟩ := h.hat a rfl 0 (by have := h.hlen; omega)
    have h1 := hj 0 (c[0]'(by omega)) (by simp)
    have : a.spot = none := by
      have := World.cell?_spot h1
      simpa [Addr.add] using this
    obtain ⟨b, off, spot⟩ := a
    simp at this
    subst this
    exact ⟨b, off, rfl⟩

theorem SlR.cells {α : Type} {R : World → α → List Value → Prop} {sz : Nat} {w : World} {b off : Nat} {len cap : Nat} {xs : List α} (h : SlR R sz w (some ⟨b, off, none⟩) len cap xs) {i : Nat} (hi : i < xs.length) :
    ∃ c : List Value, c.length = sz ∧ (∀ j u, c[j]? = some u → w.cell? ⟨b, off + i * sz + j, none⟩ = some u) ∧ R w xs[i] c := by
  obtain ⟨c, h1, h2, h3⟩ := h.hat _ rfl i hi
  exact ⟨c, h1, fun j u hu => by rw [Nat.add_assoc, ← Addr.add_lit]; exact h2 j u hu, h3⟩

theorem SlR.keeps {α : Type} {R : World → α → List Value → Prop} {sz : Nat} {w w' : World} {ao : Option Addr} {len cap : Nat} {xs : List α} (h : SlR R sz w ao len cap xs) (hk : Keeps w w') (hR : ∀ x c, R w x c → R w' x c) : SlR R sz w' ao len cap xs :=
  ⟨h.hlen, h.hcap, h.hmax, h.hnil, fun a ha i hi => let ⟨c, h1, h2, h3⟩ := h.hat a ha i hi; ⟨c, h1, fun j u hu => hk _ _ (h2 j u hu), hR _ _ h3⟩⟩

def Flat {α : Type} (f : α → List Value) : World → α → List Value → Prop := fun _ x c => c = f x

theorem SlR.flat {α : Type} {f : α → List Value} {sz : Nat} {w : World} {b off : Nat} {len cap : Nat} {xs : List α} (h : SlR (Flat f) sz w (some ⟨b, off, none⟩) len cap xs) {i : Nat} (hi : i < xs.length) :
    ∀ j u, (f xs[i])[j]? = some u → w.cell? ⟨b, off + i * sz + j, none⟩ = some u := by
  obtain ⟨c, _, h2, h3⟩ := h.cells hi
  rw [show c = f xs[i] from h3] at h2
  exact h2

theorem SlR.flat0 {α : Type} {f : α → List Value} {sz : Nat} {w : World} {b off : Nat} {len cap : Nat} {xs : List α} (h : SlR (Flat f) sz w (some ⟨b, off, none⟩) len cap xs) {i : Nat} (hi : i < xs.length) :
    ∀ u, (f xs[i])[0]? = some u → w.cell? ⟨b, off + i * sz, none⟩ = some u := fun u hu => h.flat hi 0 u hu

theorem ret_int {k : IntKind} {a b : Int} (h : a = b) : Ending.returned (.int k a) = .returned (.int k b) := by rw [h]
theorem ret_bool {a b : Bool} (h : a = b) : Ending.returned (.bool a) = .returned (.bool b) := by rw [h]

theorem SlR.drewN {α : Type} {f : α → List Value} {sz : Nat} {w : World} {ao : Option Addr} {len cap : Nat} {xs : List α} (h : SlR (Flat f) sz w ao len cap xs) (n : Nat) : SlR (Flat f) sz (w.drewN n) ao len cap xs :=
  ⟨h.hlen, h.hcap, h.hmax, h.hnil, h.hat⟩

theorem SlR.flatKeeps {α : Type} {f : α → List Value} {sz : Nat} {w w' : World} {ao : Option Addr} {len cap : Nat} {xs : List α} (h : SlR (Flat f) sz w ao len cap xs) (hk : Keeps w w') : SlR (Flat f) sz w' ao len cap xs :=
  h.keeps hk (fun _ _ q => q)


theorem blk {w : World} {b o : Nat} {u : Value} (h : w.cell? ⟨b, o, none⟩ = some u) : b < w.heap.size := World.block_lt_of_cell? w _ h


theorem below_drewN (w : World) (B n : Nat) : Below B w (w.drewN n) := ⟨rfl, rfl, rfl, Nat.le_refl _, fun _ _ => rfl⟩

theorem Below.cell_some {W w1 : World} (hb : Below W.heap.size W w1) {a : Addr} {v : Value} (h : W.cell? a = some v) : w1.cell? a = some v := Keeps.below hb a v h



structure ElemOK (P : Program) (t e : TypeId) (size bytes : Nat) : Prop where
  under : P.underlying t = some (.slice e)
  info : ∃ i z, P.info? e = some i ∧ i.zero = some z ∧ i.size = size ∧ i.bytes = bytes ∧ z.cells.size = size
  pos : 0 < size

theorem ElemOK.mk' {P : Program} {t e : TypeId} {size bytes : Nat} (h1 : P.underlying t = some (.slice e)) (h2 : (P.info? e).map (fun i => (i.zero.map fun z => z.cells.size, i.size, i.bytes)) = some (some size, size, bytes)) (h3 : 0 < size) :
    ElemOK P t e size bytes := by
  obtain ⟨i, hi, hzz⟩ := Option.map_eq_some_iff.1 h2
  simp only [Prod.mk.injEq] at hzz
  obtain ⟨z, hz, hs⟩ := Option.map_eq_some_iff.1 hzz.1
  exact ⟨h1, ⟨i, z, hi, hz, hzz.2.1, hzz.2.2, hs⟩, h3⟩

theorem cell_new (W : World) (cur : Array Value) (e : TypeId) (j : Nat) : (W.alloc (.cells cur e)).cell? ((⟨W.heap.size, 0, none⟩ : Addr).add j) = cur[j]? := by
  rw [Addr.add_lit, Nat.zero_add, cell_of_row _ W.heap.size j cur e (0, 0) (heap_alloc_new W _)]


theorem wpList_build {P : Program} {ops : Array Oper} {rest : List Oper} {o : Oper} {a : Act} {Q : Exit → Act → World → Prop} {w : World} (hg : o.guard = none) (t : TypeId) (parts : List (Nat × Operand))
    (ho : o.op = .build t parts.toArray) (args : List (Nat × Value)) (hargs : parts.map (fun p => (p.1, a.eval p.2)) = args) (v : Value) (hrun : ∀ w, (Instr.build t args.toArray).run P w = .ok v w)
    (h : wpList P ops Q rest (a.put o.dst v) w) : wpList P ops Q (o :: rest) a w := by
  refine wpList_plain hg fun K hK => ?_
  subst hargs
  have e : (parts.toArray.map fun (p : Nat × Operand) => (p.1, a.eval p.2)) = (parts.map fun p => (p.1, a.eval p.2)).toArray := by simp
  unfold Oper.wp
  simp only [execOp, ho]
  rw [e]
  simp [hrun, Result.andThen]
  exact hK _ _ h

theorem wpList_buildSlice {P : Program} {ops : Array Oper} {rest : List Oper} {o : Oper} {a : Act} {Q : Exit → Act → World → Prop} {w : World} (hg : o.guard = none) (t : TypeId) (n : Nat) (parts : List (Nat × Operand))
    (ho : o.op = .buildSlice t n parts.toArray) (args : List (Nat × Value)) (hargs : parts.map (fun p => (p.1, a.eval p.2)) = args) (cur : Array Value) (e : TypeId)
    (hrun : ∀ w, (Instr.buildSlice t n args.toArray).run P w = .ok (.slice (some ⟨w.heap.size, 0, none⟩) n n) (w.alloc (.cells cur e)))
    (h : wpList P ops Q rest (a.put o.dst (.slice (some ⟨w.heap.size, 0, none⟩) n n)) (w.alloc (.cells cur e))) : wpList P ops Q (o :: rest) a w := by
  refine wpList_plain hg fun K hK => ?_
  subst hargs
  have e : (parts.toArray.map fun (p : Nat × Operand) => (p.1, a.eval p.2)) = (parts.map fun p => (p.1, a.eval p.2)).toArray := by simp
  unfold Oper.wp
  simp only [execOp, ho]
  rw [e]
  simp [hrun, Result.andThen]
  exact hK _ _ h


theorem at_slot (d : Nat) {P : Program} {ops : Array Oper} {rest : List Oper} {op : Op} {ty : TypeId} {pos : String} {af : Array Edge} {g : Option (Nat × Bool)} {a : Act} {Q : Exit → Act → World → Prop} {w : World}
    (h : wpList P ops Q (⟨some d, op, ty, pos, af, g⟩ :: rest) a w) : wpList P ops Q (⟨some d, op, ty, pos, af, g⟩ :: rest) a w := h


theorem owns_shape {w : World} {base : Nat} {e : TypeId} {size : Nat} {v : Value} {n : Nat} {xs : List Value} (h : w.ownsRow base e size v n xs) (hn : 0 < n) :
    ∃ g cap, v = .slice (some ⟨g, 0, none⟩) n cap ∧ base ≤ g ∧ n ≤ cap ∧ cap ≤ maxLen ∧ ∀ j u, xs[j]? = some u → w.cell? ⟨g, j, none⟩ = some u := by
  obtain ⟨h1, h2⟩ := h
  rcases h2 with ⟨_, h2⟩ | ⟨g, cap, cur, rfl, hg, hh, h3, h4, h5, h6⟩
  · omega
  · refine ⟨g, cap, rfl, hg, h3, h4, fun j u hu => ?_⟩
    have := World.ownsRow.cells ⟨h1, .inr ⟨g, cap, cur, rfl, hg, hh, h3, h4, h5, h6⟩⟩ (g := g) rfl j u hu
    rwa [Addr.add_lit, Nat.zero_add] at this

theorem drewN_below {B : Nat} {w w' : World} (h : Below B w w') (n : Nat) : Below B w (w'.drewN n) := ⟨h.os, h.tape, h.output, h.size, h.block⟩



structure AggOK (P : Program) (T : TypeId) (size : Nat) : Prop where
  agg : ∃ d, P.underlying T = some d ∧ (match d with | .struct _ | .array _ _ => true | _ => false) = true
  info : ∃ i z, P.info? T = some i ∧ i.zero = some z ∧ i.size = size ∧ z.cells.size = size

theorem AggOK.mk' {P : Program} {T : TypeId} {size : Nat} (h1 : (match P.underlying T with | some (.struct _) | some (.array _ _) => true | _ => false) = true)
    (h2 : (P.info? T).map (fun i => (i.zero.map fun z => z.cells.size, i.size)) = some (some size, size)) : AggOK P T size := by
  obtain ⟨i, hi, hzz⟩ := Option.map_eq_some_iff.1 h2
  simp only [Prod.mk.injEq] at hzz
  obtain ⟨z, hz, hs⟩ := Option.map_eq_some_iff.1 hzz.1
  refine ⟨?_, i, z, hi, hz, hzz.2, hs⟩
  split at h1
  · exact ⟨_, by assumption, rfl⟩
  · exact ⟨_, by assumption, rfl⟩
  · cases h1

theorem run_loadVar_at {P : Program} {T : TypeId} {size : Nat} (A : AggOK P T size) (w : World) (p : Addr) (cs : List Value) (hs : cs.length = size) (hc : ∀ j u, cs[j]? = some u → w.cell? (p.add j) = some u) :
    (loadVar T p).run P w = .ok (.agg cs.toArray) w := by
  obtain ⟨d, hu, hd⟩ := A.agg
  obtain ⟨i, z, hi, _, hsz, _⟩ := A.info
  have hl : (loadCells p cs.length).run P w = .ok cs.toArray w := run_loadCells_list (P := P) w p cs hc
  have hagg : (isAgg T).run P w = .ok true w := by
    unfold isAgg
    rw [Sem.run_bind, run_underlying hu w]
    cases d <;> simp_all
  rw [hs] at hl
  simp [loadVar, Sem.run_bind, hagg, sizeOf, typeInfo, hi, hsz, hl]

theorem wpList_load_at {P : Program} {ops : Array Oper} {rest : List Oper} {o : Oper} {a : Act} {w : World} {Q : Exit → Act → World → Prop} {T : TypeId} {size : Nat} (A : AggOK P T size) (hgd : o.guard = none) (x : Operand) (ho : o.op = .load T x)
    (p : Addr) (hx : a.eval x = .pointer (some p)) (cs : List Value) (hs : cs.length = size) (hc : ∀ j u, cs[j]? = some u → w.cell? (p.add j) = some u)
    (h : wpList P ops Q rest (a.put o.dst (.agg cs.toArray)) w) : wpList P ops Q (o :: rest) a w := by
  refine wpList_plain hgd fun _ hK => ?_
  unfold Oper.wp execOp
  simp only [ho, hx, Instr.loadAt, Instr.sureAddr, Sem.run_bind, Sem.run_pure, Result.andThen_ok, run_loadVar_at A w p cs hs hc]
  exact hK _ _ h

theorem setRow_new (w : World) (z cs : Array Value) (e : TypeId) : (w.alloc (.cells z e)).setRow w.heap.size cs = w.alloc (.cells cs e) := by
  unfold World.setRow World.alloc
  simp only [World.mk.injEq, and_true]
  apply Array.ext_getElem?
  intro k
  rw [Array.getElem?_modify]
  by_cases hk : w.heap.size = k
  · subst hk
    simp
  · rw [if_neg hk, Array.getElem?_push, Array.getElem?_push, if_neg (Ne.symm hk), if_neg (Ne.symm hk)]

theorem run_store_new {P : Program} {T : TypeId} {size : Nat} (A : AggOK P T size) (w : World) (z cs : Array Value) (hz : z.size = size) (hs : cs.size = size) (h1 : cs.toList.all (fun u => u.oneCell') = true) :
    (storeVar T ⟨w.heap.size, 0, none⟩ (.agg cs)).run P (w.alloc (.cells z T)) = .ok () (w.alloc (.cells cs T)) := by
  obtain ⟨i, _, hi, _, hsz, _⟩ := A.info
  have hst := run_storeCells_at P w.heap.size 0 T cs.toList 0 z (w.alloc (.cells z T)) (heap_alloc_new w _) (by simp; omega) (List.all_eq_true.1 h1)
  have e : (z.toList.take (0 + 0) ++ cs.toList ++ z.toList.drop (0 + 0 + cs.toList.length)).toArray = cs := by
    rw [List.drop_eq_nil_of_le (by simp; omega)]
    simp
  rw [e, setRow_new] at hst
  simp [storeVar, Sem.run_bind, sizeOf, typeInfo, hi, hsz, Value.cells, hs, hst]

theorem wpList_var {P : Program} {ops : Array Oper} {rest : List Oper} {o1 o2 : Oper} {a : Act} {w : World} {Q : Exit → Act → World → Prop} {T : TypeId} {size : Nat} (A : AggOK P T size) (hg1 : o1.guard = none) (hg2 : o2.guard = none)
    (ho1 : o1.op = .alloc T) (x p : Operand) (ho2 : o2.op = .store T p x) (hd2 : o2.dst = none) (cs : Array Value) (hx : (a.put o1.dst (.pointer (some ⟨w.heap.size, 0, none⟩))).eval x = .agg cs)
    (hp : (a.put o1.dst (.pointer (some ⟨w.heap.size, 0, none⟩))).eval p = .pointer (some ⟨w.heap.size, 0, none⟩)) (hs : cs.size = size) (h1 : cs.toList.all (fun u => u.oneCell') = true)
    (h : wpList P ops Q rest (a.put o1.dst (.pointer (some ⟨w.heap.size, 0, none⟩))) (w.alloc (.cells cs T))) : wpList P ops Q (o1 :: o2 :: rest) a w := by
  obtain ⟨i, z, hi, hz, hsz, hzc⟩ := A.info
  have hst := run_store_new A w z.cells cs hzc hs h1
  have hal : (Instr.alloc T true (.tuple #[])).run P w = .ok (.pointer (some ⟨w.heap.size, 0, none⟩)) (w.alloc (.cells z.cells T)) := by
    simp [Instr.alloc, zeroValue, typeInfo, hi, hz, newVar, newRow, go_sem]
  refine wpList_plain hg1 fun _ hK => ?_
  unfold Oper.wp execOp
  simp only [ho1, Sem.run_bind, Sem.run_pure, Result.andThen_ok, hal]
  refine hK _ _ ?_
  refine wpList_plain hg2 fun _ hK2 => ?_
  unfold Oper.wp execOp
  simp only [ho2, hx, hp, Instr.storeAt, Instr.sureAddr, Sem.run_bind, Sem.run_pure, Result.andThen_ok, hst]
  rw [Oper.upon_skip, hd2]
  exact hK2 _ _ h





theorem flatMap_get {α : Type} {f : α → List Value} {sz : Nat} (hf : ∀ x, (f x).length = sz) : ∀ (xs : List α) (i j : Nat) (h : i < xs.length), j < sz → (xs.flatMap f)[i * sz + j]? = (f xs[i])[j]?
  | [], _, _, h, _ => absurd h (by simp)
  | x :: xs, 0, j, _, hj => by
    rw [List.flatMap_cons, List.getElem?_append_left (by rw [hf]; omega)]
    simp
  | x :: xs, i + 1, j, h, hj => by
    have e : (i + 1) * sz + j = sz + (i * sz + j) := by rw [Nat.add_mul]; omega
    rw [List.flatMap_cons, e, List.getElem?_append_right (by rw [hf]; omega), hf]
    have e2 : sz + (i * sz + j) - sz = i * sz + j := by omega
    rw [e2, flatMap_get hf xs i j (by simpa using h) hj]
    rfl

theorem SlR.of_owns {α : Type} {f : α → List Value} {sz : Nat} {w : World} {B e : Nat} {v : Value} {n : Nat} {xs : List α} (h : w.ownsRow B e sz v n (xs.flatMap f)) (hn : xs.length = n) (hf : ∀ x, (f x).length = sz) :
    ∃ ao cap, v = .slice ao n cap ∧ SlR (Flat f) sz w ao n cap xs ∧ (∀ a, ao = some a → B ≤ a.block) := by
  by_cases h0 : 0 < n
  · obtain ⟨g, cap, rfl, hg, h1, h2, h3⟩ := owns_shape h h0
    refine ⟨_, _, rfl, ⟨hn, h1, h2, (fun h => by cases h), fun a ha i hi => ?_⟩, fun a ha => by obtain rfl := Option.some.inj ha; exact hg⟩
    obtain rfl := Option.some.inj ha
    refine ⟨f xs[i], hf _, fun j u hu => ?_, rfl⟩
    have hj : j < sz := by rw [← hf xs[i]]; exact (List.getElem?_eq_some_iff.1 hu).1
    rw [Addr.add_lit, Nat.zero_add]
    exact h3 _ _ (by rw [flatMap_get hf xs i j hi hj, hu])
  · have hn0 : n = 0 := by omega
    subst hn0
    have hx : xs = [] := List.eq_nil_of_length_eq_zero hn
    subst hx
    rcases h.2 with ⟨rfl, _⟩ | ⟨g, cap, cur, rfl, hg, _, h1, h2, _⟩
    · exact ⟨none, 0, rfl, ⟨rfl, Nat.le_refl _, Nat.zero_le _, (fun _ => rfl), (fun a ha => by cases ha)⟩, fun a ha => by cases ha⟩
    · exact ⟨some ⟨g, 0, none⟩, cap, rfl, ⟨rfl, h1, h2, (fun h => by cases h), fun a ha i hi => absurd hi (by simp)⟩, fun a ha => by obtain rfl := Option.some.inj ha; exact hg⟩

end Go.Proofs.Ytoamjihchmokcaa
