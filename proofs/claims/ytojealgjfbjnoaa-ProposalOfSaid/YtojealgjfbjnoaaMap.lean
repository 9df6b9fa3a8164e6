/- Maps that hold any values, read as a partial function of the key. No condition. -/
import Derived.Test.YtojealgjfbjnoaaFrame
import Derived.Maps.OwnSet
import Derived.Maps.RangeWalk
import Derived.StillTailTactics
namespace Go.Proofs.Ytojealgjfbjnoaa
open Go.ChangeShapes Go.WideShapes Go.ChangeAt Go.RowKit Go.Deep Go.Maps

/-- How a map's element is told: as it is. -/
def heldElem (v : Value) : Option (DataW Value × List MemPlace) := some (.held v, [])

/-- A datum that keeps, at each key, what f says. -/
def Tells (D : DataW Value) (f : Lit → Option Value) : Prop := ∀ kl, Maps.has D kl = (f kl).isSome ∧ ∀ z, D.atKey kl z = ((f kl).map DataW.held).getD z

/-- f with another value at one key. -/
def fset {α : Type} (f : Lit → Option α) (kl : Lit) (v : α) : Lit → Option α := fun x => if x.sameKey kl = true then some v else f x

/-- Block b is a map, of n keys, that keeps what f says. -/
def MapIs (w : World) (P : Program) (k : TypeId) (b n : Nat) (f : Lit → Option Value) : Prop := ∃ D, w.ownsMap P k heldElem b n D ∧ Maps.size D = n ∧ Tells D f

theorem ownsMap_size {P : Program} {k : TypeId} {R : Value → Option (DataW Value × List MemPlace)} {w : World} {b n : Nat} {D : DataW Value} (h : w.ownsMap P k R b n D) : w.ownsMap P k R b (Maps.size D) D := by
  obtain ⟨es, clock, h1, h2, _, rfl⟩ := h
  exact ⟨es, clock, h1, h2, by simp [Maps.size, length_sorted], rfl⟩

theorem Tells.nil : Tells (.map []) (fun _ => none) := fun _ => ⟨rfl, fun _ => rfl⟩

section
variable {P : Program} {k : TypeId} {w w' : World} {b n : Nat} {f : Lit → Option Value}

theorem MapIs.made (w : World) (P : Program) (k : TypeId) : MapIs (w.alloc (.map #[] 0)) P k w.heap.size 0 (fun _ => none) :=
  ⟨.map [], World.ownsMap_made w P k heldElem, rfl, Tells.nil⟩

theorem MapIs.lt (h : MapIs w P k b n f) : b < w.heap.size := let ⟨_, h1, _⟩ := h; h1.lt

theorem MapIs.same (h : MapIs w P k b n f) (hb : w'.heap[b]? = w.heap[b]?) : MapIs w' P k b n f := by
  obtain ⟨D, ⟨es, clock, h1, r⟩, hn, h2⟩ := h
  exact ⟨D, ⟨es, clock, hb.trans h1, r⟩, hn, h2⟩

theorem MapIs.fr (h : MapIs w P k b n f) {S : Nat → Prop} (hf : Fr S w w') (hS : ¬ S b) : MapIs w' P k b n f := h.same (hf.block b h.lt hS)
theorem MapIs.below (h : MapIs w P k b n f) (hf : Below w.heap.size w w') : MapIs w' P k b n f := h.same (hf.block b h.lt)

/-- A key that is a bool, an int or a string. -/
theorem Tells.put {D : DataW Value} (h : Tells D f) (hD : IsMap D) {kl : Lit} (hk : WideAt.IsKeyLit kl) (v : Value) : Tells (D.put kl (.held v)) (fset f kl v) := by
  intro x
  by_cases e : x = kl
  · subst e
    have hs : x.sameKey x = true := by
      cases x <;> simp [Lit.sameKey, WideAt.IsKeyLit] at hk ⊢
    refine ⟨?_, fun z => ?_⟩
    · rw [has_put_same hD hk]; simp [fset, hs]
    · rw [atKey_put_same hD hk]; simp [fset, hs]
  · have hs : x.sameKey kl = false := sameKey_ne e
    refine ⟨?_, fun z => ?_⟩
    · rw [has_put_other e, (h x).1]; simp [fset, hs]
    · rw [atKey_put_other e, (h x).2]; simp [fset, hs]

/-- The world but for one block. -/
theorem Fr.turned {b : Nat} (S : Nat → Prop) (h : w.mapTurned w' b) (hS : S b) : Fr S w w' := Fr.grown h.grown (fun k hk => by cases hk; exact hS)

theorem MapIs.look (h : MapIs w P k b n f) {t e : TypeId} (K : Keyed P k) (ht : P.underlying t = some (.map k e)) {z : Value} (hz : (zeroValue e).run P w = .ok z w) {key : Value} {kl : Lit} (hkey : keyOf P k key = some kl) :
    (Instr.lookup t (.map (some b)) key false).run P w = .ok ((f kl).getD z) w := by
  obtain ⟨D, h1, _, h2⟩ := h
  obtain ⟨v, ps, hrun, hv⟩ := h1.lookup K ht hz (zd := .held z) (zp := []) rfl hkey
  rw [(h2 kl).2] at hv
  simp only [heldElem, Option.some.injEq, Prod.mk.injEq] at hv
  rw [hrun]
  cases hf : f kl with
  | none => rw [hf] at hv; simp at hv; rw [hv.1]; rfl
  | some u => rw [hf] at hv; simp at hv; rw [hv.1]; rfl

theorem MapIs.look_ok (h : MapIs w P k b n f) {t e : TypeId} (K : Keyed P k) (ht : P.underlying t = some (.map k e)) {z : Value} (hz : (zeroValue e).run P w = .ok z w) {key : Value} {kl : Lit} (hkey : keyOf P k key = some kl) :
    (Instr.lookup t (.map (some b)) key true).run P w = .ok (.tuple #[(f kl).getD z, .bool (f kl).isSome]) w := by
  obtain ⟨D, h1, _, h2⟩ := h
  obtain ⟨v, ps, hrun, hv⟩ := h1.look_ok K ht hz (zd := .held z) (zp := []) rfl hkey
  rw [(h2 kl).2] at hv
  simp only [heldElem, Option.some.injEq, Prod.mk.injEq] at hv
  rw [hrun, (h2 kl).1]
  cases hf : f kl with
  | none => rw [hf] at hv; simp at hv; rw [hv.1]; rfl
  | some u => rw [hf] at hv; simp at hv; rw [hv.1]; rfl

theorem MapIs.store (h : MapIs w P k b n f) {t e : TypeId} (K : Keyed P k) (ht : P.underlying t = some (.map k e)) (hn : n < maxLen) {key val : Value} {kl : Lit} (hkey : keyOf P k key = some kl) :
    ∃ w', (Instr.mapUpdate t (.map (some b)) key val).run P w = .ok () w' ∧ MapIs w' P k b (if (f kl).isSome then n else n + 1) (fset f kl val) ∧ w.mapTurned w' b := by
  obtain ⟨D, h1, hs, h2⟩ := h
  obtain ⟨w', hr, ho, ht'⟩ := h1.store K ht hn hkey (d := .held val) (ps := []) rfl
  have e : Maps.size (D.put kl (.held val)) = if (f kl).isSome then n else n + 1 := by
    rw [size_put (h1.tidy K), (h2 kl).1, hs]
  exact ⟨w', hr, ⟨_, e ▸ ownsMap_size ho, e, h2.put h1.isMap (K.key hkey) val⟩, ht'⟩

theorem MapIs.len (h : MapIs w P k b n f) {t e : TypeId} (ht : P.underlying t = some (.map k e)) (ty : TypeId) :
    (Builtin.len_ #[t] ty #[.map (some b)]).run P w = .ok (.int .i64 n) w := by
  obtain ⟨D, h1, hs, h2⟩ := h
  rw [← hs]
  exact h1.len ht ty
end

/-! ### at the operation -/
section
variable {P : Program} (w : World) {ops : Array Oper} {rest : List Oper} {o : Oper} {a : Act} {Q : Exit → Act → World → Prop}

theorem wpList_look_ok (hg : o.guard = none) (m x : Operand) (t : TypeId) (hop : o.op = Op.lookup t m x true) (k e : TypeId) (K : Keyed P k) (ht : P.underlying t = some (.map k e)) {z : Value} (hz : (zeroValue e).run P w = .ok z w)
    (b n : Nat) (f : Lit → Option Value) (hm : a.eval m = .map (some b)) (hown : MapIs w P k b n f) (key : Value) (kl : Lit) (hx : a.eval x = key) (hkey : keyOf P k key = some kl)
    (v : Value) (c : Bool) (hv : (f kl).getD z = v) (hc : (f kl).isSome = c)
    (hK : wpList P ops Q rest (a.put o.dst (.tuple #[v, .bool c])) w) : wpList P ops Q (o :: rest) a w := by
  subst hv hc
  refine wpList_plain hg fun K' hK' => ?_
  have hrun := hown.look_ok K ht hz hkey
  unfold Oper.wp
  simp [execOp, hop, hm, hx, hrun, Result.andThen]
  exact hK' _ _ hK

theorem wpList_look (hg : o.guard = none) (m x : Operand) (t : TypeId) (hop : o.op = Op.lookup t m x false) (k e : TypeId) (K : Keyed P k) (ht : P.underlying t = some (.map k e)) {z : Value} (hz : (zeroValue e).run P w = .ok z w)
    (b n : Nat) (f : Lit → Option Value) (hm : a.eval m = .map (some b)) (hown : MapIs w P k b n f) (key : Value) (kl : Lit) (hx : a.eval x = key) (hkey : keyOf P k key = some kl)
    (v : Value) (hv : (f kl).getD z = v)
    (hK : wpList P ops Q rest (a.put o.dst v) w) : wpList P ops Q (o :: rest) a w := by
  subst hv
  refine wpList_plain hg fun K' hK' => ?_
  have hrun := hown.look K ht hz hkey
  unfold Oper.wp
  simp [execOp, hop, hm, hx, hrun, Result.andThen]
  exact hK' _ _ hK

theorem wpList_map_store (hg : o.guard = none) (m x v : Operand) (t : TypeId) (hop : o.op = Op.mapUpdate t m x v) (k e : TypeId) (K : Keyed P k) (ht : P.underlying t = some (.map k e))
    (b n : Nat) (f : Lit → Option Value) (hm : a.eval m = .map (some b)) (hown : MapIs w P k b n f) (hn : n < maxLen) (key val : Value) (kl : Lit) (hx : a.eval x = key) (hv : a.eval v = val) (hkey : keyOf P k key = some kl)
    (n' : Nat) (hn' : (if (f kl).isSome then n else n + 1) = n')
    (hK : ∀ w', MapIs w' P k b n' (fset f kl val) → w.mapTurned w' b → wpList P ops Q rest (a.put o.dst undef) w') : wpList P ops Q (o :: rest) a w := by
  refine wpList_plain hg fun K' hK' => ?_
  subst hn'
  obtain ⟨w', hrun, r1, r2⟩ := hown.store K ht hn (val := val) hkey
  unfold Oper.wp
  simp [execOp, hop, hm, hx, hv, hrun, Result.andThen]
  exact hK' _ _ (hK w' r1 r2)

theorem wpList_map_len (m : Operand) (t : TypeId) (hg : o.guard = none) (hop : o.op = Op.call { callee := Callee.builtin Builtin.len, args := #[m], argTypes := #[t] }) (k e : TypeId) (ht : P.underlying t = some (.map k e))
    (b n : Nat) (f : Lit → Option Value) (hm : a.eval m = .map (some b)) (hown : MapIs w P k b n f)
    (hK : wpList P ops Q rest (a.put o.dst (.int .i64 n)) w) : wpList P ops Q (o :: rest) a w := by
  refine wpList_plain hg fun K' hK' => ?_
  have hrun := hown.len ht o.type
  unfold Oper.wp
  simp [execOp, hop, resolve, invoke, builtin, hm, hrun, Result.andThen]
  exact hK' _ _ hK
end

/-! ### the same behind a guard that holds -/
section
variable {P : Program} (w : World) {ops : Array Oper} {rest : List Oper} {o : Oper} {a : Act} {Q : Exit → Act → World → Prop}

theorem wpList_wanted (hw : Region.wanted o (yielded ops a.tmps) = true) (h : ∀ K : Act → World → Prop, (∀ a w, wpList P ops Q rest a w → K a w) → o.wp P a w K Q) : wpList P ops Q (o :: rest) a w :=
  wpList_step fun K hK => by rw [if_pos hw]; exact h K hK

theorem wpList_look_g (hg : Region.wanted o (yielded ops a.tmps) = true) (m x : Operand) (t : TypeId) (hop : o.op = Op.lookup t m x false) (k e : TypeId) (K : Keyed P k) (ht : P.underlying t = some (.map k e)) {z : Value} (hz : (zeroValue e).run P w = .ok z w)
    (b n : Nat) (f : Lit → Option Value) (hm : a.eval m = .map (some b)) (hown : MapIs w P k b n f) (key : Value) (kl : Lit) (hx : a.eval x = key) (hkey : keyOf P k key = some kl)
    (v : Value) (hv : (f kl).getD z = v)
    (hK : wpList P ops Q rest (a.put o.dst v) w) : wpList P ops Q (o :: rest) a w := by
  subst hv
  refine wpList_wanted w hg fun K' hK' => ?_
  have hrun := hown.look K ht hz hkey
  unfold Oper.wp
  simp [execOp, hop, hm, hx, hrun, Result.andThen]
  exact hK' _ _ hK

theorem wpList_map_len_g (m : Operand) (t : TypeId) (hg : Region.wanted o (yielded ops a.tmps) = true) (hop : o.op = Op.call { callee := Callee.builtin Builtin.len, args := #[m], argTypes := #[t] }) (k e : TypeId) (ht : P.underlying t = some (.map k e))
    (b n : Nat) (f : Lit → Option Value) (hm : a.eval m = .map (some b)) (hown : MapIs w P k b n f)
    (hK : wpList P ops Q rest (a.put o.dst (.int .i64 n)) w) : wpList P ops Q (o :: rest) a w := by
  refine wpList_wanted w hg fun K' hK' => ?_
  have hrun := hown.len ht o.type
  unfold Oper.wp
  simp [execOp, hop, resolve, invoke, builtin, hm, hrun, Result.andThen]
  exact hK' _ _ hK
end

/-- A store into a map, as one step of a region that draws. -/
theorem step_map_store {P : Program} {w : World} {ops : Array Oper} {o : Oper} {a : Act} {K : Act → World → Prop} {Q : Exit → Act → World → Prop} {X : Prop} (hg : o.guard = none) (m x v : Operand) (t : TypeId) (hop : o.op = Op.mapUpdate t m x v) (k e : TypeId) (Ky : Keyed P k) (ht : P.underlying t = some (.map k e))
    (b n : Nat) (f : Lit → Option Value) (hm : a.eval m = .map (some b)) (hown : MapIs w P k b n f) (hn : n < maxLen) (key val : Value) (kl : Lit) (hx : a.eval x = key) (hv : a.eval v = val) (hkey : keyOf P k key = some kl)
    (hK : ∀ w', MapIs w' P k b (if (f kl).isSome then n else n + 1) (fset f kl val) → w.mapTurned w' b → K (a.put o.dst undef) w') : if Region.wanted o (yielded ops a.tmps) = true then Oper.wp P o a w K Q else X := by
  have hw : Region.wanted o (yielded ops a.tmps) = true := by simp [Region.wanted, hg]
  rw [if_pos hw]
  obtain ⟨w', hrun, r1, r2⟩ := hown.store Ky ht hn (val := val) hkey
  unfold Oper.wp
  simp [execOp, hop, hm, hx, hv, hrun, Result.andThen]
  exact hK w' r1 r2

/-! ### maps by strings -/

/-- What a map by strings keeps. -/
def byStr {α : Type} (enc : α → Value) (f : List UInt8 → Option α) : Lit → Option Value
  | .string s => (f s).map enc
  | _ => none

def sset {α : Type} (f : List UInt8 → Option α) (s : List UInt8) (x : α) : List UInt8 → Option α := fun y => if y = s then some x else f y

theorem fset_byStr {α : Type} (enc : α → Value) (f : List UInt8 → Option α) (s : List UInt8) (x : α) : fset (byStr enc f) (.string s) (enc x) = byStr enc (sset f s x) := by
  funext kl
  cases kl <;> simp [fset, byStr, Lit.sameKey]
  rename_i y
  by_cases h : y = s <;> simp [sset, h]

theorem sset_same {α : Type} (f : List UInt8 → Option α) (s : List UInt8) (x : α) : sset f s x s = some x := by simp [sset]
theorem sset_other {α : Type} (f : List UInt8 → Option α) {s t : List UInt8} (x : α) (h : t ≠ s) : sset f s x t = f t := by simp [sset, h]

theorem byStr_nil {α : Type} (enc : α → Value) : byStr enc (fun _ => none) = fun _ => none := by
  funext kl
  cases kl <;> rfl

/-- Block b is a map by strings that keeps what f says. -/
def StrMap {α : Type} (enc : α → Value) (w : World) (P : Program) (k : TypeId) (b n : Nat) (f : List UInt8 → Option α) : Prop := MapIs w P k b n (byStr enc f)

theorem StrMap.made {α : Type} (enc : α → Value) (w : World) (P : Program) (k : TypeId) : StrMap enc (w.alloc (.map #[] 0)) P k w.heap.size 0 (fun _ => none) := by
  unfold StrMap
  rw [byStr_nil]
  exact MapIs.made w P k
end Go.Proofs.Ytojealgjfbjnoaa
