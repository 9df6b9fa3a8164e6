/- Maps that hold any values, read as a partial function of the key. No condition. || Strings as keys. No condition. || Plain lemmas on lists, for the walks. No condition. || Objects as rows of cells, of which five are told; pod. No condition. || Rows of objects of the call's own. No condition. -/
import Derived.Test.YtjncoloedakpoaaDoorFrame
import Derived.Maps.OwnSet
import Derived.Maps.RangeWalk
import Derived.StillTailTactics
import Derived.Test.YtjncoloedakpoaaDoorChecked
import Derived.Test.YtjncoloedakpoaaDoorBase
import Derived.Test.YtjncoloedakpoaaDoorRows
namespace Go.Proofs.YtjncoloedakpoaaDoor
open Go.ChangeShapes Go.WideShapes Go.ChangeAt Go.RowKit Go.Deep Go.Maps

def heldElem (v : Value) : Option (DataW Value × List MemPlace) := some (.held v, [])

def Tells (D : DataW Value) (f : Lit → Option Value) : Prop := ∀ kl, Maps.has D kl = (f kl).isSome ∧ ∀ z, D.atKey kl z = ((f kl).map DataW.held).getD z

def fset {α : Type} (f : Lit → Option α) (kl : Lit) (v : α) : Lit → Option α := fun x => if x.sameKey kl = true then some v else f x

def MapIs (w : World) (P : Program) (k : TypeId) (b n : Nat) (f : Lit → Option Value) : Prop := ∃ D, w.ownsMap P k heldElem b n D ∧ Maps.size D = n ∧ Tells D f

theorem ownsMap_size {P : Program} {k : TypeId} {R : Value → Option (DataW Value × List MemPlace)} {w : World} {b n : Nat} {D : DataW Value} (h : w.ownsMap P k R b n D) : w.ownsMap P k R b (Maps.size D) D := by
  obtain ⟨es, clock, h1, h2, _, rfl⟩ := h
  exact ⟨es, clock, h1, h2, by simp [Maps.size, length_sorted], rfl⟩

theorem Tells.nil : Tells (.map []) (fun _ => none) := fun _ => ⟨rfl, fun _ => rfl⟩

section
variable {P : Program} {k : TypeId} {w w' : World} {b n : Nat} {f : Lit → Option Value}

theorem MapIs.made (w : World) (P : Program) (k : TypeId) : MapIs (w.alloc (.map #[] 0)) P k w.heap.size 0 (fun _ => none) :=
  ⟨.map [], World.ownsMap_made w P k heldElem, rfl, Tells.nil⟩

theorem MapIs.lt (h : MapIs w P k b n f) : b < w.heap.size := let ⟨_, h1, _⟩ := h; h1.lt

theorem MapIs.same (h : MapIs w P k b n f) (hb : w'.heap[b]? = w.heap[b]?) : MapIs w' P k b n f := by
  obtain ⟨D, ⟨es, clock, h1, r⟩, hn, h2⟩ := h
  exact ⟨D, ⟨es, clock, hb.trans h1, r⟩, hn, h2⟩

theorem MapIs.fr (h : MapIs w P k b n f) {S : Nat → Prop} (hf : Fr S w w') (hS : ¬ S b) : MapIs w' P k b n f := h.same (hf.block b h.lt hS)
theorem MapIs.below (h : MapIs w P k b n f) (hf : Below w.heap.size w w') : MapIs w' P k b n f := h.same (hf.block b h.lt)

theorem Tells.put {D : DataW Value} (h : Tells D f) (hD : IsMap D) {kl : Lit} (hk : WideAt.IsKeyLit kl) (v : Value) : Tells (D.put kl (.held v)) (fset f kl v) := by
  intro x
  by_cases e : x = kl
  · subst e
    have hs : x.sameKey x = true := by
      cases x <;> simp [Lit.sameKey, WideAt.IsKeyLit] at hk ⊢
    refine ⟨?_, fun z => ?_⟩
    · rw [has_put_same hD hk]; simp [fset, hs]
    · rw [atKey_put_same hD hk]; simp [fset, hs]
  · have hs : x.sameKey kl = false := sameKey_ne e
    refine ⟨?_, fun z => ?_⟩
    · rw [has_put_other e, (h x).1]; simp [fset, hs]
    · rw [atKey_put_other e, (h x).2]; simp [fset, hs]

theorem Fr.turned {b : Nat} (S : Nat → Prop) (h : w.mapTurned w' b) (hS : S b) : Fr S w w' := Fr.grown h.grown (fun k hk => by cases hk; exact hS)

theorem MapIs.look (h : MapIs w P k b n f) {t e : TypeId} (K : Keyed P k) (ht : P.underlying t = some (.map k e)) {z : Value} (hz : (zeroValue e).run P w = .ok z w) {key : Value} {kl : Lit} (hkey : keyOf P k key = some kl) :
    (Instr.lookup t (.map (some b)) key false).run P w = .ok ((f kl).getD z) w := by
  obtain ⟨D, h1, _, h2⟩ := h
  obtain ⟨v, ps, hrun, hv⟩ := h1.lookup K ht hz (zd := .held z) (zp := []) rfl hkey
  rw [(h2 kl).2] at hv
  simp only [heldElem, Option.some.injEq, Prod.mk.injEq] at hv
  rw [hrun]
  cases hf : f kl with
  | none => rw [hf] at hv; simp at hv; rw [hv.1]; rfl
  | some u => rw [hf] at hv; simp at hv; rw [hv.1]; rfl

theorem MapIs.store (h : MapIs w P k b n f) {t e : TypeId} (K : Keyed P k) (ht : P.underlying t = some (.map k e)) (hn : n < maxLen) {key val : Value} {kl : Lit} (hkey : keyOf P k key = some kl) :
    ∃ w', (Instr.mapUpdate t (.map (some b)) key val).run P w = .ok () w' ∧ MapIs w' P k b (if (f kl).isSome then n else n + 1) (fset f kl val) ∧ w.mapTurned w' b := by
  obtain ⟨D, h1, hs, h2⟩ := h
  obtain ⟨w', hr, ho, ht'⟩ := h1.store K ht hn hkey (d := .held val) (ps := []) rfl
  have e : Maps.size (D.put kl (.held val)) = if (f kl).isSome then n else n + 1 := by
    rw [size_put (h1.tidy K), (h2 kl).1, hs]
  exact ⟨w', hr, ⟨_, e ▸ ownsMap_size ho, e, h2.put h1.isMap (K.key hkey) val⟩, ht'⟩

theorem MapIs.len (h : MapIs w P k b n f) {t e : TypeId} (ht : P.underlying t = some (.map k e)) (ty : TypeId) :
    (Builtin.len_ #[t] ty #[.map (some b)]).run P w = .ok (.int .i64 n) w := by
  obtain ⟨D, h1, hs, h2⟩ := h
  rw [← hs]
  exact h1.len ht ty
end

section
variable {P : Program} (w : World) {ops : Array Oper} {rest : List Oper} {o : Oper} {a : Act} {Q : Exit → Act → World → Prop}

theorem wpList_look (hg : o.guard = none) (m x : Operand) (t : TypeId) (hop : o.op = Op.lookup t m x false) (k e : TypeId) (K : Keyed P k) (ht : P.underlying t = some (.map k e)) {z : Value} (hz : (zeroValue e).run P w = .ok z w)
    (b n : Nat) (f : Lit → Option Value) (hm : a.eval m = .map (some b)) (hown : MapIs w P k b n f) (key : Value) (kl : Lit) (hx : a.eval x = key) (hkey : keyOf P k key = some kl)
    (v : Value) (hv : (f kl).getD z = v)
    (hK : wpList P ops Q rest (a.put o.dst v) w) : wpList P ops Q (o :: rest) a w := by
  subst hv
  refine wpList_plain hg fun K' hK' => ?_
  have hrun := hown.look K ht hz hkey
  unfold Oper.wp
  simp [execOp, hop, hm, hx, hrun, Result.andThen]
  exact hK' _ _ hK

theorem wpList_map_store (hg : o.guard = none) (m x v : Operand) (t : TypeId) (hop : o.op = Op.mapUpdate t m x v) (k e : TypeId) (K : Keyed P k) (ht : P.underlying t = some (.map k e))
    (b n : Nat) (f : Lit → Option Value) (hm : a.eval m = .map (some b)) (hown : MapIs w P k b n f) (hn : n < maxLen) (key val : Value) (kl : Lit) (hx : a.eval x = key) (hv : a.eval v = val) (hkey : keyOf P k key = some kl)
    (n' : Nat) (hn' : (if (f kl).isSome then n else n + 1) = n')
    (hK : ∀ w', MapIs w' P k b n' (fset f kl val) → w.mapTurned w' b → wpList P ops Q rest (a.put o.dst undef) w') : wpList P ops Q (o :: rest) a w := by
  refine wpList_plain hg fun K' hK' => ?_
  subst hn'
  obtain ⟨w', hrun, r1, r2⟩ := hown.store K ht hn (val := val) hkey
  unfold Oper.wp
  simp [execOp, hop, hm, hx, hv, hrun, Result.andThen]
  exact hK' _ _ (hK w' r1 r2)

end

section
variable {P : Program} (w : World) {ops : Array Oper} {rest : List Oper} {o : Oper} {a : Act} {Q : Exit → Act → World → Prop}

theorem wpList_wanted (hw : Region.wanted o (yielded ops a.tmps) = true) (h : ∀ K : Act → World → Prop, (∀ a w, wpList P ops Q rest a w → K a w) → o.wp P a w K Q) : wpList P ops Q (o :: rest) a w :=
  wpList_step fun K hK => by rw [if_pos hw]; exact h K hK

theorem wpList_look_g (hg : Region.wanted o (yielded ops a.tmps) = true) (m x : Operand) (t : TypeId) (hop : o.op = Op.lookup t m x false) (k e : TypeId) (K : Keyed P k) (ht : P.underlying t = some (.map k e)) {z : Value} (hz : (zeroValue e).run P w = .ok z w)
    (b n : Nat) (f : Lit → Option Value) (hm : a.eval m = .map (some b)) (hown : MapIs w P k b n f) (key : Value) (kl : Lit) (hx : a.eval x = key) (hkey : keyOf P k key = some kl)
    (v : Value) (hv : (f kl).getD z = v)
    (hK : wpList P ops Q rest (a.put o.dst v) w) : wpList P ops Q (o :: rest) a w := by
  subst hv
  refine wpList_wanted w hg fun K' hK' => ?_
  have hrun := hown.look K ht hz hkey
  unfold Oper.wp
  simp [execOp, hop, hm, hx, hrun, Result.andThen]
  exact hK' _ _ hK

end


def byStr {α : Type} (enc : α → Value) (f : List UInt8 → Option α) : Lit → Option Value
  | .string s => (f s).map enc
  | _ => none

def sset {α : Type} (f : List UInt8 → Option α) (s : List UInt8) (x : α) : List UInt8 → Option α := fun y => if y = s then some x else f y

theorem fset_byStr {α : Type} (enc : α → Value) (f : List UInt8 → Option α) (s : List UInt8) (x : α) : fset (byStr enc f) (.string s) (enc x) = byStr enc (sset f s x) := by
  funext kl
  cases kl <;> simp [fset, byStr, Lit.sameKey]
  rename_i y
  by_cases h : y = s <;> simp [sset, h]

theorem byStr_nil {α : Type} (enc : α → Value) : byStr enc (fun _ => none) = fun _ => none := by
  funext kl
  cases kl <;> rfl

def StrMap {α : Type} (enc : α → Value) (w : World) (P : Program) (k : TypeId) (b n : Nat) (f : List UInt8 → Option α) : Prop := MapIs w P k b n (byStr enc f)

theorem StrMap.made {α : Type} (enc : α → Value) (w : World) (P : Program) (k : TypeId) : StrMap enc (w.alloc (.map #[] 0)) P k w.heap.size 0 (fun _ => none) := by
  unfold StrMap
  rw [byStr_nil]
  exact MapIs.made w P k
end Go.Proofs.YtjncoloedakpoaaDoor
namespace Go.Proofs.YtjncoloedakpoaaDoor
open Go.ChangeShapes Go.WideShapes Go.ChangeAt Go.RowKit Go.Deep Go.Maps
theorem strKeyed : Keyed Tryd.prog 9 := string_keyed Tryd.underlying9
theorem strKeyD {s : ByteArray} (h : s.size ≤ maxLen) : keyOf Tryd.prog 9 (.string s) = some (.string s.data.toList) := WideMaps.keyOf_string_mk Tryd.underlying9 h
end Go.Proofs.YtjncoloedakpoaaDoor
namespace Go.Proofs.YtjncoloedakpoaaDoor
def idxOf {α : Type} (p : α → Bool) : List α → Nat → Int
  | [], _ => -1
  | x :: xs, k => if p x then k else idxOf p xs (k + 1)

theorem idxOf_drop {α : Type} (p : α → Bool) {xs : List α} {k : Nat} (h : k < xs.length) : idxOf p (xs.drop k) k = if p xs[k] then (k : Int) else idxOf p (xs.drop (k + 1)) (k + 1) := by
  rw [List.drop_eq_getElem_cons h, idxOf]

theorem idxOf_end {α : Type} (p : α → Bool) {xs : List α} {k : Nat} (h : xs.length ≤ k) : idxOf p (xs.drop k) k = -1 := by
  rw [List.drop_eq_nil_of_le h, idxOf]


theorem flatMap_len {α : Type} {f : α → List Value} {sz : Nat} (hf : ∀ x, (f x).length = sz) : ∀ (xs : List α), (xs.flatMap f).length = xs.length * sz
  | [] => by simp
  | x :: xs => by rw [List.flatMap_cons, List.length_append, hf, flatMap_len hf xs, List.length_cons, Nat.add_mul]; omega

theorem flatMap_take {α : Type} {f : α → List Value} {sz : Nat} (hf : ∀ x, (f x).length = sz) : ∀ (xs : List α) (q : Nat) (rest : List Value), q ≤ xs.length → (xs.flatMap f ++ rest).take (q * sz) = (xs.take q).flatMap f
  | _, 0, _, _ => by simp
  | [], q + 1, _, h => by simp at h
  | x :: xs, q + 1, rest, h => by
    have e : (q + 1) * sz = (f x).length + q * sz := by rw [hf, Nat.add_mul]; omega
    rw [List.flatMap_cons, List.append_assoc, e, List.take_length_add_append, flatMap_take hf xs q rest (by simpa using h)]
    rfl

theorem flatMap_drop {α : Type} {f : α → List Value} {sz : Nat} (hf : ∀ x, (f x).length = sz) : ∀ (xs : List α) (q : Nat) (rest : List Value), q ≤ xs.length → (xs.flatMap f ++ rest).drop (q * sz) = (xs.drop q).flatMap f ++ rest
  | _, 0, _, _ => by simp
  | [], q + 1, _, h => by simp at h
  | x :: xs, q + 1, rest, h => by
    have e : (q + 1) * sz = (f x).length + q * sz := by rw [hf, Nat.add_mul]; omega
    rw [List.flatMap_cons, List.append_assoc, e, List.drop_length_add_append, flatMap_drop hf xs q rest (by simpa using h)]
    rfl

theorem flatMap_set {α : Type} {f : α → List Value} {sz : Nat} (hf : ∀ x, (f x).length = sz) (xs : List α) (q : Nat) (x : α) (rest : List Value) (h : q < xs.length) :
    (xs.flatMap f ++ rest).take (q * sz) ++ f x ++ (xs.flatMap f ++ rest).drop (q * sz + sz) = (xs.set q x).flatMap f ++ rest := by
  have e : q * sz + sz = (q + 1) * sz := by rw [Nat.add_mul]; omega
  rw [e, flatMap_take hf _ _ _ (by omega), flatMap_drop hf _ _ _ (by omega), List.set_eq_take_append_cons_drop, if_pos h]
  simp

theorem filter_take_succ {α : Type} (p : α → Bool) (xs : List α) (r : Nat) (h : r < xs.length) : (xs.take (r + 1)).filter p = (xs.take r).filter p ++ (if p xs[r] then [xs[r]] else []) := by
  rw [List.take_succ_eq_append_getElem h, List.filter_append]
  congr 1
  by_cases hp : p xs[r] = true <;> simp [hp]

theorem set_take {α : Type} (xs : List α) (q : Nat) (x : α) (h : q < xs.length) : (xs.set q x).take (q + 1) = xs.take q ++ [x] := by
  rw [List.take_succ_eq_append_getElem (by simpa using h), List.take_set, List.set_eq_of_length_le (by simp; omega)]
  simp

theorem set_drop {α : Type} (xs : List α) (q r : Nat) (x : α) (h : q < r) : (xs.set q x).drop r = xs.drop r := by
  rw [List.drop_set, if_pos h]

def DelInv {α : Type} (np : α → Bool) (xs ys : List α) (q r : Nat) : Prop :=
  ys.length = xs.length ∧ q = ((xs.take r).filter np).length ∧ ys.take q = (xs.take r).filter np ∧ ys.drop r = xs.drop r

theorem drop_next {α : Type} {xs ys : List α} {r : Nat} (h : ys.drop r = xs.drop r) : ys.drop (r + 1) = xs.drop (r + 1) := by
  rw [← List.drop_drop, h, List.drop_drop]

theorem del_keep {α : Type} {np : α → Bool} {xs ys : List α} {q r : Nat} (h : DelInv np xs ys q r) (hr : r < xs.length) (hp : np xs[r] = true) (hq : q < r) : DelInv np xs (ys.set q xs[r]) (q + 1) (r + 1) := by
  obtain ⟨h1, h2, h3, h4⟩ := h
  refine ⟨by rw [List.length_set, h1], ?_, ?_, ?_⟩
  · rw [filter_take_succ _ _ _ hr, if_pos hp, List.length_append, ← h2]; rfl
  · rw [filter_take_succ _ _ _ hr, if_pos hp, set_take _ _ _ (by omega), h3]
  · rw [set_drop _ _ _ _ (by omega), drop_next h4]

theorem del_drop {α : Type} {np : α → Bool} {xs ys : List α} {q r : Nat} (h : DelInv np xs ys q r) (hr : r < xs.length) (hp : np xs[r] = false) : DelInv np xs ys q (r + 1) := by
  obtain ⟨h1, h2, h3, h4⟩ := h
  have e : (xs.take (r + 1)).filter np = (xs.take r).filter np := by
    rw [filter_take_succ _ _ _ hr, hp]
    simp
  exact ⟨h1, by rw [e]; exact h2, by rw [e]; exact h3, drop_next h4⟩

theorem del_end {α : Type} {np : α → Bool} {xs ys : List α} {q r : Nat} (h : DelInv np xs ys q r) (hr : xs.length ≤ r) : q = (xs.filter np).length ∧ ys.take q = xs.filter np := by
  obtain ⟨h1, h2, h3, h4⟩ := h
  rw [List.take_of_length_le hr] at h2 h3
  exact ⟨h2, h3⟩

theorem idxOf_spec {α : Type} (p : α → Bool) : ∀ (xs : List α) (k : Nat),
    (idxOf p xs k = -1 ∧ ∀ x ∈ xs, p x = false) ∨
    ∃ j, ∃ h : j < xs.length, idxOf p xs k = ((k + j : Nat) : Int) ∧ p xs[j] = true ∧ ∀ x ∈ xs.take j, p x = false
  | [], _ => .inl ⟨rfl, by simp⟩
  | x :: xs, k => by
    by_cases h : p x = true
    · exact .inr ⟨0, by simp, by simp only [idxOf, if_pos h]; rfl, h, by simp⟩
    · simp only [idxOf, if_neg h]
      rcases idxOf_spec p xs (k + 1) with ⟨h1, h2⟩ | ⟨j, hj, h1, h2, h3⟩
      · exact .inl ⟨h1, by simpa [h] using h2⟩
      · exact .inr ⟨j + 1, by simp; omega, by rw [h1]; congr 1; omega, h2, by simpa [h] using h3⟩

end Go.Proofs.YtjncoloedakpoaaDoor
namespace Go.Proofs.YtjncoloedakpoaaDoor
open Go.ChangeShapes Go.WideShapes Go.ChangeAt Go.RowKit Go.Deep

structure OV where
  cells : List Value
  kind : Int
  name : ByteArray
  owner : ByteArray
  phase : Int
  since : Int
  hlen : cells.length = 47
  h0 : cells[0]? = some (.int .i64 kind)
  h1 : cells[1]? = some (.string name)
  h10 : cells[10]? = some (.string owner)
  h12 : cells[12]? = some (.int .i64 phase)
  h13 : cells[13]? = some (.int .i64 since)
  one : cells.all (fun u => u.oneCell') = true

theorem aggObj : AggOK Tryd.prog 44 47 := .mk' (by kernel_rfl) (by kernel_rfl)
theorem elemObj : ElemOK Tryd.prog 45 44 47 640 := .mk' Tryd.underlying45 (by kernel_rfl) (by decide)

theorem opod_any (x : OV) (w : World) : Calls Tryd.prog 26 #[.agg x.cells.toArray] w fun e w' => e = .returned (.bool (x.kind == 1)) ∧ Below w.heap.size w w' := by
  have k0 : (w.alloc (.cells x.cells.toArray 44)).cell? ⟨w.heap.size, 0, none⟩ = some (.int .i64 x.kind) := (cell_new w _ _ 0).trans (by simpa using x.h0)
  go_enter Tryd.func26, Tryd.ntmps26
  go_wp2
  go_ret
  exact ⟨rfl, (Below.refl _ _).alloc (Nat.le_refl _) _⟩
end Go.Proofs.YtjncoloedakpoaaDoor
namespace Go.Proofs.YtjncoloedakpoaaDoor
open Go.ChangeShapes Go.WideShapes Go.ChangeAt Go.RowKit Go.Deep

def OwnO (w : World) (B : Nat) (v : Value) (xs : List OV) : Prop := w.ownsRow B 44 47 v xs.length (xs.flatMap OV.cells)
def Dis (v u : Value) : Prop := ∀ g, v.ownBlock = some g → u.ownBlock ≠ some g

theorem Dis.symm {v u : Value} (h : Dis v u) : Dis u v := fun g h1 h2 => h g h2 h1

theorem OwnO.nil (w : World) (B : Nat) : OwnO w B (.slice none 0 0) [] := World.ownsRow_nil w B _ _

theorem own_next {w w' : World} {B : Nat} {v u : Value} {ys : List OV} {g' cap' n' : Nat} (hu : OwnO w B u ys) (hd : Dis v u) (hg : w.grownBy w' v.ownBlock) (hnew : v.ownBlock = some g' ∨ w.heap.size ≤ g') :
    OwnO w' B u ys ∧ Dis (.slice (some ⟨g', 0, none⟩) n' cap') u := by
  refine ⟨owns_fr (Fr.grown (S := fun k => v.ownBlock = some k) hg (fun k hk => hk)) hu (fun k hk hs => hd k hs hk), fun g h1 h2 => ?_⟩
  simp only [Value.ownBlock, Option.some.injEq] at h1
  subst h1
  rcases hnew with h | h
  · exact hd _ h h2
  · have := (World.ownsRow.lt hu _ h2).2
    omega

theorem own_first {w' : World} {B : Nat} {g' cap' : Nat} {xs : List OV} {x : OV} (h : w'.ownsRow B 44 47 (.slice (some ⟨g', 0, none⟩) (xs.length + 1) cap') (xs.length + 1) (xs.flatMap OV.cells ++ x.cells.toArray.toList)) :
    OwnO w' B (.slice (some ⟨g', 0, none⟩) (xs.length + 1) cap') (xs ++ [x]) := by
  unfold OwnO
  rw [List.length_append, List.flatMap_append]
  simpa using h

set_option maxRecDepth 100000 in
theorem oneList : ∀ (l : List Value), l.length = 47 → ∀ w : World, (Instr.buildSlice 45 1 [(0, .agg l.toArray)].toArray).run Tryd.prog w = .ok (.slice (some ⟨w.heap.size, 0, none⟩) 1 1) (w.alloc (.cells l.toArray 44))
  | a0 :: a1 :: a2 :: a3 :: a4 :: a5 :: a6 :: a7 :: a8 :: a9 :: a10 :: a11 :: a12 :: a13 :: a14 :: a15 :: a16 :: a17 :: a18 :: a19 :: a20 :: a21 :: a22 :: a23 :: a24 :: a25 :: a26 :: a27 :: a28 :: a29 :: a30 :: a31 :: a32 :: a33 :: a34 :: a35 :: a36 :: a37 :: a38 :: a39 :: a40 :: a41 :: a42 :: a43 :: a44 :: a45 :: a46 :: [], _ => fun w => by kernel_rfl

theorem oneObj (x : OV) (w : World) : (Instr.buildSlice 45 1 [(0, .agg x.cells.toArray)].toArray).run Tryd.prog w = .ok (.slice (some ⟨w.heap.size, 0, none⟩) 1 1) (w.alloc (.cells x.cells.toArray 44)) := oneList x.cells x.hlen w

end Go.Proofs.YtjncoloedakpoaaDoor
