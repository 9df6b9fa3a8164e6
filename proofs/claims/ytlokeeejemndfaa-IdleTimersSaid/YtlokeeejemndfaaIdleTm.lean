/- What the loops of IdleTimers bear. No condition. -/
import Derived.Test.YtlokeeejemndfaaIdlePlain
import Derived.Test.YtlokeeejemndfaaIdleLives
namespace Go.Proofs.Ytlokeeejemndfaa
open Go.ChangeShapes Go.WideShapes Go.ChangeAt Go.RowKit Go.Deep Go.Maps Go.Sort

structure Lk27 where
  tick : Int
  ao : Option Addr
  ln : Nat
  cap : Nat
  names : List SStr
  reset : Bool
instance : Inhabited Lk27 := ⟨⟨0, none, 0, 0, [], false⟩⟩
def Lk27R (w : World) (x : Lk27) (c : List Value) : Prop := c = [.int .i16 x.tick, .slice x.ao x.ln x.cap, .bool x.reset] ∧ SlR (Flat cS) 1 w x.ao x.ln x.cap x.names ∧ -32768 ≤ x.tick ∧ x.tick ≤ 32767

theorem lk27_of (w : World) (c : List Value) (h : Rel (.pair (.int .i16) (.pair (.slice .str) (.pair .bool .unit))) w c) : ∃ x, Lk27R w x c := by
  obtain ⟨c1, c2, rfl, _, ⟨n1, rfl, h1⟩, c3, c4, rfl, _, h2, c5, c6, rfl, _, ⟨b, rfl⟩, rfl⟩ := h
  obtain ⟨ao, ln, cap, xs, e0, hS⟩ := SlR.of_rel h2 (fun c hc => sS_of w c hc)
  subst e0
  refine ⟨⟨n1, ao, ln, cap, xs, b⟩, rfl, hS, ?_⟩
  simp [Lit.wf, IntKind.min, IntKind.max, IntKind.signed, IntKind.bits] at h1
  omega

theorem elemLook : ElemOK Try.prog 27 34 2 32 := .mk' Try.underlying27 (by kernel_rfl) (by decide)
theorem zeroStrs (w : World) : (Instr.buildSlice 29 0 (([] : List (Nat × Value))).toArray).run Try.prog w = .ok (.slice (some ⟨w.heap.size, 0, none⟩) 0 0) (w.alloc (.cells #[] 9)) := by kernel_rfl
theorem oneLook (a : Int) (ao : Option Addr) (ln cap : Nat) (w : World) : (Instr.buildSlice 27 1 [(0, Value.agg #[.int .i64 a, .slice ao ln cap])].toArray).run Try.prog w = .ok (.slice (some ⟨w.heap.size, 0, none⟩) 1 1) (w.alloc (.cells #[.int .i64 a, .slice ao ln cap] 34)) := by kernel_rfl
theorem zeroBool (w : World) : (zeroValue 4).run Try.prog w = .ok (.bool false) w := by kernel_rfl

/-- What the first loop's head bears. -/
structure InvT (w : World) (B tb : Nat) (v8 : Value) (C : List LK) (now : Int) (tm n' : Nat) (wr : World) : Prop where
  tmr : TimersAt wr tb tm n' (tmOf C.reverse)
  row : wr.ownsRow B 34 2 v8 C.length (C.flatMap LK.cells)
  good : ∀ l ∈ C, 0 ≤ l.at0 ∧ l.at0 ≤ now ∧ l.ln ≤ 10 ∧ SlR (Flat cS) 1 w l.ao l.ln l.cap l.names
  last : ∀ p, (hp : p + 1 = C.length) → C[p].at0 = now
  below : Below w.heap.size w wr
  hB : B ≤ wr.heap.size
  tbB : tb < B
  wtb : w.heap.size ≤ tb

theorem InvT.reset {w : World} {B tb : Nat} {v8 : Value} {C : List LK} {now : Int} {tm n' : Nat} {wr w3 : World} {o : Obj} (h : InvT w B tb v8 C now tm n' wr) (hT : TimersAt w3 tb (wr.alloc o).heap.size 0 Tm.zero) (hF : Fr (fun k => k = tb) (wr.alloc o) w3) :
    InvT w B tb (.slice none 0 0) [] now (wr.alloc o).heap.size 0 w3 := by
  have h1 := h.below.size
  have h2 := h.wtb
  have h3 := hF.size
  have h4 := h.hB
  simp only [World.size_alloc] at h3
  refine ⟨hT, World.ownsRow_nil _ _ _ _, (fun l hl => by cases hl), (fun p hp => by cases hp), (h.below.alloc (by omega) o).trans (hF.below (by simp; omega) (fun k hk => by omega)), by omega, h.tbB, h.wtb⟩

/-- Nothing that was there has changed. -/
theorem InvT.keep {w : World} {B tb : Nat} {v8 : Value} {C : List LK} {now : Int} {tm n' : Nat} {wr w' : World} (h : InvT w B tb v8 C now tm n' wr) (hb : Below wr.heap.size wr w') : InvT w B tb v8 C now tm n' w' :=
  ⟨h.tmr.below hb, owns_fr (Fr.of_below hb (fun _ => False)) h.row (fun _ _ hf => hf), h.good, h.last, h.below.trans (hb.mono h.below.size), Nat.le_trans h.hB hb.size, h.tbB, h.wtb⟩

theorem owns_not_map {w : World} {B : Nat} {e : TypeId} {sz : Nat} {v : Value} {n : Nat} {xs : List Value} (h : w.ownsRow B e sz v n xs) {b m : Nat} {k : TypeId} {f : Lit → Option Value} (hM : MapIs w Try.prog k b m f) : v.ownBlock ≠ some b := by
  intro hb
  obtain ⟨D, ⟨es, clock, h1, _⟩, _⟩ := hM
  rcases h.2 with ⟨rfl, _⟩ | ⟨g, cap, cur, rfl, _, hg, _⟩
  · cases hb
  · cases hb
    rw [h1] at hg
    cases hg

/-- A row of the call's own, as its slice's elements are written. -/
def OwnS (w : World) (B : Nat) (e : TypeId) (ao : Option Addr) (n : Nat) : Prop := ∀ g off, ao = some ⟨g, off, none⟩ → B ≤ g ∧ g < w.heap.size ∧ ∃ cur, w.heap[g]? = some (.cells cur e (0, 0)) ∧ off + n ≤ cur.size

theorem OwnS.of {w : World} {B : Nat} {e : TypeId} {ao : Option Addr} {n cap : Nat} {xs : List Value} (h : w.ownsRow B e 1 (.slice ao n cap) n xs) : OwnS w B e ao n := by
  intro g off he
  subst he
  rcases h.2 with ⟨h0, _⟩ | ⟨g', cap', cur, h0, hg, hh, h3, h4, h5, _⟩
  · cases h0
  · cases h0
    exact ⟨hg, (Array.getElem?_eq_some_iff.1 hh).1, cur, hh, by omega⟩

theorem OwnS.fr {w w' : World} {B : Nat} {e : TypeId} {ao : Option Addr} {n : Nat} (h : OwnS w B e ao n) {S : Nat → Prop} (hF : Fr S w w') (hS : ∀ g, B ≤ g → g < w.heap.size → ¬ S g) : OwnS w' B e ao n := by
  intro g off he
  obtain ⟨h1, h2, cur, h3, h4⟩ := h g off he
  exact ⟨h1, Nat.lt_of_lt_of_le h2 hF.size, cur, hF.heap h3 (hS g h1 h2), h4⟩

theorem OwnS.set {w : World} {B : Nat} {e : TypeId} {g off n j : Nat} (h : OwnS w B e (some ⟨g, off, none⟩) n) (v : Value) : OwnS (w.setCell ⟨g, j, none⟩ v) B e (some ⟨g, off, none⟩) n := by
  intro g' off' he
  cases he
  obtain ⟨h1, h2, cur, h3, h4⟩ := h g off rfl
  exact ⟨h1, by simp [World.setCell]; exact h2, _, row_setCell h3 v, by simp; exact h4⟩

theorem Fr.setCell {S : Nat → Prop} {a b : World} (h : Fr S a b) {g j : Nat} (hg : S g) (v : Value) : Fr S a (b.setCell ⟨g, j, none⟩ v) := by
  have hB := (Below.refl 0 b).setCell (p := ⟨g, j, none⟩) (Nat.zero_le _) v
  exact ⟨hB.os.trans h.os, hB.tape.trans h.tape, hB.output.trans h.output, Nat.le_trans h.size hB.size, fun k hk hs => by
    rw [Below.heap_setCell _ _ _ _ (by rintro rfl; exact hs hg), h.block k hk hs]⟩

/-- The look was taken: the timers are the next ones. -/
theorem InvT.look {w : World} {B tb : Nat} {v8 v9 : Value} {C : List LK} {now : Int} {tm n' tm7 n7 : Nat} {wp w6 w7 w8 w9 : World} {x : LK} (h : InvT w B tb v8 C now tm n' wp) (h6 : Below wp.heap.size wp w6) (h7 : Fr (fun q => q = tb) w6 w7)
    (hT7 : TimersAt w7 tb tm7 n7 ((tmOf C.reverse).next x.at0 x.names)) (hl7 : w6.heap.size ≤ tm7) {S : Nat → Prop} (h8 : Fr S w7 w8) (hS : ∀ q, S q → wp.heap.size ≤ q ∧ q < w6.heap.size)
    (hrow : w9.ownsRow B 34 2 v9 (C.length + 1) (C.flatMap LK.cells ++ [x].flatMap LK.cells)) (hgr : (w8.alloc (.cells x.cells.toArray 34)).grownBy w9 v8.ownBlock)
    (hx : 0 ≤ x.at0 ∧ now ≤ x.at0 ∨ C = []) (hx0 : 0 ≤ x.at0) (hxl : x.ln ≤ 10) (hxS : SlR (Flat cS) 1 w x.ao x.ln x.cap x.names) : InvT w B tb v9 (C ++ [x]) x.at0 tm7 n7 w9 := by
  have s6 := h6.size
  have s7 := h7.size
  have s8 := h8.size
  have s9 := hgr.size
  simp only [World.size_alloc] at s9
  have hwp := h.below.size
  have hB := h.hB
  have htbB := h.tbB
  have hwtb := h.wtb
  have hb6 := h.below.trans (h6.mono h.below.size)
  have hb7 := hb6.trans (h7.below (B := w.heap.size) (by omega) (fun q hq => by omega))
  have hb8 := hb7.trans (h8.below (B := w.heap.size) (by omega) (fun q hq => by have := hS q hq; omega))
  have hrow6 : w6.ownsRow B 34 2 v8 C.length (C.flatMap LK.cells) := owns_fr (Fr.of_below h6 (fun _ => False)) h.row (fun _ _ hf => hf)
  have hrow7 := owns_fr h7 hrow6 (fun q hq => by have := (hrow6.lt q hq).1; omega)
  have hrow8 := owns_fr h8 hrow7 (fun q hq hs => by have := (h.row.lt q hq).2; have := hS q hs; omega)
  have hT8 := hT7.fr h8 (fun hs => by have := hS tb hs; omega) (fun hs => by have := hS tm7 hs; omega)
  have hT8' : TimersAt (w8.alloc (.cells x.cells.toArray 34)) tb tm7 n7 _ := hT8.below ((Below.refl _ _).alloc (Nat.le_refl _) _)
  have hrow8' := hrow8.alloc (.cells x.cells.toArray 34)
  have hblk := Fr.grown (S := fun q => v8.ownBlock = some q) hgr (fun q hq => hq)
  have hT9 := hT8'.fr hblk (fun hs => by have := (hrow8'.lt tb hs).1; omega) (fun hs => owns_not_map hrow8' hT8'.map hs)
  have hb9 : Below w.heap.size w w9 := (hb8.alloc (by omega) _).trans (hblk.below (by simp; omega) (fun q hq => by have := (hrow8'.lt q hq).1; omega))
  have hle : ∀ l ∈ C, l.at0 ≤ x.at0 := fun l hl => by
    rcases hx with hx | hx
    · have := (h.good l hl).2.1; omega
    · subst hx; cases hl
  refine ⟨?_, ?_, ?_, ?_, hb9, by omega, h.tbB, h.wtb⟩
  · rw [List.reverse_append, List.reverse_singleton, List.singleton_append, ← tmOf_next]
    exact hT9
  · rw [List.length_append, List.flatMap_append]
    exact hrow
  · intro l hl
    rcases List.mem_append.1 hl with h1 | h1
    · have := h.good l h1
      exact ⟨this.1, hle l h1, this.2.2⟩
    · rw [List.mem_singleton.1 h1]
      exact ⟨hx0, Int.le_refl _, hxl, hxS⟩
  · intro p hp
    rw [List.length_append, List.length_singleton] at hp
    obtain rfl : p = C.length := by omega
    simp

theorem InvT.row8 {w : World} {B tb : Nat} {v8 : Value} {C : List LK} {now : Int} {tm n' : Nat} {wp w6 w7 w8 : World} (h : InvT w B tb v8 C now tm n' wp) (h6 : Below wp.heap.size wp w6) (h7 : Fr (fun q => q = tb) w6 w7)
    {S : Nat → Prop} (h8 : Fr S w7 w8) (hS : ∀ q, S q → wp.heap.size ≤ q ∧ q < w6.heap.size) : w8.ownsRow B 34 2 v8 C.length (C.flatMap LK.cells) ∧ B ≤ w8.heap.size := by
  have htbB := h.tbB
  have hrow6 : w6.ownsRow B 34 2 v8 C.length (C.flatMap LK.cells) := owns_fr (Fr.of_below h6 (fun _ => False)) h.row (fun _ _ hf => hf)
  have hrow7 := owns_fr h7 hrow6 (fun q hq => by have := (hrow6.lt q hq).1; omega)
  have s6 := h6.size
  have s7 := h7.size
  have s8 := h8.size
  have := h.hB
  exact ⟨owns_fr h8 hrow7 (fun q hq hs => by have := (h.row.lt q hq).2; have := hS q hs; omega), by omega⟩

theorem cell_row {w : World} {g i : Nat} {cur : Array Value} {t : TypeId} {fr : Nat × Nat} (h : w.heap[g]? = some (.cells cur t fr)) (hi : i < cur.size) : w.cell? ⟨g, i, none⟩ = some cur[i] := by
  rw [cell_of_row w g i cur t fr h]
  exact Array.getElem?_eq_getElem hi

theorem C_nil_or (C : List LK) : C = [] ∨ ∃ p, p + 1 = C.length := by
  cases C with
  | nil => exact .inl rfl
  | cons a t => exact .inr ⟨t.length, rfl⟩

def strNT : SStr := ⟨⟨#[110, 111, 116, 32, 116, 104, 101, 114, 101]⟩, by decide⟩
def strQ : SStr := ⟨⟨#[63]⟩, by decide⟩
theorem sl_oneQ {w : World} : SlR (Flat cS) 1 (w.alloc (.cells #[.string ⟨#[63]⟩] 9)) (some ⟨w.heap.size, 0, none⟩) 1 1 [strQ] := by
  refine ⟨rfl, Nat.le_refl _, by decide, (fun h => by cases h), fun a ha i hi => ?_⟩
  obtain rfl := Option.some.inj ha
  have h0 : i = 0 := by simpa using hi
  subst h0
  refine ⟨_, rfl, fun j u hu => ?_, rfl⟩
  rw [Nat.zero_mul, Nat.zero_add, cell_new]
  simpa [cS, strQ] using hu
theorem sl_oneL {w : World} {x : LK} : SlR (Flat LK.cells) 2 (w.alloc (.cells x.cells.toArray 34)) (some ⟨w.heap.size, 0, none⟩) 1 1 [x] := by
  refine ⟨rfl, Nat.le_refl _, by decide, (fun h => by cases h), fun a ha i hi => ?_⟩
  obtain rfl := Option.some.inj ha
  have h0 : i = 0 := by simpa using hi
  subst h0
  refine ⟨_, rfl, fun j u hu => ?_, rfl⟩
  rw [Nat.zero_mul, Nat.zero_add, cell_new]
  simpa using hu
theorem look_one (y : LK) (u : Value) (h : u ∈ LK.cells y) : u.oneCell' = true := by
  simp only [LK.cells, List.mem_cons, List.not_mem_nil, or_false] at h
  rcases h with h | h <;> (rw [h]; rfl)

theorem lookOf_tm (C : List LK) (now a : Int) (h : ∀ p, (hp : p + 1 = C.length) → C[p].at0 = now) :
    lookOf (tmOf C.reverse) a = if a < 0 ∨ 4611686018427387904 < a then 1 else if C ≠ [] ∧ a < now then 13 else 0 := by
  unfold lookOf
  congr 1
  cases hC : C.reverse with
  | nil =>
    have : C = [] := List.reverse_eq_nil_iff.1 hC
    subst this
    rw [if_neg (fun hh : ([] : List LK) ≠ [] ∧ a < now => hh.1 rfl)]
    rfl
  | cons l r =>
    have e : C = r.reverse ++ [l] := by rw [← List.reverse_reverse C, hC, List.reverse_cons]
    have h2 := h r.reverse.length (by rw [e]; simp)
    have h3 : l.at0 = now := by
      rw [← h2]
      simp only [e]
      simp
    have hne : C ≠ [] := by rw [e]; simp
    show (if true = true ∧ a < l.at0 then _ else _) = _
    rw [h3]
    by_cases q : a < now
    · rw [if_pos ⟨rfl, q⟩, if_pos ⟨hne, q⟩]
    · rw [if_neg (fun hh => q hh.2), if_neg (fun hh => q hh.2)]
end Go.Proofs.Ytlokeeejemndfaa
