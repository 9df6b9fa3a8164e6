/- Frames: what a call may have changed; rows of the call's own that are written in place. No condition. -/
import Derived.Test.YtoamjihchmokcaaBase
import Derived.Deep.RegionLaw
import Derived.ArgAppend
namespace Go.Proofs.Ytoamjihchmokcaa
open Go.ChangeShapes Go.WideShapes Go.ChangeAt Go.RowKit Go.Deep

structure Fr (S : Nat → Prop) (w w' : World) : Prop where
  os : w'.os = w.os
  tape : w'.tape = w.tape
  output : w'.output = w.output
  size : w.heap.size ≤ w'.heap.size
  block : ∀ k, k < w.heap.size → ¬ S k → w'.heap[k]? = w.heap[k]?

theorem Fr.refl (S : Nat → Prop) (w : World) : Fr S w w := ⟨rfl, rfl, rfl, Nat.le_refl _, fun _ _ _ => rfl⟩

theorem Fr.of_below {w w' : World} (h : Below w.heap.size w w') (S : Nat → Prop) : Fr S w w' := ⟨h.os, h.tape, h.output, h.size, fun k hk _ => h.block k hk⟩

theorem Fr.below {S : Nat → Prop} {w w' : World} (h : Fr S w w') {B : Nat} (hB : B ≤ w.heap.size) (hS : ∀ k, S k → B ≤ k) : Below B w w' :=
  ⟨h.os, h.tape, h.output, h.size, fun k hk => h.block k (by omega) (fun hs => by have := hS k hs; omega)⟩

theorem Fr.trans {S T : Nat → Prop} {a b c : World} (h : Fr S a b) (k : Fr T b c) (hT : ∀ i, T i → S i ∨ a.heap.size ≤ i) : Fr S a c :=
  ⟨k.os.trans h.os, k.tape.trans h.tape, k.output.trans h.output, Nat.le_trans h.size k.size, fun i hi hs =>
    (k.block i (Nat.lt_of_lt_of_le hi h.size) (fun ht => (hT i ht).elim hs (fun h2 => by omega))).trans (h.block i hi hs)⟩

theorem Fr.then {S : Nat → Prop} {a b c : World} (h : Fr S a b) (k : Below b.heap.size b c) : Fr S a c := h.trans (Fr.of_below k (fun _ => False)) (fun _ hf => hf.elim)

theorem Fr.weaken {S T : Nat → Prop} {a b : World} (h : Fr S a b) (hST : ∀ i, S i → T i) : Fr T a b := ⟨h.os, h.tape, h.output, h.size, fun i hi ht => h.block i hi (fun hs => ht (hST i hs))⟩

theorem Fr.alloc {S : Nat → Prop} {a b : World} (h : Fr S a b) (o : Obj) : Fr S a (b.alloc o) := h.then ((Below.refl _ _).alloc (Nat.le_refl _) o)
theorem Fr.drewN {S : Nat → Prop} {a b : World} (h : Fr S a b) (n : Nat) : Fr S a (b.drewN n) := ⟨h.os, h.tape, h.output, h.size, h.block⟩
theorem Fr.drew {S : Nat → Prop} {a b : World} (h : Fr S a b) : Fr S a b.drew := ⟨h.os, h.tape, h.output, h.size, h.block⟩

theorem Fr.heap {S : Nat → Prop} {a b : World} (h : Fr S a b) {k : Nat} {o : Obj} (ho : a.heap[k]? = some o) (hk : ¬ S k) : b.heap[k]? = some o := by
  rw [h.block k (Array.getElem?_eq_some_iff.1 ho).1 hk, ho]

theorem Fr.cell {S : Nat → Prop} {a b : World} (h : Fr S a b) {p : Addr} {v : Value} (hv : a.cell? p = some v) (hk : ¬ S p.block) : b.cell? p = some v := by
  rw [World.cell?_of_block (w := a) (h.block p.block (World.block_lt_of_cell? a p hv) hk), hv]

theorem owns_fr {S : Nat → Prop} {a b : World} (h : Fr S a b) {base : Nat} {e : TypeId} {size : Nat} {v : Value} {n : Nat} {xs : List Value} (ho : a.ownsRow base e size v n xs) (hk : ∀ k, v.ownBlock = some k → ¬ S k) : b.ownsRow base e size v n xs := by
  refine ⟨ho.1, ?_⟩
  rcases ho.2 with hn | ⟨g, cap, cur, rfl, hb, hh, r⟩
  · exact .inl hn
  · exact .inr ⟨g, cap, cur, rfl, hb, h.heap hh (hk g rfl), r⟩

theorem Fr.setRow (S : Nat → Prop) (w : World) (g : Nat) (cs : Array Value) (hg : S g) : Fr S w (w.setRow g cs) := by
  refine ⟨rfl, rfl, rfl, by simp [World.setRow], fun k hk hs => ?_⟩
  have hne : ¬ g = k := fun e => hs (e ▸ hg)
  simp only [World.setRow, Array.getElem?_modify, if_neg hne]

theorem setRow_heap {w : World} {g : Nat} {cur cs : Array Value} {e : TypeId} {fr : Nat × Nat} (h : w.heap[g]? = some (.cells cur e fr)) : (w.setRow g cs).heap[g]? = some (.cells cs e fr) := by
  simp [World.setRow, Array.getElem?_modify, h]

theorem Fr.grown {S : Nat → Prop} {a b : World} {row : Option Nat} (h : a.grownBy b row) (hr : ∀ k, row = some k → S k) : Fr S a b :=
  ⟨h.os, h.tape, h.output, h.size, fun k hk hs => h.block k hk (fun e => hs (hr k e.symm))⟩

def After (w : World) (o : Obj) (w' : World) : Prop := Below (w.heap.size + 1) (w.alloc o) w'

theorem After.keeps {w : World} {o : Obj} {w' : World} (h : After w o w') : Keeps (w.alloc o) w' := Keeps.below (by rw [World.size_alloc]; exact h)
theorem After.heap {w : World} {o : Obj} {w' : World} (h : After w o w') {k : Nat} {x : Obj} (hk : w.heap[k]? = some x) : w'.heap[k]? = some x := by
  have hl : k < w.heap.size := (Array.getElem?_eq_some_iff.1 hk).1
  rw [Below.block h k (by omega), Below.heap_alloc w o k hl, hk]
theorem After.below {w : World} {o : Obj} {w' : World} (h : After w o w') : Below w.heap.size w w' := ((Below.refl _ w).alloc (Nat.le_refl _) o).trans (h.mono (by omega))

theorem at_store (d : Nat) {P : Program} {ops : Array Oper} {rest : List Oper} {T : TypeId} {x : Operand} {ty : TypeId} {pos : String} {af : Array Edge} {g : Option (Nat × Bool)} {a : Act} {Q : Exit → Act → World → Prop} {w : World}
    (h : wpList P ops Q (⟨none, .store T (.tmp d) x, ty, pos, af, g⟩ :: rest) a w) : wpList P ops Q (⟨none, .store T (.tmp d) x, ty, pos, af, g⟩ :: rest) a w := h


theorem run_store_row {P : Program} {T : TypeId} {size : Nat} (A : AggOK P T size) (w : World) (g o : Nat) (cur cs : Array Value) (hg : w.heap[g]? = some (.cells cur T (0, 0))) (hs : cs.size = size) (ho : o + size ≤ cur.size) (h1 : cs.toList.all (fun u => u.oneCell') = true) :
    (storeVar T ⟨g, o, none⟩ (.agg cs)).run P w = .ok () (w.setRow g (cur.toList.take o ++ cs.toList ++ cur.toList.drop (o + size)).toArray) := by
  obtain ⟨i, _, hi, _, hsz, _⟩ := A.info
  have hst := run_storeCells_at P g o T cs.toList 0 cur w hg (by simp; omega) (List.all_eq_true.1 h1)
  have hl : cs.toList.length = size := by simpa using hs
  rw [hl] at hst
  simp only [Nat.add_zero] at hst
  simp [storeVar, Sem.run_bind, sizeOf, typeInfo, hi, hsz, Value.cells, hs, hst]

theorem wpList_store_row {P : Program} {ops : Array Oper} {rest : List Oper} {o : Oper} {a : Act} {w : World} {Q : Exit → Act → World → Prop} {T : TypeId} {size : Nat} (A : AggOK P T size) (hgd : o.guard = none) (p x : Operand) (ho : o.op = .store T p x) (hd : o.dst = none)
    (g f : Nat) (cur cs : Array Value) (hp : a.eval p = .pointer (some ⟨g, f, none⟩)) (hx : a.eval x = .agg cs) (hg : w.heap[g]? = some (.cells cur T (0, 0))) (hs : cs.size = size) (hf : f + size ≤ cur.size) (h1 : cs.toList.all (fun u => u.oneCell') = true)
    (h : wpList P ops Q rest a (w.setRow g (cur.toList.take f ++ cs.toList ++ cur.toList.drop (f + size)).toArray)) : wpList P ops Q (o :: rest) a w := by
  refine wpList_plain hgd fun _ hK => ?_
  unfold Oper.wp execOp
  simp only [ho, hp, hx, Instr.storeAt, Instr.sureAddr, Sem.run_bind, Sem.run_pure, Result.andThen_ok, run_store_row A w g f cur cs hg hs hf h1]
  rw [Oper.upon_skip, hd]
  exact hK _ _ h


theorem owns_row {w : World} {B e size g n cap : Nat} {xs : List Value} (h : w.ownsRow B e size (.slice (some ⟨g, 0, none⟩) n cap) n xs) :
    B ≤ g ∧ n ≤ cap ∧ cap ≤ maxLen ∧ ∃ rest, w.heap[g]? = some (.cells (xs ++ rest).toArray e (0, 0)) ∧ (xs ++ rest).length = cap * size := by
  rcases h.2 with ⟨h', _⟩ | ⟨g', cap', cur, h', hb, hg, hnc, hcm, hcs, htake⟩
  · cases h'
  · simp only [Value.slice.injEq, Option.some.injEq, Addr.mk.injEq, and_true, true_and] at h'
    obtain ⟨rfl, rfl⟩ := h'
    refine ⟨hb, hnc, hcm, cur.toList.drop (n * size), ?_, ?_⟩
    · rw [← htake, List.take_append_drop]; simpa using hg
    · rw [← htake, List.take_append_drop]; simpa using hcs

theorem owns_of_row {w : World} {B e size g n cap : Nat} {xs rest : List Value} (hB : B ≤ g) (hnc : n ≤ cap) (hcm : cap ≤ maxLen) (hg : w.heap[g]? = some (.cells (xs ++ rest).toArray e (0, 0))) (hl : xs.length = n * size) (hc : (xs ++ rest).length = cap * size) :
    w.ownsRow B e size (.slice (some ⟨g, 0, none⟩) n cap) n xs :=
  ⟨hl, .inr ⟨g, cap, _, rfl, hB, hg, hnc, hcm, by simpa using hc, by rw [List.toList_toArray, ← hl, List.take_left]⟩⟩

theorem run_append_new {P : Program} {t e : TypeId} {size bytes : Nat} (E : ElemOK P t e size bytes) (ty : TypeId) (w : World)
    (B : Nat) (v : Value) (n : Nat) (xs : List Value) (hown : w.ownsRow B e size v n xs) (hB : B ≤ w.heap.size) (g : Nat) (cur : Array Value)
    (hcur : w.heap[g]? = some (.cells cur e (0, 0))) (hl : cur.size = size) (h1 : cur.toList.all (fun u => u.oneCell') = true) (h63 : n + 1 ≤ maxLen) (hbytes : (n + 1) * bytes ≤ 140737488355328) :
    ∃ g' cap' w', (Builtin.append_ #[t, t] ty #[v, .slice (some ⟨g, 0, none⟩) 1 1]).run P w = .ok (.slice (some ⟨g', 0, none⟩) (n + 1) cap') w' ∧
      w'.ownsRow B e size (.slice (some ⟨g', 0, none⟩) (n + 1) cap') (n + 1) (xs ++ cur.toList) ∧ w.grownBy w' v.ownBlock ∧ (v.ownBlock = some g' ∨ w.heap.size ≤ g') := by
  obtain ⟨i, z, hi, hz, h2, h3, h4⟩ := E.info
  have hcells : ∀ j u, cur.toList[j]? = some u → w.cell? ((⟨g, 0, none⟩ : Addr).add j) = some u := by
    intro j u hu
    rw [Addr.add_lit, Nat.zero_add, cell_of_row _ g j cur e (0, 0) hcur]
    simpa using hu
  have hnl : cur.toList.length = 1 * size := by simp [hl]
  have up : ∀ {v' : Value} {w' : World} {n' : Nat} {ys : List Value}, w'.ownsRow w.heap.size e size v' n' ys → w'.ownsRow B e size v' n' ys := by
    rintro v' w' n' ys ⟨q1, q2⟩
    refine ⟨q1, ?_⟩
    rcases q2 with q2 | ⟨g0, cap0, cur0, q3, q4, q5⟩
    · exact .inl q2
    · exact .inr ⟨g0, cap0, cur0, q3, by omega, q5⟩
  rcases hown.2 with ⟨rfl, rfl⟩ | ⟨g0, cap, cur0, rfl, hbg, hg0, hnc, hcm, hcs, htake⟩
  · have hx : xs = [] := List.eq_nil_of_length_eq_zero (by simpa using hown.1)
    subst hx
    obtain ⟨v', w', hr, r1, r2, _⟩ := run_append_own (P := P) w w.heap.size t ty e i z size bytes E.under hi hz h2 h3 h4 E.pos (.slice none 0 0) 0 [] (World.ownsRow_nil w _ e size) ⟨g, 0, none⟩ 1 1 cur.toList hnl hcells (List.all_eq_true.1 h1) h63 hbytes (Nat.le_refl _)
    obtain ⟨g', cap', rfl, hg', _⟩ := owns_shape r1 (by omega)
    exact ⟨g', cap', w', hr, up r1, r2, .inr hg'⟩
  · by_cases hroom : n + 1 ≤ cap
    · have hfit : n * i.size + cur.toList.length ≤ cur0.size := by rw [hnl, hcs, h2, ← Nat.add_mul]; exact Nat.mul_le_mul_right _ hroom
      have hr := run_append_room (P := P) w t ty e i E.under hi g0 n cap cur0 hg0 ⟨g, 0, none⟩ 1 1 cur.toList (by rw [hnl, h2]) hcells (List.all_eq_true.1 h1) hroom hfit
      rw [h2, htake] at hr
      refine ⟨g0, cap, _, hr, ?_, ⟨rfl, rfl, rfl, by simp [World.setRow], fun k hk hne => ?_⟩, .inl rfl⟩
      · have hrow := setRow_heap (cs := (xs ++ cur.toList ++ cur0.toList.drop (n * size + cur.toList.length)).toArray) hg0
        refine owns_of_row hbg hroom hcm hrow ?_ ?_
        · rw [List.length_append, hown.1, hnl, Nat.add_mul]
        · rw [h2, hnl, ← Nat.add_mul] at hfit
          simp only [List.length_append, List.length_drop, Array.length_toList, hown.1, hcs]
          rw [hcs] at hfit
          have : cur.size = 1 * size := by rw [hl, Nat.one_mul]
          rw [this]
          rw [Nat.add_mul] at hfit
          omega
      · have hkg : ¬ g0 = k := fun e => hne (by rw [e]; rfl)
        simp only [World.setRow, Array.getElem?_modify, if_neg hkg]
    · have holds : ∀ j u, xs[j]? = some u → w.cell? ((⟨g0, 0, none⟩ : Addr).add j) = some u := hown.cells (g := g0) rfl
      obtain ⟨v', w', hr, r1, r2⟩ := run_append_arg_grows (P := P) w t ty e i z size bytes E.under hi hz h2 h3 h4 E.pos ⟨g0, 0, none⟩ n cap xs hown.1 holds ⟨g, 0, none⟩ 1 1 cur.toList hnl hcells (by omega) h63 hbytes
      obtain ⟨g', cap', rfl, hg', _⟩ := owns_shape r1 (by omega)
      exact ⟨g', cap', w', hr, up r1, ⟨r2.os, r2.tape, r2.output, r2.size, fun k hk _ => r2.block k hk (by simp)⟩, .inr hg'⟩

theorem wpList_append_new {P : Program} {ops : Array Oper} {rest : List Oper} {o : Oper} {a : Act} {w : World} {Q : Exit → Act → World → Prop} {t e : TypeId} {size bytes : Nat} (E : ElemOK P t e size bytes)
    (hg : o.guard = none) (s x : Operand) (hop : o.op = Op.call { callee := Callee.builtin Builtin.append, args := #[s, x], argTypes := #[t, t] })
    (B : Nat) (v : Value) (n : Nat) (xs : List Value) (hs : a.eval s = v) (hown : w.ownsRow B e size v n xs) (hB : B ≤ w.heap.size) (g : Nat) (cur : Array Value) (hx : a.eval x = .slice (some ⟨g, 0, none⟩) 1 1)
    (hcur : w.heap[g]? = some (.cells cur e (0, 0))) (hl : cur.size = size) (h1 : cur.toList.all (fun u => u.oneCell') = true) (h63 : n + 1 ≤ maxLen) (hbytes : (n + 1) * bytes ≤ 140737488355328)
    (hK : ∀ g' cap' w', w'.ownsRow B e size (.slice (some ⟨g', 0, none⟩) (n + 1) cap') (n + 1) (xs ++ cur.toList) → w.grownBy w' v.ownBlock → (v.ownBlock = some g' ∨ w.heap.size ≤ g') → wpList P ops Q rest (a.put o.dst (.slice (some ⟨g', 0, none⟩) (n + 1) cap')) w') :
    wpList P ops Q (o :: rest) a w := by
  refine wpList_plain hg fun _ hK' => ?_
  obtain ⟨g', cap', w', hr, r1, r2, r3⟩ := run_append_new E o.type w B v n xs hown hB g cur hcur hl h1 h63 hbytes
  unfold Oper.wp execOp
  simp only [hop, resolve, invoke, builtin, Sem.run_bind, Sem.run_pure, Result.andThen_ok, List.map_toArray, List.map_cons, List.map_nil, hs, hx, hr]
  exact hK' _ _ (hK g' cap' w' r1 r2 r3)

end Go.Proofs.Ytoamjihchmokcaa
