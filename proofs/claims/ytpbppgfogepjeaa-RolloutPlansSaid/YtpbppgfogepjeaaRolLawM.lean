/- Putting in amid a row: append(l[:j:j], append([o], l[j:]...)...). No condition; no program. || Chapter 35's plan by definition: what its first loop counts. No condition. -/
import Derived.Test.YtpbppgfogepjeaaRolPlanM
import Derived.ArgAppend
namespace Go.Proofs.Ytpbppgfogepjeaa
open Go.ChangeShapes Go.WideShapes Go.ChangeAt Go.RowKit Go.Deep

def dropA (ao : Option Addr) (size cap k : Nat) : Option Addr := if cap = k then ao else ao.map (·.add (k * size))
theorem owns_lit {w : World} {B e sz n cap : Nat} {ao : Option Addr} {xs : List Value} (h : w.ownsRow B e sz (.slice ao n cap) n xs) : ∀ a, ao = some a → ∃ g, a = ⟨g, 0, none⟩ := by
  intro a ha
  subst ha
  rcases h.2 with ⟨h, _⟩ | ⟨g, _, _, h, _⟩
  · cases h
  · cases h
    exact ⟨g, rfl⟩
section
variable {α : Type} {f : α → List Value} {sz : Nat} {w : World} {ao : Option Addr} {n cap : Nat} {xs : List α}
theorem SlR.dropO (h : SlR (Flat f) sz w ao n cap xs) (hl : ∀ a, ao = some a → ∃ g, a = ⟨g, 0, none⟩) {p : Nat} (hp : p ≤ n) : SlR (Flat f) sz w (dropA ao sz cap p) (n - p) (cap - p) (xs.drop p) := by
  obtain ⟨h1, h2, h3, h4, h5⟩ := h
  refine ⟨by rw [List.length_drop]; omega, by omega, by omega, fun e => ?_, fun a ha i hi => ?_⟩
  · cases ao with
    | none => have := h4 rfl; omega
    | some a => unfold dropA at e; split at e <;> cases e
  · rw [List.length_drop] at hi
    cases ao with
    | none => unfold dropA at ha; split at ha <;> cases ha
    | some b =>
      obtain ⟨g, rfl⟩ := hl b rfl
      unfold dropA at ha
      rw [if_neg (by omega)] at ha
      obtain rfl := Option.some.inj ha
      obtain ⟨c, hc1, hc2, hc3⟩ := h5 _ rfl (p + i) (by omega)
      refine ⟨c, hc1, fun j u hu => ?_, ?_⟩
      · have := hc2 j u hu
        rw [Addr.add_lit] at this
        show w.cell? (((⟨g, 0, none⟩ : Addr).add (p * sz)).add (i * sz + j)) = some u
        rw [Addr.add_lit, Addr.add_lit, show 0 + p * sz + (i * sz + j) = 0 + ((p + i) * sz + j) by rw [Nat.add_mul]; omega]
        exact this
      · rw [List.getElem_drop]
        exact hc3
theorem SlR.takeO (h : SlR (Flat f) sz w ao n cap xs) {p : Nat} (hp : p ≤ n) : SlR (Flat f) sz w ao p p (xs.take p) := by
  obtain ⟨h1, h2, h3, h4, h5⟩ := h
  refine ⟨by rw [List.length_take]; omega, Nat.le_refl _, by omega, fun e => by have := h4 e; omega, fun a ha i hi => ?_⟩
  rw [List.length_take] at hi
  obtain ⟨c, hc1, hc2, hc3⟩ := h5 a ha i (by omega)
  refine ⟨c, hc1, hc2, ?_⟩
  rw [List.getElem_take]
  exact hc3
end

section
variable {P : Program} {t e : TypeId} {size bytes : Nat}
theorem run_cut (E : ElemOK P t e size bytes) (w : World) (ao : Option Addr) (n cap k : Nat) (hk : k ≤ n) :
    (Instr.slice t (.slice ao n cap) (some (.int .i64 (k : Int))) none none).run P w = .ok (.slice (dropA ao size cap k) (n - k) (cap - k)) w := by
  obtain ⟨i, z, hi, hz, h2, h3, h4⟩ := E.info
  have hk' : (0 : Int) ≤ (k : Int) ∧ (k : Int) ≤ (n : Int) := ⟨by omega, by omega⟩
  simp [Instr.slice, Instr.sliceBounds, Instr.sliceBound, run_underlying E.under, sizeOf, typeInfo, hi, asIntOf, hk', h2, dropA, hk]
theorem run_full (E : ElemOK P t e size bytes) (w : World) (ao : Option Addr) (n cap k : Nat) (hk : k ≤ n) (hn : n ≤ cap) (hl : ∀ a, ao = some a → ∃ g, a = ⟨g, 0, none⟩) :
    (Instr.slice t (.slice ao n cap) none (some (.int .i64 (k : Int))) (some (.int .i64 (k : Int)))).run P w = .ok (.slice ao k k) w := by
  obtain ⟨i, z, hi, hz, h2, h3, h4⟩ := E.info
  have hkc : k ≤ cap := by omega
  have he : ao.map (fun x => x.add 0) = ao := by
    cases ao with
    | none => rfl
    | some a =>
      obtain ⟨g, rfl⟩ := hl a rfl
      rfl
  simp [Instr.slice, Instr.sliceBounds, Instr.sliceBound, run_underlying E.under, sizeOf, typeInfo, hi, asIntOf, hkc, he]

theorem run_append_grows (E : ElemOK P t e size bytes) (ty : TypeId) (w : World) {α : Type} {f : α → List Value} (hf : ∀ x, (f x).length = size) (ao : Option Addr) (p : Nat) (xs : List α) (hS : SlR (Flat f) size w ao p p xs) (ad : Addr) (m c : Nat) (ys : List α)
    (hT : SlR (Flat f) size w (some ad) m c ys) (h1 : ∀ y u, u ∈ f y → u.oneCell' = true) (hm : 0 < m) (h63 : p + m ≤ maxLen) (hbytes : (p + m) * bytes ≤ 140737488355328) :
    ∃ v' w', (Builtin.append_ #[t, t] ty #[.slice ao p p, .slice (some ad) m c]).run P w = .ok v' w' ∧ w'.ownsRow w.heap.size e size v' (p + m) ((xs ++ ys).flatMap f) ∧ w.grownBy w' none := by
  obtain ⟨i, z, hi, hz, h2, h3, h4⟩ := E.info
  have hn : (ys.flatMap f).length = m * size := by rw [flatMap_len hf, hT.hlen]
  have ho : ∀ u ∈ ys.flatMap f, u.oneCell' = true := fun u hu => by
    obtain ⟨y, _, hu⟩ := List.mem_flatMap.1 hu
    exact h1 y u hu
  rw [List.flatMap_append]
  cases ao with
  | none =>
    have hp := hS.hnil rfl
    subst hp
    have hx : xs = [] := List.eq_nil_of_length_eq_zero hS.hlen
    subst hx
    obtain ⟨v', w', r1, r2, r3, _⟩ := run_append_own (P := P) w w.heap.size t ty e i z size bytes E.under hi hz h2 h3 h4 E.pos (.slice none 0 0) 0 [] (World.ownsRow_nil w _ e size) ad m c (ys.flatMap f) hn (hT.allA hf E.pos) ho h63 hbytes (Nat.le_refl _)
    exact ⟨v', w', r1, by simpa using r2, r3⟩
  | some b =>
    exact run_append_arg_grows (P := P) w t ty e i z size bytes E.under hi hz h2 h3 h4 E.pos b p p (xs.flatMap f) (by rw [flatMap_len hf, hS.hlen]) (hS.allA hf E.pos) ad m c (ys.flatMap f) hn (hT.allA hf E.pos) (by omega) h63 hbytes
theorem wpLoud_append_grows {C : World → Prop} {b : Nat} {R : Act → World → Prop} (E : ElemOK P t e size bytes) {j : Nat} {r : List Nat} {A : Act} {w : World} {l : List Oper} {o : Oper} (ho : nthOp j l = some o) (hg : o.guard = none)
    (s x : Operand) (hop : o.op = Op.call { callee := Callee.builtin Builtin.append, args := #[s, x], argTypes := #[t, t] }) {α : Type} {f : α → List Value} (hf : ∀ x, (f x).length = size)
    (ao : Option Addr) (p : Nat) (xs : List α) (hs : A.eval s = .slice ao p p) (hS : SlR (Flat f) size w ao p p xs) (ad : Addr) (m c : Nat) (ys : List α) (hx : A.eval x = .slice (some ad) m c)
    (hT : SlR (Flat f) size w (some ad) m c ys) (h1 : ∀ y u, u ∈ f y → u.oneCell' = true) (hm : 0 < m) (h63 : p + m ≤ maxLen) (hbytes : (p + m) * bytes ≤ 140737488355328)
    (hK : ∀ v' w', w'.ownsRow w.heap.size e size v' (p + m) ((xs ++ ys).flatMap f) → w.grownBy w' none → (j < b → C w') ∧ wpLoud P l.toArray C b R r (A.put o.dst v') w') :
    wpLoud P l.toArray C b R (j :: r) A w := by
  obtain ⟨v', w', hr, r1, r2⟩ := run_append_grows E o.type w hf ao p xs hS ad m c ys hT h1 hm h63 hbytes
  refine wpLoud_run (v := v') (w' := w') ho hg ?_ (hK v' w' r1 r2)
  unfold execOp
  simp only [hop, resolve, invoke, builtin, Sem.run_bind, Sem.run_pure, Result.andThen_ok, List.map_toArray, List.map_cons, List.map_nil, hs, hx, hr]
theorem exec_cut (E : ElemOK P t e size bytes) {A : Act} {o : Oper} (x lo : Operand) (hop : o.op = .slice t x (some lo) none none) (ao : Option Addr) (n cap k : Nat) (hx : A.eval x = .slice ao n cap) (hl : A.eval lo = .int .i64 (k : Int)) (hk : k ≤ n) (w : World) :
    (execOp A.eval o).run P w = .ok (.value (.slice (dropA ao size cap k) (n - k) (cap - k))) w := by
  have h := run_cut E w ao n cap k hk
  unfold execOp
  simp only [hop, hx, hl, Option.map_some, Option.map_none, Sem.run_bind, Instr.sliceAt, run_underlying E.under, Result.andThen_ok, h, Sem.run_pure]
theorem exec_full (E : ElemOK P t e size bytes) {A : Act} {o : Oper} (x hi mx : Operand) (hop : o.op = .slice t x none (some hi) (some mx)) (ao : Option Addr) (n cap k : Nat) (hx : A.eval x = .slice ao n cap) (h1 : A.eval hi = .int .i64 (k : Int)) (h2 : A.eval mx = .int .i64 (k : Int)) (hk : k ≤ n) (hn : n ≤ cap)
    (hl : ∀ a, ao = some a → ∃ g, a = ⟨g, 0, none⟩) (w : World) : (execOp A.eval o).run P w = .ok (.value (.slice ao k k)) w := by
  have h := run_full E w ao n cap k hk hn hl
  unfold execOp
  simp only [hop, hx, h1, h2, Option.map_some, Option.map_none, Sem.run_bind, Instr.sliceAt, run_underlying E.under, Result.andThen_ok, h, Sem.run_pure]
end
end Go.Proofs.Ytpbppgfogepjeaa
namespace Go.Proofs.Ytpbppgfogepjeaa
open Go.ChangeShapes Go.WideShapes Go.ChangeAt Go.RowKit Go.Deep

def soonI (a b : ObI) : Bool := soonV a.ov b.ov
structure PS where
  ord : List ObI
  old : Nat
  now : Nat
  ready : Nat
  rnew : Nat
def PS.put (x : ObI) (s : PS) (y : ObI) : PS :=
  ⟨insAt soonI y s.ord, s.old + (if freshB x y = true then 0 else 1), s.now + (if freshB x y = true then 1 else 0), s.ready + (if (y.o.p.phase == 2) = true then 1 else 0), s.rnew + (if (freshB x y && (y.o.p.phase == 2)) = true then 1 else 0)⟩
def PS.step (x : ObI) (s : PS) (y : ObI) : PS := if isLive x.nm y.ov = true then s.put x y else s
def ps0 : PS := ⟨[], 0, 0, 0, 0⟩
def insL (l : List ObI) (acc : List ObI) : List ObI := l.foldl (fun s o => insAt soonI o s) acc
theorem len_more {α : Type} (p : α → Bool) (x : α) (l : List α) : ((x :: l).filter p).length = (l.filter p).length + (if p x = true then 1 else 0) := by
  rw [List.filter_cons]
  split <;> simp
theorem len_two {α : Type} (p q : α → Bool) (x : α) (l : List α) : (((x :: l).filter p).filter q).length = ((l.filter p).filter q).length + (if (p x && q x) = true then 1 else 0) := by
  rw [List.filter_cons]
  cases hp : p x
  · simp
  · rw [if_pos rfl, len_more]
    simp
theorem PS.fold (x : ObI) : ∀ (l : List ObI) (s : PS), l.foldl (PS.step x) s = ⟨insL (liveI x l) s.ord, s.old + ((liveI x l).filter fun y => !freshB x y).length, s.now + ((liveI x l).filter fun y => freshB x y).length,
    s.ready + ((liveI x l).filter fun y => y.o.p.phase == 2).length, s.rnew + (((liveI x l).filter fun y => freshB x y).filter fun y => y.o.p.phase == 2).length⟩
  | [], s => rfl
  | y :: l, s => by
    rw [List.foldl_cons, PS.fold x l]
    unfold PS.step liveI
    rw [List.filter_cons]
    by_cases h : isLive x.nm y.ov = true
    · rw [if_pos h, if_pos h, len_more, len_more, len_more, len_two]
      unfold PS.put insL
      dsimp only
      rw [List.foldl_cons]
      cases freshB x y <;> cases (y.o.p.phase == 2) <;> simp <;> omega
    · rw [if_neg h, if_neg h]
theorem PS.le (x : ObI) (s : PS) (y : ObI) (k : Nat) (h : s.old ≤ k ∧ s.now ≤ k ∧ s.ready ≤ k ∧ s.rnew ≤ k ∧ s.ord.length ≤ k) :
    (s.step x y).old ≤ k + 1 ∧ (s.step x y).now ≤ k + 1 ∧ (s.step x y).ready ≤ k + 1 ∧ (s.step x y).rnew ≤ k + 1 ∧ (s.step x y).ord.length ≤ k + 1 := by
  unfold PS.step
  split
  · unfold PS.put
    dsimp only
    rw [(insAt_perm soonI y s.ord).length_eq, List.length_cons]
    refine ⟨?_, ?_, ?_, ?_, ?_⟩
    all_goals first | omega | (split <;> omega)
  · omega
end Go.Proofs.Ytpbppgfogepjeaa
