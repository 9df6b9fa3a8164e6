/- Plain lemmas on lists, for the walks. No condition. || Labels and asks as values. No condition. || Structs compared: labels, asks. Rows of such: are they the same? No condition. -/
import Derived.Test.YtpbppgfogepjeaaBase
import Derived.Test.YtpbppgfogepjeaaRows
import Derived.Laws.StructEq
import Derived.Deep.QuietTactic
namespace Go.Proofs.Ytpbppgfogepjeaa
def idxOf {α : Type} (p : α → Bool) : List α → Nat → Int
  | [], _ => -1
  | x :: xs, k => if p x then k else idxOf p xs (k + 1)

theorem idxOf_drop {α : Type} (p : α → Bool) {xs : List α} {k : Nat} (h : k < xs.length) : idxOf p (xs.drop k) k = if p xs[k] then (k : Int) else idxOf p (xs.drop (k + 1)) (k + 1) := by
  rw [List.drop_eq_getElem_cons h, idxOf]

theorem idxOf_end {α : Type} (p : α → Bool) {xs : List α} {k : Nat} (h : xs.length ≤ k) : idxOf p (xs.drop k) k = -1 := by
  rw [List.drop_eq_nil_of_le h, idxOf]


theorem flatMap_len {α : Type} {f : α → List Value} {sz : Nat} (hf : ∀ x, (f x).length = sz) : ∀ (xs : List α), (xs.flatMap f).length = xs.length * sz
  | [] => by simp
  | x :: xs => by rw [List.flatMap_cons, List.length_append, hf, flatMap_len hf xs, List.length_cons, Nat.add_mul]; omega

theorem flatMap_take {α : Type} {f : α → List Value} {sz : Nat} (hf : ∀ x, (f x).length = sz) : ∀ (xs : List α) (q : Nat) (rest : List Value), q ≤ xs.length → (xs.flatMap f ++ rest).take (q * sz) = (xs.take q).flatMap f
  | _, 0, _, _ => by simp
  | [], q + 1, _, h => by simp at h
  | x :: xs, q + 1, rest, h => by
    have e : (q + 1) * sz = (f x).length + q * sz := by rw [hf, Nat.add_mul]; omega
    rw [List.flatMap_cons, List.append_assoc, e, List.take_length_add_append, flatMap_take hf xs q rest (by simpa using h)]
    rfl

theorem flatMap_drop {α : Type} {f : α → List Value} {sz : Nat} (hf : ∀ x, (f x).length = sz) : ∀ (xs : List α) (q : Nat) (rest : List Value), q ≤ xs.length → (xs.flatMap f ++ rest).drop (q * sz) = (xs.drop q).flatMap f ++ rest
  | _, 0, _, _ => by simp
  | [], q + 1, _, h => by simp at h
  | x :: xs, q + 1, rest, h => by
    have e : (q + 1) * sz = (f x).length + q * sz := by rw [hf, Nat.add_mul]; omega
    rw [List.flatMap_cons, List.append_assoc, e, List.drop_length_add_append, flatMap_drop hf xs q rest (by simpa using h)]
    rfl

theorem flatMap_set {α : Type} {f : α → List Value} {sz : Nat} (hf : ∀ x, (f x).length = sz) (xs : List α) (q : Nat) (x : α) (rest : List Value) (h : q < xs.length) :
    (xs.flatMap f ++ rest).take (q * sz) ++ f x ++ (xs.flatMap f ++ rest).drop (q * sz + sz) = (xs.set q x).flatMap f ++ rest := by
  have e : q * sz + sz = (q + 1) * sz := by rw [Nat.add_mul]; omega
  rw [e, flatMap_take hf _ _ _ (by omega), flatMap_drop hf _ _ _ (by omega), List.set_eq_take_append_cons_drop, if_pos h]
  simp

theorem filter_take_succ {α : Type} (p : α → Bool) (xs : List α) (r : Nat) (h : r < xs.length) : (xs.take (r + 1)).filter p = (xs.take r).filter p ++ (if p xs[r] then [xs[r]] else []) := by
  rw [List.take_succ_eq_append_getElem h, List.filter_append]
  congr 1
  by_cases hp : p xs[r] = true <;> simp [hp]

theorem set_take {α : Type} (xs : List α) (q : Nat) (x : α) (h : q < xs.length) : (xs.set q x).take (q + 1) = xs.take q ++ [x] := by
  rw [List.take_succ_eq_append_getElem (by simpa using h), List.take_set, List.set_eq_of_length_le (by simp; omega)]
  simp

theorem set_drop {α : Type} (xs : List α) (q r : Nat) (x : α) (h : q < r) : (xs.set q x).drop r = xs.drop r := by
  rw [List.drop_set, if_pos h]

def DelInv {α : Type} (np : α → Bool) (xs ys : List α) (q r : Nat) : Prop :=
  ys.length = xs.length ∧ q = ((xs.take r).filter np).length ∧ ys.take q = (xs.take r).filter np ∧ ys.drop r = xs.drop r

theorem drop_next {α : Type} {xs ys : List α} {r : Nat} (h : ys.drop r = xs.drop r) : ys.drop (r + 1) = xs.drop (r + 1) := by
  rw [← List.drop_drop, h, List.drop_drop]

theorem del_keep {α : Type} {np : α → Bool} {xs ys : List α} {q r : Nat} (h : DelInv np xs ys q r) (hr : r < xs.length) (hp : np xs[r] = true) (hq : q < r) : DelInv np xs (ys.set q xs[r]) (q + 1) (r + 1) := by
  obtain ⟨h1, h2, h3, h4⟩ := h
  refine ⟨by rw [List.length_set, h1], ?_, ?_, ?_⟩
  · rw [filter_take_succ _ _ _ hr, if_pos hp, List.length_append, ← h2]; rfl
  · rw [filter_take_succ _ _ _ hr, if_pos hp, set_take _ _ _ (by omega), h3]
  · rw [set_drop _ _ _ _ (by omega), drop_next h4]

theorem del_drop {α : Type} {np : α → Bool} {xs ys : List α} {q r : Nat} (h : DelInv np xs ys q r) (hr : r < xs.length) (hp : np xs[r] = false) : DelInv np xs ys q (r + 1) := by
  obtain ⟨h1, h2, h3, h4⟩ := h
  have e : (xs.take (r + 1)).filter np = (xs.take r).filter np := by
    rw [filter_take_succ _ _ _ hr, hp]
    simp
  exact ⟨h1, by rw [e]; exact h2, by rw [e]; exact h3, drop_next h4⟩

theorem del_end {α : Type} {np : α → Bool} {xs ys : List α} {q r : Nat} (h : DelInv np xs ys q r) (hr : xs.length ≤ r) : q = (xs.filter np).length ∧ ys.take q = xs.filter np := by
  obtain ⟨h1, h2, h3, h4⟩ := h
  rw [List.take_of_length_le hr] at h2 h3
  exact ⟨h2, h3⟩

theorem idxOf_spec {α : Type} (p : α → Bool) : ∀ (xs : List α) (k : Nat),
    (idxOf p xs k = -1 ∧ ∀ x ∈ xs, p x = false) ∨
    ∃ j, ∃ h : j < xs.length, idxOf p xs k = ((k + j : Nat) : Int) ∧ p xs[j] = true ∧ ∀ x ∈ xs.take j, p x = false
  | [], _ => .inl ⟨rfl, by simp⟩
  | x :: xs, k => by
    by_cases h : p x = true
    · exact .inr ⟨0, by simp, by simp only [idxOf, if_pos h]; rfl, h, by simp⟩
    · simp only [idxOf, if_neg h]
      rcases idxOf_spec p xs (k + 1) with ⟨h1, h2⟩ | ⟨j, hj, h1, h2, h3⟩
      · exact .inl ⟨h1, by simpa [h] using h2⟩
      · exact .inr ⟨j + 1, by simp; omega, by rw [h1]; congr 1; omega, h2, by simpa [h] using h3⟩

end Go.Proofs.Ytpbppgfogepjeaa
namespace Go.Proofs.Ytpbppgfogepjeaa
open Go.ChangeShapes Go.WideShapes Go.ChangeAt Go.RowKit Go.Deep

structure Label where
  key : ByteArray
  val : ByteArray
deriving Inhabited

structure Require where
  key : ByteArray
  val : ByteArray
  op : Int
deriving Inhabited

def Label.cells (l : Label) : List Value := [.string l.key, .string l.val]
def Require.cells (r : Require) : List Value := [.string r.key, .string r.val, .int .i64 r.op]

end Go.Proofs.Ytpbppgfogepjeaa
namespace Go.Proofs.Ytpbppgfogepjeaa
open Go.ChangeShapes Go.WideShapes Go.ChangeAt Go.RowKit Go.Deep

theorem wpQuiet_bin {P : Program} {ops : Array Oper} {C : World → Prop} {Q : Act → Prop} {rest : List Oper} {o : Oper} {a : Act} (hg : o.guard = none) {op : BinOp} {T T2 : TypeId} (x y : Operand) (ho : o.op = .binOp op T x y T2) (va vb v : Value) (hx : a.eval x = va) (hy : a.eval y = vb)
    (h1 : ∀ w, (eqGuard op T x y va vb).run P w = .ok () w) (h2 : ∀ w, (binOp op T va vb).run P w = .ok v w) (h : wpQuiet P ops C Q rest (a.put o.dst v)) : wpQuiet P ops C Q (o :: rest) a := by
  refine wpQuiet_step fun K hK => ?_
  rw [if_pos (by unfold Region.wanted; rw [hg])]
  refine ⟨v, fun w hw => ?_, hK _ h⟩
  unfold Oper.quietAt execOp
  simp only [ho, hx, hy, Sem.run_bind, h1, h2, Result.andThen_ok, Sem.run_pure]
  exact ⟨rfl, rfl⟩
theorem eqFields_st {P : Program} {d : Nat} {xs ys : Array Value} {f : Field} {fs : List Field} {w : World} {a b : Value} {r s : Bool} (hn : f.name ≠ "_") (ha : (part f.type xs f.offset).run P w = .ok a w) (hb : (part f.type ys f.offset).run P w = .ok b w)
    (hr : (Op.equalIn d f.type a b).run P w = .ok r w) (hs : (Op.eqFields d xs ys fs).run P w = .ok s w) : (Op.eqFields d xs ys (f :: fs)).run P w = .ok (r && s) w := by
  simp only [Op.eqFields, if_pos hn, Sem.run_bind, ha, hb, hr, Result.andThen_ok]
  cases r
  · rfl
  · simpa using hs
theorem fields_of2 {l : List Field} {n0 n1 : String} {t0 o0 t1 o1 : Nat} (h : l.map (fun f => (f.name, f.type, f.offset)) = [(n0, t0, o0), (n1, t1, o1)]) :
    ∃ s0 s1, l = [s0, s1] ∧ s0.name = n0 ∧ s0.type = t0 ∧ s0.offset = o0 ∧ s1.name = n1 ∧ s1.type = t1 ∧ s1.offset = o1 := by
  match l, h with
  | [s0, s1], h =>
    simp only [List.map_cons, List.map_nil, List.cons.injEq, Prod.mk.injEq, and_true] at h
    obtain ⟨⟨a0, b0, c0⟩, a1, b1, c1⟩ := h
    exact ⟨s0, s1, rfl, a0, b0, c0, a1, b1, c1⟩
theorem fields_of3 {l : List Field} {n0 n1 n2 : String} {t0 o0 t1 o1 t2 o2 : Nat} (h : l.map (fun f => (f.name, f.type, f.offset)) = [(n0, t0, o0), (n1, t1, o1), (n2, t2, o2)]) :
    ∃ s0 s1 s2, l = [s0, s1, s2] ∧ s0.name = n0 ∧ s0.type = t0 ∧ s0.offset = o0 ∧ s1.name = n1 ∧ s1.type = t1 ∧ s1.offset = o1 ∧ s2.name = n2 ∧ s2.type = t2 ∧ s2.offset = o2 := by
  match l, h with
  | [s0, s1, s2], h =>
    simp only [List.map_cons, List.map_nil, List.cons.injEq, Prod.mk.injEq, and_true] at h
    obtain ⟨⟨a0, b0, c0⟩, ⟨a1, b1, c1⟩, a2, b2, c2⟩ := h
    exact ⟨s0, s1, s2, rfl, a0, b0, c0, a1, b1, c1, a2, b2, c2⟩
theorem fieldsLab : Try.prog.underlying 110 = some (.struct (Try.prog.fieldsOf 110)) := by kernel_rfl
theorem stoodLab : Try.prog.stoodInHeld 110 = false := by kernel_rfl
theorem run_equalLab (x y : Label) (w : World) : (Op.equalIn 10000 110 (.agg #[.string x.key, .string x.val]) (.agg #[.string y.key, .string y.val])).run Try.prog w = .ok ((x.key.toList == y.key.toList) && (x.val.toList == y.val.toList)) w := by
  rw [run_equalIn_agg w 9999 _ _ _ fieldsLab stoodLab]
  have h0 : (Op.equalIn 9999 9 (.string x.key) (.string y.key)).run Try.prog w = .ok (x.key.toList == y.key.toList) w := run_equalIn_string w 9998 _ _ _ (by kernel_rfl)
  have h1 : (Op.equalIn 9999 9 (.string x.val) (.string y.val)).run Try.prog w = .ok (x.val.toList == y.val.toList) w := run_equalIn_string w 9998 _ _ _ (by kernel_rfl)
  have hm : (Try.prog.fieldsOf 110).toList.map (fun f => (f.name, f.type, f.offset)) = [("Key", 9, 0), ("Value", 9, 1)] := by kernel_rfl
  obtain ⟨s0, s1, hl, a0, b0, c0, a1, b1, c1⟩ := fields_of2 hm
  have p0 : (part 9 #[.string x.key, .string x.val] 0).run Try.prog w = .ok (.string x.key) w := by kernel_rfl
  have r0 : (part 9 #[.string y.key, .string y.val] 0).run Try.prog w = .ok (.string y.key) w := by kernel_rfl
  have d0 : "Key" ≠ "_" := by decide
  have p1 : (part 9 #[.string x.key, .string x.val] 1).run Try.prog w = .ok (.string x.val) w := by kernel_rfl
  have r1 : (part 9 #[.string y.key, .string y.val] 1).run Try.prog w = .ok (.string y.val) w := by kernel_rfl
  have d1 : "Value" ≠ "_" := by decide
  rw [hl]
  refine eqFields_st (by rw [a0]; exact d0) (by rw [b0, c0]; exact p0) (by rw [b0, c0]; exact r0) (by rw [b0]; exact h0) ?_
  have := eqFields_st (P := Try.prog) (d := 9999) (w := w) (fs := []) (s := true) (by rw [a1]; exact d1) (by rw [b1, c1]; exact p1) (by rw [b1, c1]; exact r1) (by rw [b1]; exact h1) rfl
  rw [Bool.and_true] at this
  exact this
theorem neqLab (x y : Label) (w : World) : (binOp .neq 110 (.agg #[.string x.key, .string x.val]) (.agg #[.string y.key, .string y.val])).run Try.prog w = .ok (.bool (!((x.key.toList == y.key.toList) && (x.val.toList == y.val.toList)))) w := by
  rw [run_neq_struct, run_equalLab]
  rfl
theorem guardLab : Try.prog.eqGuardType Try.prog.depth 110 = false := by kernel_rfl
theorem fieldsReq : Try.prog.underlying 113 = some (.struct (Try.prog.fieldsOf 113)) := by kernel_rfl
theorem stoodReq : Try.prog.stoodInHeld 113 = false := by kernel_rfl
theorem run_equalReq (x y : Require) (w : World) : (Op.equalIn 10000 113 (.agg #[.string x.key, .string x.val, .int .i64 x.op]) (.agg #[.string y.key, .string y.val, .int .i64 y.op])).run Try.prog w = .ok ((x.key.toList == y.key.toList) && ((x.val.toList == y.val.toList) && (x.op == y.op))) w := by
  rw [run_equalIn_agg w 9999 _ _ _ fieldsReq stoodReq]
  have h0 : (Op.equalIn 9999 9 (.string x.key) (.string y.key)).run Try.prog w = .ok (x.key.toList == y.key.toList) w := run_equalIn_string w 9998 _ _ _ (by kernel_rfl)
  have h1 : (Op.equalIn 9999 9 (.string x.val) (.string y.val)).run Try.prog w = .ok (x.val.toList == y.val.toList) w := run_equalIn_string w 9998 _ _ _ (by kernel_rfl)
  have h2 : (Op.equalIn 9999 3 (.int .i64 x.op) (.int .i64 y.op)).run Try.prog w = .ok (x.op == y.op) w := run_equalIn_int w 9998 _ .i64 .i64 _ _ (by kernel_rfl)
  have hm : (Try.prog.fieldsOf 113).toList.map (fun f => (f.name, f.type, f.offset)) = [("Key", 9, 0), ("Value", 9, 1), ("Op", 3, 2)] := by kernel_rfl
  obtain ⟨s0, s1, s2, hl, a0, b0, c0, a1, b1, c1, a2, b2, c2⟩ := fields_of3 hm
  have p0 : (part 9 #[.string x.key, .string x.val, .int .i64 x.op] 0).run Try.prog w = .ok (.string x.key) w := by kernel_rfl
  have r0 : (part 9 #[.string y.key, .string y.val, .int .i64 y.op] 0).run Try.prog w = .ok (.string y.key) w := by kernel_rfl
  have d0 : "Key" ≠ "_" := by decide
  have p1 : (part 9 #[.string x.key, .string x.val, .int .i64 x.op] 1).run Try.prog w = .ok (.string x.val) w := by kernel_rfl
  have r1 : (part 9 #[.string y.key, .string y.val, .int .i64 y.op] 1).run Try.prog w = .ok (.string y.val) w := by kernel_rfl
  have d1 : "Value" ≠ "_" := by decide
  have p2 : (part 3 #[.string x.key, .string x.val, .int .i64 x.op] 2).run Try.prog w = .ok (.int .i64 x.op) w := by kernel_rfl
  have r2 : (part 3 #[.string y.key, .string y.val, .int .i64 y.op] 2).run Try.prog w = .ok (.int .i64 y.op) w := by kernel_rfl
  have d2 : "Op" ≠ "_" := by decide
  rw [hl]
  refine eqFields_st (by rw [a0]; exact d0) (by rw [b0, c0]; exact p0) (by rw [b0, c0]; exact r0) (by rw [b0]; exact h0) ?_
  refine eqFields_st (by rw [a1]; exact d1) (by rw [b1, c1]; exact p1) (by rw [b1, c1]; exact r1) (by rw [b1]; exact h1) ?_
  have := eqFields_st (P := Try.prog) (d := 9999) (w := w) (fs := []) (s := true) (by rw [a2]; exact d2) (by rw [b2, c2]; exact p2) (by rw [b2, c2]; exact r2) (by rw [b2]; exact h2) rfl
  rw [Bool.and_true] at this
  exact this
theorem neqReq (x y : Require) (w : World) : (binOp .neq 113 (.agg #[.string x.key, .string x.val, .int .i64 x.op]) (.agg #[.string y.key, .string y.val, .int .i64 y.op])).run Try.prog w = .ok (.bool (!((x.key.toList == y.key.toList) && ((x.val.toList == y.val.toList) && (x.op == y.op))))) w := by
  rw [run_neq_struct, run_equalReq]
  rfl
theorem guardReq : Try.prog.eqGuardType Try.prog.depth 113 = false := by kernel_rfl
def labEq (a b : Label) : Bool := (a.key.toList == b.key.toList) && (a.val.toList == b.val.toList)
def askEq (a b : Require) : Bool := (a.key.toList == b.key.toList) && ((a.val.toList == b.val.toList) && (a.op == b.op))
def rowEq {α : Type} (f : α → α → Bool) : List α → List α → Bool
  | [], [] => true
  | a :: l, b :: m => f a b && rowEq f l m
  | _, _ => false
theorem rowEq_len {α : Type} (f : α → α → Bool) : ∀ l m : List α, l.length ≠ m.length → rowEq f l m = false
  | [], [], h => (h rfl).elim
  | [], _ :: _, _ => rfl
  | _ :: _, [], _ => rfl
  | a :: l, b :: m, h => by
    unfold rowEq
    rw [rowEq_len f l m (by simpa using h), Bool.and_false]
theorem rowEq_drop {α : Type} (f : α → α → Bool) : ∀ (l m : List α) (k : Nat) (h1 : k < l.length) (h2 : k < m.length), rowEq f (l.drop k) (m.drop k) = (f l[k] m[k] && rowEq f (l.drop (k + 1)) (m.drop (k + 1)))
  | a :: l, b :: m, 0, _, _ => rfl
  | a :: l, b :: m, k + 1, h1, h2 => by simpa using rowEq_drop f l m k (by simpa using h1) (by simpa using h2)
theorem rowEq_end {α : Type} (f : α → α → Bool) {l m : List α} {k : Nat} (h1 : l.length ≤ k) (h2 : m.length ≤ k) : rowEq f (l.drop k) (m.drop k) = true := by
  rw [List.drop_of_length_le h1, List.drop_of_length_le h2]
  rfl

end Go.Proofs.Ytpbppgfogepjeaa
