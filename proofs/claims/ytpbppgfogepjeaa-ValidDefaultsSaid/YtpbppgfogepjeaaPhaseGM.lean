/- The contract of rollout.Plan where it refuses. Condition: none. || Amid rollout.Plan: what lies where. No condition. || Phases with guarded operations ('&&', '||'). No condition; no program. -/
import Derived.Test.YtpbppgfogepjeaaAppLoudM
import Derived.Test.YtpbppgfogepjeaaRightM
import Derived.Test.YtpbppgfogepjeaaPhase2
namespace Go.Proofs.Ytpbppgfogepjeaa
open Go.ChangeShapes Go.WideShapes Go.ChangeAt Go.RowKit Go.Deep

structure PlAt (w0 w : World) (N : Nat) (s a : Int) (xc : List Value) : Prop where
  r : w.heap[N]? = some (.cells #[.int .i64 s, .int .i64 a] 67 (0, 0))
  x : ∀ j u, xc[j]? = some u → w.cell? ⟨N + 1, j, none⟩ = some u
  out : w.heap[N + 2]? = some (.cells #[.int .i64 0, .slice none 0 0, .bool false] 70 (0, 0))
  below : Below N w0 w
theorem PlAt.b {w0 w w' : World} {N : Nat} {s a : Int} {xc : List Value} (h : PlAt w0 w N s a xc) (hN : N ≤ w.heap.size) (hb : Below w.heap.size w w') : PlAt w0 w' N s a xc :=
  ⟨(hb.block N (Array.getElem?_eq_some_iff.1 h.r).1).trans h.r, fun j u hu => Below.cell_some hb (h.x j u hu), (hb.block _ (Array.getElem?_eq_some_iff.1 h.out).1).trans h.out, h.below.trans (hb.mono hN)⟩
theorem PlAt.new (w : World) (s a : Int) (xc : List Value) : PlAt w (((w.alloc (.cells #[.int .i64 s, .int .i64 a] 67)).alloc (.cells xc.toArray 44)).alloc (.cells #[.int .i64 0, .slice none 0 0, .bool false] 70)) w.heap.size s a xc := by
  obtain ⟨w1, hw1⟩ : ∃ q, w.alloc (.cells #[.int .i64 s, .int .i64 a] 67) = q := ⟨_, rfl⟩
  have hr1 : w1.heap[w.heap.size]? = some (.cells #[.int .i64 s, .int .i64 a] 67 (0, 0)) := by rw [← hw1]; exact heap_alloc_new _ _
  have hz1 : w1.heap.size = w.heap.size + 1 := by rw [← hw1]; simp
  have hb1 : Below w.heap.size w w1 := by rw [← hw1]; exact (Below.refl _ _).alloc (Nat.le_refl _) _
  rw [hw1]
  obtain ⟨w2, hw2⟩ : ∃ q, w1.alloc (.cells xc.toArray 44) = q := ⟨_, rfl⟩
  have hx2 : ∀ j u, xc[j]? = some u → w2.cell? ⟨w.heap.size + 1, j, none⟩ = some u := fun j u hu => by
    rw [← hw2, ← hz1]
    have := (cell_new w1 xc.toArray 44 j).trans (by simpa using hu)
    rwa [Addr.add_lit, Nat.zero_add] at this
  have hz2 : w2.heap.size = w.heap.size + 2 := by rw [← hw2]; simp; omega
  have hb2 : Below w1.heap.size w1 w2 := by rw [← hw2]; exact (Below.refl _ _).alloc (Nat.le_refl _) _
  rw [hw2]
  have hb3 : Below w2.heap.size w2 (w2.alloc (.cells #[.int .i64 0, .slice none 0 0, .bool false] 70)) := (Below.refl _ _).alloc (Nat.le_refl _) _
  refine ⟨(hb3.block _ (by omega)).trans ((hb2.block _ (by omega)).trans hr1), fun j u hu => Below.cell_some hb3 (hx2 j u hu), ?_, (hb1.trans (hb2.mono (by omega))).trans (hb3.mono (by omega))⟩
  have := heap_alloc_new w2 (.cells #[.int .i64 0, .slice none 0 0, .bool false] 70)
  rwa [hz2] at this

end Go.Proofs.Ytpbppgfogepjeaa
namespace Go.Proofs.Ytpbppgfogepjeaa
open Go.ChangeShapes Go.WideShapes Go.ChangeAt Go.RowKit Go.Deep

theorem storeSl1 {w : World} {q : Addr} {ao : Option Addr} {n cap : Nat} (t : TypeId) (ht : (sizeOf t).run Try.prog w = .ok 1 w) (hc : (w.cell? q).isSome = true) (hf : w.frozen? q = false) : (Instr.storeAt t (.pointer (some q)) (.slice ao n cap)).run Try.prog w = .ok () (w.setCell q (.slice ao n cap)) := by
  obtain ⟨u, hu⟩ := Option.isSome_iff_exists.1 hc
  simp [go_sem, ht, hu, hf, storeVar]
theorem OwnN.reads {w : World} {B : Nat} {v : Value} {xs : List ByteArray} (h : OwnN w B v xs) : ∃ ao cap, v = .slice ao xs.length cap ∧ SlR (Flat cN) 1 w ao xs.length cap xs := by
  obtain ⟨ao, cap, e, hS, _⟩ := SlR.of_owns (f := cN) (sz := 1) h rfl (fun _ => rfl)
  exact ⟨ao, cap, e, hS⟩
theorem OwnOb.low {w : World} {B : Nat} {ao : Option Addr} {n cap : Nat} {xs : List ObI} (h : OwnOb w B (.slice ao n cap) xs) : ∀ A, ao = some A → A.block < w.heap.size := fun A e => by
  rcases h.2 with ⟨h0, _⟩ | ⟨g, c, cur, h0, _, hg, _⟩
  · cases h0; cases e
  · cases h0; cases e; exact (Array.getElem?_eq_some_iff.1 hg).1
structure PlMid (w0 w : World) (N bb : Nat) (s a : Int) (xc : List Value) (a1 : Option Addr) (n1 q1 : Nat) (L1 : List ObI) (a2 : Option Addr) (n2 q2 : Nat) (L2 : List ObI) (row : Array Value) : Prop where
  pl : PlAt w0 w N s a xc
  t1 : SlR (Flat ObI.cells) 47 w a1 n1 q1 L1
  t2 : SlR (Flat ObI.cells) 47 w a2 n2 q2 L2
  row : w.heap[bb]? = some (.cells row 70 (0, 0))
  u1 : ∀ A, a1 = some A → A.block < bb
  u2 : ∀ A, a2 = some A → A.block < bb
  nb : N + 3 ≤ bb
section
variable {w0 w w' : World} {N bb : Nat} {s a : Int} {xc : List Value} {a1 a2 : Option Addr} {n1 q1 n2 q2 : Nat} {L1 L2 : List ObI} {row : Array Value}
theorem PlMid.lt (h : PlMid w0 w N bb s a xc a1 n1 q1 L1 a2 n2 q2 L2 row) : bb < w.heap.size := (Array.getElem?_eq_some_iff.1 h.row).1
theorem PlMid.fr (h : PlMid w0 w N bb s a xc a1 n1 q1 L1 a2 n2 q2 L2 row) {S : Nat → Prop} (hf : Fr S w w') (hS : ∀ k, S k → bb < k) : PlMid w0 w' N bb s a xc a1 n1 q1 L1 a2 n2 q2 L2 row := by
  have hlt := h.lt
  have hnb := h.nb
  refine ⟨⟨(hf.block N (by omega) (fun e => by have := hS _ e; omega)).trans h.pl.r, fun j u hu => hf.cell (h.pl.x j u hu) (fun e => by have := hS _ e; simp at this; omega), (hf.block (N + 2) (by omega) (fun e => by have := hS _ e; omega)).trans h.pl.out, h.pl.below.trans (hf.below (by omega) (fun k hk => by have := hS k hk; omega))⟩,
    h.t1.frG hf (fun A e hk => by have := hS _ hk; have := h.u1 A e; omega), h.t2.frG hf (fun A e hk => by have := hS _ hk; have := h.u2 A e; omega), (hf.block bb hlt (fun e => by have := hS _ e; omega)).trans h.row, h.u1, h.u2, h.nb⟩
theorem PlMid.set (h : PlMid w0 w N bb s a xc a1 n1 q1 L1 a2 n2 q2 L2 row) (j : Nat) (v : Value) : PlMid w0 (w.setCell ⟨bb, j, none⟩ v) N bb s a xc a1 n1 q1 L1 a2 n2 q2 L2 (row.setIfInBounds j v) := by
  have hlt := h.lt
  have hnb := h.nb
  have hf : Fr (fun k => k = bb) w (w.setCell ⟨bb, j, none⟩ v) := Fr.setC (fun k => k = bb) w ⟨bb, j, none⟩ v rfl
  refine ⟨⟨(hf.block N (by omega) (fun e => by omega)).trans h.pl.r, fun j u hu => hf.cell (h.pl.x j u hu) (fun e => by simp at e; omega), (hf.block (N + 2) (by omega) (fun e => by omega)).trans h.pl.out, h.pl.below.trans (hf.below (by omega) (fun k hk => by omega))⟩,
    h.t1.frG hf (fun A e hk => by have := h.u1 A e; omega), h.t2.frG hf (fun A e hk => by have := h.u2 A e; omega), row_setCell h.row v, h.u1, h.u2, h.nb⟩
end
end Go.Proofs.Ytpbppgfogepjeaa
namespace Go.Proofs.Ytpbppgfogepjeaa
open Go.ChangeShapes Go.WideShapes Go.ChangeAt Go.RowKit Go.Deep

section
variable {P : Program} {ops : Array Oper} {C : World → Prop}
theorem wpVal_oneG {Q : Act → Prop} {a : Act} {o : Oper} {rest : List Oper} (hg : Region.wanted o (yielded ops a.tmps) = true) (h : ∀ K : Act → Prop, (∀ a, wpVal P ops C Q rest a → K a) → ∃ v, (∀ w, (execOp a.eval o).run P w = .ok (.value v) w) ∧ K (a.put o.dst v)) : wpVal P ops C Q (o :: rest) a := by
  obtain ⟨v, h1, h2⟩ := h _ (fun _ h => h)
  refine ⟨v, ?_, h2⟩
  rw [if_pos hg]
  exact fun w _ => h1 w
theorem wpVal_loadG {T : TypeId} {size : Nat} (A : AggOK P T size) {Q : Act → Prop} {a : Act} {o : Oper} {rest : List Oper} (hg : Region.wanted o (yielded ops a.tmps) = true) (x : Operand) (ho : o.op = .load T x) (p : Addr) (hx : a.eval x = .pointer (some p))
    (cs : List Value) (hs : cs.length = size) (hc : ∀ w, C w → ∀ j u, cs[j]? = some u → w.cell? (p.add j) = some u) (h : ∀ K : Act → Prop, (∀ a, wpVal P ops C Q rest a → K a) → K (a.put o.dst (.agg cs.toArray))) : wpVal P ops C Q (o :: rest) a := by
  refine ⟨.agg cs.toArray, ?_, h _ (fun _ h => h)⟩
  rw [if_pos hg]
  intro w hw
  have hw := hw (by rw [ho]; rfl)
  unfold execOp
  simp only [ho, hx, Instr.loadAt, Instr.sureAddr, Sem.run_bind, Sem.run_pure, Result.andThen_ok, run_loadVar_at A w p cs hs (hc w hw)]
variable {b : Nat} {R : Act → World → Prop}
theorem wpLoud_oneG {j : Nat} {r : List Nat} {A : Act} {w : World} {o : Oper} (ho : ops[j]? = some o) (hg : Region.wanted o (yielded ops A.tmps) = true) (h : loudUpon P (fun v w' => (j < b → C w') ∧ wpLoud P ops C b R r (A.put o.dst v) w') ((execOp A.eval o).run P w)) : wpLoud P ops C b R (j :: r) A w := by
  unfold wpLoud
  simp only [ho]
  rw [if_pos hg]
  exact h
theorem loudK {r : List Nat} {A : Act} {w : World} (h : ∀ K : Act → Prop, (∀ a, wpLoud P ops C b R r a w → K a) → K A) : wpLoud P ops C b R r A w := h _ (fun _ h => h)
theorem wpLoud_callG {j : Nat} {r : List Nat} {A : Act} {w : World} {l : List Oper} {o : Oper} (ho : nthOp j l = some o) (hg : Region.wanted o (yielded l.toArray A.tmps) = true) (f : Nat) (args : List Operand) (ats : Array TypeId) (hop : o.op = .call { callee := .value (.func f), args := args.toArray, argTypes := ats }) {fn : Func} {c : Code} (hf : P.funcs[f]? = some fn)
    (hn : (fn.name == "runtime.NumGoroutine") = false) (hb : fn.body = some c) (vs : List Value) (hv : args.map A.eval = vs) (h : Calls P f vs.toArray w fun e w' => ∃ v, e = .returned v ∧ (j < b → C w') ∧ wpLoud P l.toArray C b R r (A.put o.dst v) w') : wpLoud P l.toArray C b R (j :: r) A w := by
  refine wpLoud_oneG (nthOp_spec ho) hg ?_
  have h2' : fn.name ≠ "runtime.NumGoroutine" := by simpa using hn
  have h3' : fn.body ≠ none := by rw [hb]; intro e; cases e
  have e2 : (execOp A.eval o).run P w = .ok (.enter f vs.toArray) w := by
    unfold execOp
    have e : (args.toArray.map A.eval) = vs.toArray := by rw [← hv]; simp
    simp only [hop, resolve, e]
    simp [Act.eval, Deferred.ofValue, invoke, callFunc, hf, h2', h3']
  rw [e2]
  exact h
end
end Go.Proofs.Ytpbppgfogepjeaa
