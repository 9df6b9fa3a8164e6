/- The step from the walk of RolloutPlans to its row: for every input that reads, if the walk returns true and leaves old memory alone, the row holds. Condition: the walk, which is a hypothesis of the lemma. || Phases with guarded operations ('&&', '||'). No condition; no program. -/
import Derived.Test.YtpbppgfogepjeaaRows
import Derived.Test.YtpbppgfogepjeaaBase
import Derived.SizedLaws
import Derived.Lib.SmallJoins
import Derived.Test.YtpbppgfogepjeaaPhase2
namespace Go.Proofs.Ytpbppgfogepjeaa.lRolloutPlans
open Go.ChangeShapes Go.WideShapes Go.ChangeAt Go.RowKit Go.Joins
open Go.ChangeMaps (open_string shut_string)
set_option linter.unusedVariables false

def sh0 : Sh := .pair (.int .i64) (.pair (.int .i64) (.unit))
theorem shOf0 : shOf Try.prog 12 67 = some sh0 := by kernel_rfl
def sh1 : Sh := .pair (.int .i64) (.pair (.str) (.pair (.int .u64) (.pair (.pair (.int .i64) (.pair (.pair (.int .i64) (.pair (.int .i64) (.unit))) (.pair (.slice (.pair (.str) (.pair (.str) (.unit)))) (.pair (.slice (.pair (.str) (.pair (.str) (.pair (.int .i64) (.unit))))) (.pair (.slice (.pair (.str) (.pair (.str) (.unit)))) (.pair (.int .i64) (.unit))))))) (.pair (.pair (.str) (.pair (.str) (.pair (.int .i64) (.pair (.int .i64) (.pair (.pair (.int .i64) (.pair (.int .i64) (.unit))) (.pair (.slice (.pair (.str) (.pair (.str) (.unit)))) (.pair (.slice (.pair (.str) (.pair (.str) (.pair (.int .i64) (.unit))))) (.pair (.slice (.pair (.str) (.pair (.str) (.unit)))) (.pair (.int .i64) (.unit)))))))))) (.pair (.pair (.str) (.pair (.pair (.int .i64) (.pair (.int .i64) (.unit))) (.pair (.slice (.pair (.str) (.pair (.str) (.unit)))) (.pair (.slice (.pair (.str) (.pair (.str) (.unit)))) (.pair (.int .i64) (.pair (.bool) (.unit))))))) (.pair (.pair (.int .i64) (.pair (.int .i64) (.pair (.int .i64) (.pair (.pair (.int .i64) (.pair (.int .i64) (.unit))) (.pair (.slice (.pair (.str) (.pair (.str) (.unit)))) (.pair (.slice (.pair (.str) (.pair (.str) (.unit)))) (.pair (.int .i64) (.unit)))))))) (.pair (.pair (.str) (.pair (.int .i64) (.pair (.int .i64) (.pair (.slice (.pair (.int .i64) (.pair (.str) (.pair (.int .i64) (.unit))))) (.pair (.int .i64) (.pair (.pair (.int .i64) (.pair (.int .i64) (.pair (.slice (.pair (.bool) (.pair (.int .i64) (.pair (.int .i64) (.unit))))) (.unit)))) (.pair (.pair (.int .i64) (.pair (.int .i64) (.pair (.slice (.pair (.bool) (.pair (.int .i64) (.pair (.int .i64) (.unit))))) (.unit)))) (.pair (.slice (.pair (.int .i64) (.pair (.int .i64) (.pair (.int .i64) (.unit))))) (.unit))))))))) (.unit))))))))
theorem shOf1 : shOf Try.prog 12 44 = some sh1 := by kernel_rfl
def sh2 : Sh := .slice (.pair (.int .i64) (.pair (.str) (.pair (.int .u64) (.pair (.pair (.int .i64) (.pair (.pair (.int .i64) (.pair (.int .i64) (.unit))) (.pair (.slice (.pair (.str) (.pair (.str) (.unit)))) (.pair (.slice (.pair (.str) (.pair (.str) (.pair (.int .i64) (.unit))))) (.pair (.slice (.pair (.str) (.pair (.str) (.unit)))) (.pair (.int .i64) (.unit))))))) (.pair (.pair (.str) (.pair (.str) (.pair (.int .i64) (.pair (.int .i64) (.pair (.pair (.int .i64) (.pair (.int .i64) (.unit))) (.pair (.slice (.pair (.str) (.pair (.str) (.unit)))) (.pair (.slice (.pair (.str) (.pair (.str) (.pair (.int .i64) (.unit))))) (.pair (.slice (.pair (.str) (.pair (.str) (.unit)))) (.pair (.int .i64) (.unit)))))))))) (.pair (.pair (.str) (.pair (.pair (.int .i64) (.pair (.int .i64) (.unit))) (.pair (.slice (.pair (.str) (.pair (.str) (.unit)))) (.pair (.slice (.pair (.str) (.pair (.str) (.unit)))) (.pair (.int .i64) (.pair (.bool) (.unit))))))) (.pair (.pair (.int .i64) (.pair (.int .i64) (.pair (.int .i64) (.pair (.pair (.int .i64) (.pair (.int .i64) (.unit))) (.pair (.slice (.pair (.str) (.pair (.str) (.unit)))) (.pair (.slice (.pair (.str) (.pair (.str) (.unit)))) (.pair (.int .i64) (.unit)))))))) (.pair (.pair (.str) (.pair (.int .i64) (.pair (.int .i64) (.pair (.slice (.pair (.int .i64) (.pair (.str) (.pair (.int .i64) (.unit))))) (.pair (.int .i64) (.pair (.pair (.int .i64) (.pair (.int .i64) (.pair (.slice (.pair (.bool) (.pair (.int .i64) (.pair (.int .i64) (.unit))))) (.unit)))) (.pair (.pair (.int .i64) (.pair (.int .i64) (.pair (.slice (.pair (.bool) (.pair (.int .i64) (.pair (.int .i64) (.unit))))) (.unit)))) (.pair (.slice (.pair (.int .i64) (.pair (.int .i64) (.pair (.int .i64) (.unit))))) (.unit))))))))) (.unit)))))))))
theorem shOf2 : shOf Try.prog 12 54 = some sh2 := by kernel_rfl
theorem own : ownKnob Try.prog.godebug = none := by kernel_rfl
theorem laidOut : laidOutB Try.prog = true := by kernel_rfl
def Walk : Prop := ∀ (c0 : Array Value) (c1 : Array Value) (a2 : Option Addr) (len2 cap2 : Nat) (w : World), Rel sh0 w (.agg c0 : Value).cells.toList → Rel sh1 w (.agg c1 : Value).cells.toList → Rel sh2 w (.slice a2 len2 cap2 : Value).cells.toList →
    Calls Try.prog 5 #[.agg c0, .agg c1, .slice a2 len2 cap2] w fun e w' => e = .returned (.bool true) ∧ Below w.heap.size w w'
set_option maxRecDepth 100000 in
theorem lifted (walk : Walk) (os : Os) (started : os.Started) (H : Type) (enc : TypeId × Value → H) :
    ReturnsInHanded {} Try.checked os 5 .any (Rows.rolloutPlansSpec.pre6 enc Try.prog Try.f5 Rows.rolloutPlansRow.domain false) (Rows.rolloutPlansSpec.post enc Try.prog Try.f5 false true false false) := by
  refine returnsInHanded_of_change (C := Try.checked) own started (by kernel_rfl) Try.func5
    (ChangeSpec.witness6 (enc := enc) (C := Try.checked) false ⟨#[], #[.agg #[.int .i64 0, .int .i64 0], .agg #[.int .i64 0, .string ⟨#[]⟩, .int .u64 0, .int .i64 0, .int .i64 0, .int .i64 0, .slice none 0 0, .slice none 0 0, .slice none 0 0, .int .i64 0, .string ⟨#[]⟩, .string ⟨#[]⟩, .int .i64 0, .int .i64 0, .int .i64 0, .int .i64 0, .slice none 0 0, .slice none 0 0, .slice none 0 0, .int .i64 0, .string ⟨#[]⟩, .int .i64 0, .int .i64 0, .slice none 0 0, .slice none 0 0, .int .i64 0, .bool false, .int .i64 0, .int .i64 0, .int .i64 0, .int .i64 0, .int .i64 0, .slice none 0 0, .slice none 0 0, .int .i64 0, .string ⟨#[]⟩, .int .i64 0, .int .i64 0, .slice none 0 0, .int .i64 0, .int .i64 0, .int .i64 0, .slice none 0 0, .int .i64 0, .int .i64 0, .slice none 0 0, .slice none 0 0], .slice none 0 0], []⟩ 12 (by kernel_rfl) (by kernel_rfl) (by kernel_rfl) (by kernel_rfl)) ?_
  intro W base args ds gs before hval0 hW hcnd _
  have hval : ∀ (j : Nat) t v, Try.f5.params[j]? = some t → args[j]? = some v → Value.okWide Try.prog W .any base t v := hval0
  have hW' := hW
  obtain ⟨p, q, hA0, hV, rfl, hfz, hnd⟩ := hW
  have hA : DataW.TrodAll enc Try.prog W 0 (fun _ => true) true Try.f5.params.toList args.toList ds p := hA0
  rw [Try.params5] at hA hval
  obtain ⟨v0, vs0, d0, ds0, p0, q0, hargs, rfl, rfl, h0, r0⟩ := trodAll_cons hA
  obtain ⟨v1, vs1, d1, ds1, p1, q1, rfl, rfl, rfl, h1, r1⟩ := trodAll_cons r0
  obtain ⟨v2, vs2, d2, ds2, p2, q2, rfl, rfl, rfl, h2, r2⟩ := trodAll_cons r1
  obtain ⟨rfl, rfl, rfl⟩ := trodAll_nil r2
  obtain rfl : args = #[v0, v1, v2] := by cases args; simp_all
  obtain ⟨rfl, rfl⟩ := trodVars_none hV
  obtain ⟨c0, rfl, hc0⟩ := okWide_struct Try.underlying67 (hval 0 67 v0 rfl rfl)
  have k0 := h0
  have lt0 : ∀ x ∈ p0, x.block < W.heap.size := by obtain ⟨m, hm⟩ := k0; exact DataW.trod_lt m _ _ _ hm
  have w0 : Rel sh0 W (.agg c0 : Value).cells.toList := by obtain ⟨fuel, hf⟩ := h0; exact rel_of_trod 12 shOf0 hf
  obtain ⟨c1, rfl, hc1⟩ := okWide_struct Try.underlying44 (hval 1 44 v1 rfl rfl)
  have k1 := h1
  have lt1 : ∀ x ∈ p1, x.block < W.heap.size := by obtain ⟨m, hm⟩ := k1; exact DataW.trod_lt m _ _ _ hm
  have w1 : Rel sh1 W (.agg c1 : Value).cells.toList := by obtain ⟨fuel, hf⟩ := h1; exact rel_of_trod 12 shOf1 hf
  obtain ⟨a2, len2, cap2, rfl⟩ := okWide_slice Try.underlying54 (hval 2 54 v2 rfl rfl)
  have k2 := h2
  have lt2 : ∀ x ∈ p2, x.block < W.heap.size := by obtain ⟨m, hm⟩ := k2; exact DataW.trod_lt m _ _ _ hm
  have w2 : Rel sh2 W (.slice a2 len2 cap2 : Value).cells.toList := by obtain ⟨fuel, hf⟩ := h2; exact rel_of_trod 12 shOf2 hf
  clear hA0 hval0
  refine (walk c0 c1 a2 len2 cap2 W w0 w1 w2).mono fun e W' ⟨he, bel⟩ => ?_
  subst he
  exact ⟨_, rfl, _, _, _, [], _, [], hW', trodAll_mk1 (shut_bool Try.underlying4 _), (trodAll_cons_mk (Below.trod laidOut (by kernel_rfl) (of_decide_eq_true (by kernel_rfl)) k0 bel lt0) (trodAll_cons_mk (Below.trod laidOut (by kernel_rfl) (of_decide_eq_true (by kernel_rfl)) k1 bel lt1) (trodAll_cons_mk (Below.trod laidOut (by kernel_rfl) (of_decide_eq_true (by kernel_rfl)) k2 bel lt2) trodAll_mk0))), rfl, bel.frame _, fun h => by cases h⟩

theorem over (walk : Walk) : Rows.RolloutPlansSaid :=
  OpenClaim.holds_of_wide 5 Try.f5 rfl rfl rfl rfl rfl rfl rfl ⟨rfl, rfl, rfl, rfl, rfl⟩ rfl rfl rfl rfl rfl (by kernel_rfl) Try.func5 (by kernel_rfl)
    (of_decide_eq_true (by kernel_rfl)) (by unfold Func.isWrapper; first | (rw [if_pos (by decide +kernel)]; kernel_rfl) | (rw [if_neg (by decide +kernel)]; exact ⟨rfl, rfl⟩))
    (fun os started H enc _ => lifted walk os started H enc)
end Go.Proofs.Ytpbppgfogepjeaa.lRolloutPlans
namespace Go.Proofs.Ytpbppgfogepjeaa
open Go.ChangeShapes Go.WideShapes Go.ChangeAt Go.RowKit Go.Deep

section
variable {P : Program} {ops : Array Oper} {C : World → Prop}
theorem wpVal_oneG {Q : Act → Prop} {a : Act} {o : Oper} {rest : List Oper} (hg : Region.wanted o (yielded ops a.tmps) = true) (h : ∀ K : Act → Prop, (∀ a, wpVal P ops C Q rest a → K a) → ∃ v, (∀ w, (execOp a.eval o).run P w = .ok (.value v) w) ∧ K (a.put o.dst v)) : wpVal P ops C Q (o :: rest) a := by
  obtain ⟨v, h1, h2⟩ := h _ (fun _ h => h)
  refine ⟨v, ?_, h2⟩
  rw [if_pos hg]
  exact fun w _ => h1 w
theorem wpVal_loadG {T : TypeId} {size : Nat} (A : AggOK P T size) {Q : Act → Prop} {a : Act} {o : Oper} {rest : List Oper} (hg : Region.wanted o (yielded ops a.tmps) = true) (x : Operand) (ho : o.op = .load T x) (p : Addr) (hx : a.eval x = .pointer (some p))
    (cs : List Value) (hs : cs.length = size) (hc : ∀ w, C w → ∀ j u, cs[j]? = some u → w.cell? (p.add j) = some u) (h : ∀ K : Act → Prop, (∀ a, wpVal P ops C Q rest a → K a) → K (a.put o.dst (.agg cs.toArray))) : wpVal P ops C Q (o :: rest) a := by
  refine ⟨.agg cs.toArray, ?_, h _ (fun _ h => h)⟩
  rw [if_pos hg]
  intro w hw
  have hw := hw (by rw [ho]; rfl)
  unfold execOp
  simp only [ho, hx, Instr.loadAt, Instr.sureAddr, Sem.run_bind, Sem.run_pure, Result.andThen_ok, run_loadVar_at A w p cs hs (hc w hw)]
variable {b : Nat} {R : Act → World → Prop}
theorem wpLoud_oneG {j : Nat} {r : List Nat} {A : Act} {w : World} {o : Oper} (ho : ops[j]? = some o) (hg : Region.wanted o (yielded ops A.tmps) = true) (h : loudUpon P (fun v w' => (j < b → C w') ∧ wpLoud P ops C b R r (A.put o.dst v) w') ((execOp A.eval o).run P w)) : wpLoud P ops C b R (j :: r) A w := by
  unfold wpLoud
  simp only [ho]
  rw [if_pos hg]
  exact h
theorem wpLoud_callG {j : Nat} {r : List Nat} {A : Act} {w : World} {l : List Oper} {o : Oper} (ho : nthOp j l = some o) (hg : Region.wanted o (yielded l.toArray A.tmps) = true) (f : Nat) (args : List Operand) (ats : Array TypeId) (hop : o.op = .call { callee := .value (.func f), args := args.toArray, argTypes := ats }) {fn : Func} {c : Code} (hf : P.funcs[f]? = some fn)
    (hn : (fn.name == "runtime.NumGoroutine") = false) (hb : fn.body = some c) (vs : List Value) (hv : args.map A.eval = vs) (h : Calls P f vs.toArray w fun e w' => ∃ v, e = .returned v ∧ (j < b → C w') ∧ wpLoud P l.toArray C b R r (A.put o.dst v) w') : wpLoud P l.toArray C b R (j :: r) A w := by
  refine wpLoud_oneG (nthOp_spec ho) hg ?_
  have h2' : fn.name ≠ "runtime.NumGoroutine" := by simpa using hn
  have h3' : fn.body ≠ none := by rw [hb]; intro e; cases e
  have e2 : (execOp A.eval o).run P w = .ok (.enter f vs.toArray) w := by
    unfold execOp
    have e : (args.toArray.map A.eval) = vs.toArray := by rw [← hv]; simp
    simp only [hop, resolve, e]
    simp [Act.eval, Deferred.ofValue, invoke, callFunc, hf, h2', h3']
  rw [e2]
  exact h
end
end Go.Proofs.Ytpbppgfogepjeaa
