/- The step from the walk of ValidDefaults to its row: for every input that reads, if the walk returns true and leaves old memory alone, the row holds. Condition: the walk, which is a hypothesis of the lemma. -/
import Derived.Test.YtpbppgfogepjeaaRows
import Derived.Test.YtpbppgfogepjeaaBound
import Derived.SizedLaws
import Derived.Lib.SmallJoins
namespace Go.Proofs.Ytpbppgfogepjeaa.lValidDefaults
open Go.ChangeShapes Go.WideShapes Go.ChangeAt Go.RowKit Go.Joins
open Go.ChangeMaps (open_string shut_string)
set_option linter.unusedVariables false

def sh0 : Sh := .pair (.int .i64) (.pair (.str) (.pair (.int .u64) (.pair (.pair (.int .i64) (.pair (.pair (.int .i64) (.pair (.int .i64) (.unit))) (.pair (.slice (.pair (.str) (.pair (.str) (.unit)))) (.pair (.slice (.pair (.str) (.pair (.str) (.pair (.int .i64) (.unit))))) (.pair (.slice (.pair (.str) (.pair (.str) (.unit)))) (.pair (.int .i64) (.unit))))))) (.pair (.pair (.str) (.pair (.str) (.pair (.int .i64) (.pair (.int .i64) (.pair (.pair (.int .i64) (.pair (.int .i64) (.unit))) (.pair (.slice (.pair (.str) (.pair (.str) (.unit)))) (.pair (.slice (.pair (.str) (.pair (.str) (.pair (.int .i64) (.unit))))) (.pair (.slice (.pair (.str) (.pair (.str) (.unit)))) (.pair (.int .i64) (.unit)))))))))) (.pair (.pair (.str) (.pair (.pair (.int .i64) (.pair (.int .i64) (.unit))) (.pair (.slice (.pair (.str) (.pair (.str) (.unit)))) (.pair (.slice (.pair (.str) (.pair (.str) (.unit)))) (.pair (.int .i64) (.pair (.bool) (.unit))))))) (.pair (.pair (.int .i64) (.pair (.int .i64) (.pair (.int .i64) (.pair (.pair (.int .i64) (.pair (.int .i64) (.unit))) (.pair (.slice (.pair (.str) (.pair (.str) (.unit)))) (.pair (.slice (.pair (.str) (.pair (.str) (.unit)))) (.pair (.int .i64) (.unit)))))))) (.pair (.pair (.str) (.pair (.int .i64) (.pair (.int .i64) (.pair (.slice (.pair (.int .i64) (.pair (.str) (.pair (.int .i64) (.unit))))) (.pair (.int .i64) (.pair (.pair (.int .i64) (.pair (.int .i64) (.pair (.slice (.pair (.bool) (.pair (.int .i64) (.pair (.int .i64) (.unit))))) (.unit)))) (.pair (.pair (.int .i64) (.pair (.int .i64) (.pair (.slice (.pair (.bool) (.pair (.int .i64) (.pair (.int .i64) (.unit))))) (.unit)))) (.pair (.slice (.pair (.int .i64) (.pair (.int .i64) (.pair (.int .i64) (.unit))))) (.unit))))))))) (.unit))))))))
theorem shOf0 : shOf Try.prog 12 44 = some sh0 := by kernel_rfl
theorem own : ownKnob Try.prog.godebug = none := by kernel_rfl
theorem laidOut : laidOutB Try.prog = true := by kernel_rfl
def Walk : Prop := ∀ (c0 : Array Value) (w : World), Rel sh0 w (.agg c0 : Value).cells.toList → Bd sh0 w (.agg c0 : Value).cells.toList →
    Calls Try.prog 3 #[.agg c0] w fun e w' => e = .returned (.bool true) ∧ Below w.heap.size w w'
set_option maxRecDepth 100000 in
theorem lifted (walk : Walk) (os : Os) (started : os.Started) (H : Type) (enc : TypeId × Value → H) :
    ReturnsInHanded {} Try.checked os 3 .any (Rows.validDefaultsSpec.pre6 enc Try.prog Try.f3 Rows.validDefaultsRow.domain false) (Rows.validDefaultsSpec.post enc Try.prog Try.f3 false true false false) := by
  refine returnsInHanded_of_change_sized (C := Try.checked) own started (by kernel_rfl) Try.func3
    (ChangeSpec.witness6 (enc := enc) (C := Try.checked) false ⟨#[], #[.agg #[.int .i64 0, .string ⟨#[]⟩, .int .u64 0, .int .i64 0, .int .i64 0, .int .i64 0, .slice none 0 0, .slice none 0 0, .slice none 0 0, .int .i64 0, .string ⟨#[]⟩, .string ⟨#[]⟩, .int .i64 0, .int .i64 0, .int .i64 0, .int .i64 0, .slice none 0 0, .slice none 0 0, .slice none 0 0, .int .i64 0, .string ⟨#[]⟩, .int .i64 0, .int .i64 0, .slice none 0 0, .slice none 0 0, .int .i64 0, .bool false, .int .i64 0, .int .i64 0, .int .i64 0, .int .i64 0, .int .i64 0, .slice none 0 0, .slice none 0 0, .int .i64 0, .string ⟨#[]⟩, .int .i64 0, .int .i64 0, .slice none 0 0, .int .i64 0, .int .i64 0, .int .i64 0, .slice none 0 0, .int .i64 0, .int .i64 0, .slice none 0 0, .slice none 0 0]], []⟩ 12 (by kernel_rfl) (by kernel_rfl) (by kernel_rfl) (by kernel_rfl)) ?_
  intro W base args ds gs before hval0 hW hcnd hsz0 _
  have hval : ∀ (j : Nat) t v, Try.f3.params[j]? = some t → args[j]? = some v → Value.okWide Try.prog W .any base t v := hval0
  have hW' := hW
  obtain ⟨p, q, hA0, hV, rfl, hfz, hnd⟩ := hW
  have hA : DataW.TrodAll enc Try.prog W 0 (fun _ => true) true Try.f3.params.toList args.toList ds p := hA0
  have hsz : (DataW.weightsEach Try.prog (Try.f3.params.toList ++ Rows.validDefaultsSpec.plain.varTypes Try.prog) (ds ++ gs)).all (· ≤ reachBytes) = true := hsz0
  rw [Try.params3] at hA hval hsz
  obtain ⟨v0, vs0, d0, ds0, p0, q0, hargs, rfl, rfl, h0, r0⟩ := trodAll_cons hA
  obtain ⟨rfl, rfl, rfl⟩ := trodAll_nil r0
  obtain rfl : args = #[v0] := by cases args; simp_all
  obtain ⟨rfl, rfl⟩ := trodVars_none hV
  obtain ⟨c0, rfl, hc0⟩ := okWide_struct Try.underlying44 (hval 0 44 v0 rfl rfl)
  have k0 := h0
  have lt0 : ∀ x ∈ p0, x.block < W.heap.size := by obtain ⟨m, hm⟩ := k0; exact DataW.trod_lt m _ _ _ hm
  have w0 : Rel sh0 W (.agg c0 : Value).cells.toList := by obtain ⟨fuel, hf⟩ := h0; exact rel_of_trod 12 shOf0 hf
  have b0 : Bd sh0 W (.agg c0 : Value).cells.toList := by obtain ⟨fuel, hf⟩ := h0; exact bd_of_trod 12 shOf0 (by kernel_rfl) hf (fun m hm => of_decide_eq_true (List.all_eq_true.1 hsz m (DataW.weights_mem_each (j := 0) (t := 44) rfl rfl m hm)))
  clear hA0 hval0 hsz0
  refine (walk c0 W w0 b0).mono fun e W' ⟨he, bel⟩ => ?_
  subst he
  exact ⟨_, rfl, _, _, _, [], _, [], hW', trodAll_mk1 (shut_bool Try.underlying4 _), (trodAll_cons_mk (Below.trod laidOut (by kernel_rfl) (of_decide_eq_true (by kernel_rfl)) k0 bel lt0) trodAll_mk0), rfl, bel.frame _, fun h => by cases h⟩

theorem over (walk : Walk) : Rows.ValidDefaultsSaid :=
  OpenClaim.holds_of_wide 3 Try.f3 rfl rfl rfl rfl rfl rfl rfl ⟨rfl, rfl, rfl, rfl, rfl⟩ rfl rfl rfl rfl rfl (by kernel_rfl) Try.func3 (by kernel_rfl)
    (of_decide_eq_true (by kernel_rfl)) (by unfold Func.isWrapper; first | (rw [if_pos (by decide +kernel)]; kernel_rfl) | (rw [if_neg (by decide +kernel)]; exact ⟨rfl, rfl⟩))
    (fun os started H enc _ => lifted walk os started H enc)
end Go.Proofs.Ytpbppgfogepjeaa.lValidDefaults
