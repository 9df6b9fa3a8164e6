/- The step from the walk of PlaneNone to its row: for every input that reads, if the walk returns true and leaves old memory alone, the row holds. Condition: the walk, which is a hypothesis of the lemma. -/
import Derived.Test.YtcjehedciijhfaaGreatDoorRows
import Derived.Test.YtcjehedciijhfaaGreatDoorBase
import Derived.SizedLaws
import Derived.Lib.SmallJoins
import Derived.Test.YtcjehedciijhfaaGreatDoorLaidLift
import Derived.Test.YtcjehedciijhfaaGreatDoorTabsM
namespace Go.Proofs.YtcjehedciijhfaaGreatDoor.lPlaneNone
open Go.ChangeShapes Go.WideShapes Go.ChangeAt Go.RowKit Go.Joins
open Go.ChangeMaps (open_string shut_string)
set_option linter.unusedVariables false

def sh0 : Sh := .pair (.int .i64) (.pair (.int .i64) (.pair (.str) (.pair (.str) (.pair (.int .u64) (.pair (.pair (.int .i64) (.pair (.str) (.pair (.int .u64) (.pair (.pair (.int .i64) (.pair (.pair (.int .i64) (.pair (.int .i64) (.unit))) (.pair (.slice (.pair (.str) (.pair (.str) (.unit)))) (.pair (.slice (.pair (.str) (.pair (.str) (.pair (.int .i64) (.unit))))) (.pair (.slice (.pair (.str) (.pair (.str) (.unit)))) (.pair (.int .i64) (.unit))))))) (.pair (.pair (.str) (.pair (.str) (.pair (.int .i64) (.pair (.int .i64) (.pair (.pair (.int .i64) (.pair (.int .i64) (.unit))) (.pair (.slice (.pair (.str) (.pair (.str) (.unit)))) (.pair (.slice (.pair (.str) (.pair (.str) (.pair (.int .i64) (.unit))))) (.pair (.slice (.pair (.str) (.pair (.str) (.unit)))) (.pair (.int .i64) (.unit)))))))))) (.pair (.pair (.str) (.pair (.pair (.int .i64) (.pair (.int .i64) (.unit))) (.pair (.slice (.pair (.str) (.pair (.str) (.unit)))) (.pair (.slice (.pair (.str) (.pair (.str) (.unit)))) (.pair (.int .i64) (.pair (.bool) (.unit))))))) (.pair (.pair (.int .i64) (.pair (.int .i64) (.pair (.int .i64) (.pair (.pair (.int .i64) (.pair (.int .i64) (.unit))) (.pair (.slice (.pair (.str) (.pair (.str) (.unit)))) (.pair (.slice (.pair (.str) (.pair (.str) (.unit)))) (.pair (.int .i64) (.unit)))))))) (.pair (.pair (.str) (.pair (.int .i64) (.pair (.int .i64) (.pair (.slice (.pair (.int .i64) (.pair (.str) (.pair (.int .i64) (.unit))))) (.pair (.int .i64) (.pair (.pair (.int .i64) (.pair (.int .i64) (.pair (.slice (.pair (.bool) (.pair (.int .i64) (.pair (.int .i64) (.unit))))) (.unit)))) (.pair (.pair (.int .i64) (.pair (.int .i64) (.pair (.slice (.pair (.bool) (.pair (.int .i64) (.pair (.int .i64) (.unit))))) (.unit)))) (.pair (.slice (.pair (.int .i64) (.pair (.int .i64) (.pair (.int .i64) (.unit))))) (.unit))))))))) (.unit))))))))) (.pair (.pair (.int .i64) (.pair (.int .i64) (.pair (.bool) (.pair (.int .i64) (.unit))))) (.pair (.int .i64) (.unit))))))))
theorem shOf0 : shOf Tryz.prog 12 82 = some sh0 := by kernel_rfl
theorem own : ownKnob Tryz.prog.godebug = none := by kernel_rfl
theorem laidOut : laidOutB Tryz.prog = true := by kernel_rfl
/-- What is asked of the walk. -/
def Walk : Prop := ∀ (c0 : Array Value) (w : World), Rel sh0 w (.agg c0 : Value).cells.toList → E.Laid w E.nG E.tabs →
    Calls Tryz.prog 5 #[.agg c0] w fun e w' => e = .returned (.bool true) ∧ Below w.heap.size w w'
noncomputable def datum3 : Array Value := #[.int .u8 0, .int .u8 1, .int .u8 28, .int .u8 2, .int .u8 29, .int .u8 14, .int .u8 24, .int .u8 3, .int .u8 30, .int .u8 22, .int .u8 20, .int .u8 15, .int .u8 25, .int .u8 17, .int .u8 4, .int .u8 8, .int .u8 31, .int .u8 27, .int .u8 13, .int .u8 23, .int .u8 21, .int .u8 19, .int .u8 16, .int .u8 7, .int .u8 26, .int .u8 12, .int .u8 18, .int .u8 6, .int .u8 11, .int .u8 5, .int .u8 10, .int .u8 9]
noncomputable def datum4 : Array Value := #[.int .u8 0, .int .u8 1, .int .u8 56, .int .u8 2, .int .u8 57, .int .u8 49, .int .u8 28, .int .u8 3, .int .u8 61, .int .u8 58, .int .u8 42, .int .u8 50, .int .u8 38, .int .u8 29, .int .u8 17, .int .u8 4, .int .u8 62, .int .u8 47, .int .u8 59, .int .u8 36, .int .u8 45, .int .u8 43, .int .u8 51, .int .u8 22, .int .u8 53, .int .u8 39, .int .u8 33, .int .u8 30, .int .u8 24, .int .u8 18, .int .u8 12, .int .u8 5, .int .u8 63, .int .u8 55, .int .u8 48, .int .u8 27, .int .u8 60, .int .u8 41, .int .u8 37, .int .u8 16, .int .u8 46, .int .u8 35, .int .u8 44, .int .u8 21, .int .u8 52, .int .u8 32, .int .u8 23, .int .u8 11, .int .u8 54, .int .u8 26, .int .u8 40, .int .u8 15, .int .u8 34, .int .u8 20, .int .u8 31, .int .u8 10, .int .u8 25, .int .u8 14, .int .u8 19, .int .u8 9, .int .u8 13, .int .u8 8, .int .u8 7, .int .u8 6]
noncomputable def datum1 : Array Value := #[.int .u64 1, .int .u64 10, .int .u64 100, .int .u64 1000, .int .u64 10000, .int .u64 100000, .int .u64 1000000, .int .u64 10000000, .int .u64 100000000, .int .u64 1000000000, .int .u64 10000000000, .int .u64 100000000000, .int .u64 1000000000000, .int .u64 10000000000000, .int .u64 100000000000000, .int .u64 1000000000000000, .int .u64 10000000000000000, .int .u64 100000000000000000, .int .u64 1000000000000000000, .int .u64 10000000000000000000]
noncomputable def lay (d : Array Value) : Obj → Obj
  | .cells _ t frozen => .cells d t frozen
  | o => o
noncomputable def laidWorld (os : Os) : World := { World.holding Tryz.prog os ⟨#[], #[], []⟩ with heap := ((((World.holding Tryz.prog os ⟨#[], #[], []⟩).heap).modify 3 (lay datum3)).modify 4 (lay datum4)).modify 1 (lay datum1) }
theorem laidWorld_met (os : Os) (args : Array Value) : laidMetH Tryz.prog Rows.planeNoneRow.laid ((laidWorld os).forCall (fun _ _ => 0) ⟨#[], args, []⟩).memory :=
  laidMetH_of_parts (show laidMet Tryz.prog Rows.planeNoneRow.laid _ from laidMet_of_run' 8 (by kernel_rfl) (by kernel_rfl)) (by kernel_rfl)
set_option maxRecDepth 100000 in
theorem lifted (walk : Walk) (os : Os) (started : os.Started) (H : Type) (enc : TypeId × Value → H) :
    ReturnsInHanded {} Tryz.checked os 5 .any (fun w args => (Rows.planeNoneSpec.pre enc Tryz.prog Tryz.f5 Rows.planeNoneRow.domain false w args ∧ laidMetH Tryz.prog Rows.planeNoneRow.laid w) ∧ sizedMet enc Tryz.prog Tryz.f5 (OpenSpec.ofChange Rows.planeNoneSpec) false w args) (Rows.planeNoneSpec.post enc Tryz.prog Tryz.f5 false true false false) := by
  refine returnsInHanded_of_change_laid (C := Tryz.checked) (laid := Rows.planeNoneRow.laid) (fun _ _ hh h => h.of_heap hh) own started (by kernel_rfl) Tryz.func5
    (ChangeSpec.witness_at (enc := enc) (C := Tryz.checked) (os := os) (X := fun w _ => laidMetH Tryz.prog Rows.planeNoneRow.laid w) false (laidWorld os) #[.agg #[.int .i64 0, .int .i64 0, .string ⟨#[]⟩, .string ⟨#[]⟩, .int .u64 0, .int .i64 0, .string ⟨#[]⟩, .int .u64 0, .int .i64 0, .int .i64 0, .int .i64 0, .slice none 0 0, .slice none 0 0, .slice none 0 0, .int .i64 0, .string ⟨#[]⟩, .string ⟨#[]⟩, .int .i64 0, .int .i64 0, .int .i64 0, .int .i64 0, .slice none 0 0, .slice none 0 0, .slice none 0 0, .int .i64 0, .string ⟨#[]⟩, .int .i64 0, .int .i64 0, .slice none 0 0, .slice none 0 0, .int .i64 0, .bool false, .int .i64 0, .int .i64 0, .int .i64 0, .int .i64 0, .int .i64 0, .slice none 0 0, .slice none 0 0, .int .i64 0, .string ⟨#[]⟩, .int .i64 0, .int .i64 0, .slice none 0 0, .int .i64 0, .int .i64 0, .int .i64 0, .slice none 0 0, .int .i64 0, .int .i64 0, .slice none 0 0, .slice none 0 0, .int .i64 0, .int .i64 0, .bool false, .int .i64 0, .int .i64 0]] 12 rfl (by kernel_rfl) (by kernel_rfl) (by kernel_rfl) (by kernel_rfl) (by kernel_rfl) (laidWorld_met os _)) ?_
  intro W base args ds gs before hval0 hW hcnd hsz0 hL hsh _
  have htab : E.Laid W E.nG E.tabs := E.tabs_laid hL hsh
  clear hL hsh
  have hval : ∀ (j : Nat) t v, Tryz.f5.params[j]? = some t → args[j]? = some v → Value.okWide Tryz.prog W .any base t v := hval0
  have hW' := hW
  obtain ⟨p, q, hA0, hV, rfl, hfz, hnd⟩ := hW
  have hA : DataW.TrodAll enc Tryz.prog W 0 (fun _ => true) true Tryz.f5.params.toList args.toList ds p := hA0
  rw [Tryz.params5] at hA hval
  obtain ⟨v0, vs0, d0, ds0, p0, q0, hargs, rfl, rfl, h0, r0⟩ := trodAll_cons hA
  obtain ⟨rfl, rfl, rfl⟩ := trodAll_nil r0
  obtain rfl : args = #[v0] := by cases args; simp_all
  obtain ⟨rfl, rfl⟩ := trodVars_none hV
  obtain ⟨c0, rfl, hc0⟩ := okWide_struct Tryz.underlying82 (hval 0 82 v0 rfl rfl)
  have k0 := h0
  have lt0 : ∀ x ∈ p0, x.block < W.heap.size := by obtain ⟨m, hm⟩ := k0; exact DataW.trod_lt m _ _ _ hm
  have w0 : Rel sh0 W (.agg c0 : Value).cells.toList := by obtain ⟨fuel, hf⟩ := h0; exact rel_of_trod 12 shOf0 hf
  clear hA0 hval0 hsz0
  refine (walk c0 W w0 htab).mono fun e W' ⟨he, bel⟩ => ?_
  subst he
  exact ⟨_, rfl, _, _, _, [], _, [], hW', trodAll_mk1 (shut_bool Tryz.underlying4 _), (trodAll_cons_mk (Below.trod laidOut (by kernel_rfl) (of_decide_eq_true (by kernel_rfl)) k0 bel lt0) trodAll_mk0), rfl, bel.frame _, fun h => by cases h⟩
theorem fnNamed : Tryz.prog.funcNamed Rows.planeNoneRow.func = some 5 := by kernel_rfl
theorem kMaps : mapsRowed Tryz.prog = true := by kernel_rfl
theorem kInPlace : (Rows.planeNoneRow.inPlace == Tryz.prog.inPlace 5) = true := by kernel_rfl
theorem kUnf : (Rows.planeNoneRow.unfollowed == Tryz.prog.unfollowed 5) = true := by kernel_rfl
theorem kRec : (Rows.planeNoneRow.recurses == Tryz.prog.recurses 5) = true := by kernel_rfl
theorem kNamed : (Rows.planeNoneRow.named == Tryz.prog.varsNamed 5) = true := by kernel_rfl
theorem and_in {a b : Bool} (ha : a = true) (hb : b = true) : (a && b) = true := by rw [ha, hb]; rfl
set_option maxHeartbeats 4000000 in
theorem closed : joinedFacts Tryz.prog 5 Tryz.f5 Rows.planeNoneSpec Rows.planeNoneRow = true := by
  unfold joinedFacts
  repeat' (with_reducible apply and_in)
  all_goals first | with_reducible exact laidOut | with_reducible exact kMaps | with_reducible exact kInPlace | with_reducible exact kUnf | with_reducible exact kRec | with_reducible exact kNamed | (as_aux_lemma => kernel_rfl)

theorem over (walk : Walk) : Rows.PlaneNoneSaid :=
  OpenClaim.holds_of_wide 5 Tryz.f5 rfl rfl rfl rfl rfl rfl rfl ⟨rfl, rfl, rfl, rfl, rfl⟩ rfl rfl rfl rfl rfl fnNamed Tryz.func5 closed
    (of_decide_eq_true (by kernel_rfl)) (by unfold Func.isWrapper; first | (rw [if_pos (by decide +kernel)]; kernel_rfl) | (rw [if_neg (by decide +kernel)]; exact ⟨rfl, rfl⟩))
    (fun os started H enc _ => lifted walk os started H enc)
end Go.Proofs.YtcjehedciijhfaaGreatDoor.lPlaneNone
