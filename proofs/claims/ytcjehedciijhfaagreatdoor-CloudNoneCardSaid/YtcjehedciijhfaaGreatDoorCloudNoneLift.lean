/- The step from the walk of CloudNone to its row: for every input that reads, if the walk returns true and leaves old memory alone, the row holds. Condition: the walk, which is a hypothesis of the lemma. -/
import Derived.Test.YtcjehedciijhfaaGreatDoorRows
import Derived.Test.YtcjehedciijhfaaGreatDoorBase
import Derived.SizedLaws
import Derived.Lib.SmallJoins
import Derived.Test.YtcjehedciijhfaaGreatDoorLaidLift
import Derived.Test.YtcjehedciijhfaaGreatDoorTabs
namespace Go.Proofs.YtcjehedciijhfaaGreatDoor.lCloudNone
open Go.ChangeShapes Go.WideShapes Go.ChangeAt Go.RowKit Go.Joins
open Go.ChangeMaps (open_string shut_string)
set_option linter.unusedVariables false

def sh0 : Sh := .str
theorem shOf0 : shOf Tryz.prog 12 9 = some sh0 := by kernel_rfl
def sh1 : Sh := .int .i64
theorem shOf1 : shOf Tryz.prog 12 3 = some sh1 := by kernel_rfl
def sh2 : Sh := .int .i64
theorem shOf2 : shOf Tryz.prog 12 2 = some sh2 := by kernel_rfl
theorem own : ownKnob Tryz.prog.godebug = none := by kernel_rfl
theorem laidOut : laidOutB Tryz.prog = true := by kernel_rfl
/-- What is asked of the walk. -/
def Walk : Prop := ∀ (s0 : ByteArray) (n1 : Int) (n2 : Int) (w : World), Rel sh0 w (.string s0 : Value).cells.toList → Rel sh1 w (.int .i64 n1 : Value).cells.toList → Rel sh2 w (.int .i64 n2 : Value).cells.toList → E.Laid w E.nG E.tabs →
    Calls Tryz.prog 3 #[.string s0, .int .i64 n1, .int .i64 n2] w fun e w' => e = .returned (.bool true) ∧ Below w.heap.size w w'
noncomputable def datum3 : Array Value := #[.int .u8 0, .int .u8 1, .int .u8 28, .int .u8 2, .int .u8 29, .int .u8 14, .int .u8 24, .int .u8 3, .int .u8 30, .int .u8 22, .int .u8 20, .int .u8 15, .int .u8 25, .int .u8 17, .int .u8 4, .int .u8 8, .int .u8 31, .int .u8 27, .int .u8 13, .int .u8 23, .int .u8 21, .int .u8 19, .int .u8 16, .int .u8 7, .int .u8 26, .int .u8 12, .int .u8 18, .int .u8 6, .int .u8 11, .int .u8 5, .int .u8 10, .int .u8 9]
noncomputable def datum4 : Array Value := #[.int .u8 0, .int .u8 1, .int .u8 56, .int .u8 2, .int .u8 57, .int .u8 49, .int .u8 28, .int .u8 3, .int .u8 61, .int .u8 58, .int .u8 42, .int .u8 50, .int .u8 38, .int .u8 29, .int .u8 17, .int .u8 4, .int .u8 62, .int .u8 47, .int .u8 59, .int .u8 36, .int .u8 45, .int .u8 43, .int .u8 51, .int .u8 22, .int .u8 53, .int .u8 39, .int .u8 33, .int .u8 30, .int .u8 24, .int .u8 18, .int .u8 12, .int .u8 5, .int .u8 63, .int .u8 55, .int .u8 48, .int .u8 27, .int .u8 60, .int .u8 41, .int .u8 37, .int .u8 16, .int .u8 46, .int .u8 35, .int .u8 44, .int .u8 21, .int .u8 52, .int .u8 32, .int .u8 23, .int .u8 11, .int .u8 54, .int .u8 26, .int .u8 40, .int .u8 15, .int .u8 34, .int .u8 20, .int .u8 31, .int .u8 10, .int .u8 25, .int .u8 14, .int .u8 19, .int .u8 9, .int .u8 13, .int .u8 8, .int .u8 7, .int .u8 6]
noncomputable def datum1 : Array Value := #[.int .u64 1, .int .u64 10, .int .u64 100, .int .u64 1000, .int .u64 10000, .int .u64 100000, .int .u64 1000000, .int .u64 10000000, .int .u64 100000000, .int .u64 1000000000, .int .u64 10000000000, .int .u64 100000000000, .int .u64 1000000000000, .int .u64 10000000000000, .int .u64 100000000000000, .int .u64 1000000000000000, .int .u64 10000000000000000, .int .u64 100000000000000000, .int .u64 1000000000000000000, .int .u64 10000000000000000000]
noncomputable def lay (d : Array Value) : Obj → Obj
  | .cells _ t frozen => .cells d t frozen
  | o => o
noncomputable def laidWorld (os : Os) : World := { World.holding Tryz.prog os ⟨#[], #[], []⟩ with heap := ((((World.holding Tryz.prog os ⟨#[], #[], []⟩).heap).modify 3 (lay datum3)).modify 4 (lay datum4)).modify 1 (lay datum1) }
theorem laidWorld_met (os : Os) (args : Array Value) : laidMetH Tryz.prog Rows.cloudNoneRow.laid ((laidWorld os).forCall (fun _ _ => 0) ⟨#[], args, []⟩).memory :=
  laidMetH_of_parts (show laidMet Tryz.prog Rows.cloudNoneRow.laid _ from laidMet_of_run' 8 (by kernel_rfl) (by kernel_rfl)) (by kernel_rfl)
set_option maxRecDepth 100000 in
theorem lifted (walk : Walk) (os : Os) (started : os.Started) (H : Type) (enc : TypeId × Value → H) :
    ReturnsInHanded {} Tryz.checked os 3 .any (fun w args => (Rows.cloudNoneSpec.pre enc Tryz.prog Tryz.f3 Rows.cloudNoneRow.domain false w args ∧ laidMetH Tryz.prog Rows.cloudNoneRow.laid w) ∧ sizedMet enc Tryz.prog Tryz.f3 (OpenSpec.ofChange Rows.cloudNoneSpec) false w args) (Rows.cloudNoneSpec.post enc Tryz.prog Tryz.f3 false true false false) := by
  refine returnsInHanded_of_change_laid (C := Tryz.checked) (laid := Rows.cloudNoneRow.laid) (fun _ _ hh h => h.of_heap hh) own started (by kernel_rfl) Tryz.func3
    (ChangeSpec.witness_at (enc := enc) (C := Tryz.checked) (os := os) (X := fun w _ => laidMetH Tryz.prog Rows.cloudNoneRow.laid w) false (laidWorld os) #[.string ⟨#[]⟩, .int .i64 0, .int .i64 0] 12 rfl (by kernel_rfl) (by kernel_rfl) (by kernel_rfl) (by kernel_rfl) (by kernel_rfl) (laidWorld_met os _)) ?_
  intro W base args ds gs before hval0 hW hcnd hsz0 hL hsh _
  have htab : E.Laid W E.nG E.tabs := E.tabs_laid hL hsh
  clear hL hsh
  have hval : ∀ (j : Nat) t v, Tryz.f3.params[j]? = some t → args[j]? = some v → Value.okWide Tryz.prog W .any base t v := hval0
  have hW' := hW
  obtain ⟨p, q, hA0, hV, rfl, hfz, hnd⟩ := hW
  have hA : DataW.TrodAll enc Tryz.prog W 0 (fun _ => true) true Tryz.f3.params.toList args.toList ds p := hA0
  rw [Tryz.params3] at hA hval
  obtain ⟨v0, vs0, d0, ds0, p0, q0, hargs, rfl, rfl, h0, r0⟩ := trodAll_cons hA
  obtain ⟨v1, vs1, d1, ds1, p1, q1, rfl, rfl, rfl, h1, r1⟩ := trodAll_cons r0
  obtain ⟨v2, vs2, d2, ds2, p2, q2, rfl, rfl, rfl, h2, r2⟩ := trodAll_cons r1
  obtain ⟨rfl, rfl, rfl⟩ := trodAll_nil r2
  obtain rfl : args = #[v0, v1, v2] := by cases args; simp_all
  obtain ⟨rfl, rfl⟩ := trodVars_none hV
  obtain ⟨s0, rfl⟩ := okWide_string Tryz.underlying9 (hval 0 9 v0 rfl rfl)
  have k0 := h0
  have lt0 : ∀ x ∈ p0, x.block < W.heap.size := by obtain ⟨m, hm⟩ := k0; exact DataW.trod_lt m _ _ _ hm
  have w0 : Rel sh0 W (.string s0 : Value).cells.toList := by obtain ⟨fuel, hf⟩ := h0; exact rel_of_trod 12 shOf0 hf
  obtain ⟨n1, rfl⟩ := okWide_int Tryz.underlying3 (hval 1 3 v1 rfl rfl)
  have k1 := h1
  have lt1 : ∀ x ∈ p1, x.block < W.heap.size := by obtain ⟨m, hm⟩ := k1; exact DataW.trod_lt m _ _ _ hm
  have w1 : Rel sh1 W (.int .i64 n1 : Value).cells.toList := by obtain ⟨fuel, hf⟩ := h1; exact rel_of_trod 12 shOf1 hf
  obtain ⟨n2, rfl⟩ := okWide_int Tryz.underlying2 (hval 2 2 v2 rfl rfl)
  have k2 := h2
  have lt2 : ∀ x ∈ p2, x.block < W.heap.size := by obtain ⟨m, hm⟩ := k2; exact DataW.trod_lt m _ _ _ hm
  have w2 : Rel sh2 W (.int .i64 n2 : Value).cells.toList := by obtain ⟨fuel, hf⟩ := h2; exact rel_of_trod 12 shOf2 hf
  clear hA0 hval0 hsz0
  refine (walk s0 n1 n2 W w0 w1 w2 htab).mono fun e W' ⟨he, bel⟩ => ?_
  subst he
  exact ⟨_, rfl, _, _, _, [], _, [], hW', trodAll_mk1 (shut_bool Tryz.underlying4 _), (trodAll_cons_mk (Below.trod laidOut (by kernel_rfl) (of_decide_eq_true (by kernel_rfl)) k0 bel lt0) (trodAll_cons_mk (Below.trod laidOut (by kernel_rfl) (of_decide_eq_true (by kernel_rfl)) k1 bel lt1) (trodAll_cons_mk (Below.trod laidOut (by kernel_rfl) (of_decide_eq_true (by kernel_rfl)) k2 bel lt2) trodAll_mk0))), rfl, bel.frame _, fun h => by cases h⟩
theorem fnNamed : Tryz.prog.funcNamed Rows.cloudNoneRow.func = some 3 := by kernel_rfl
theorem kMaps : mapsRowed Tryz.prog = true := by kernel_rfl
theorem kInPlace : (Rows.cloudNoneRow.inPlace == Tryz.prog.inPlace 3) = true := by kernel_rfl
theorem kUnf : (Rows.cloudNoneRow.unfollowed == Tryz.prog.unfollowed 3) = true := by kernel_rfl
theorem kRec : (Rows.cloudNoneRow.recurses == Tryz.prog.recurses 3) = true := by kernel_rfl
theorem kNamed : (Rows.cloudNoneRow.named == Tryz.prog.varsNamed 3) = true := by kernel_rfl
theorem and_in {a b : Bool} (ha : a = true) (hb : b = true) : (a && b) = true := by rw [ha, hb]; rfl
theorem closed : joinedFacts Tryz.prog 3 Tryz.f3 Rows.cloudNoneSpec Rows.cloudNoneRow = true := by
  unfold joinedFacts
  repeat' (with_reducible apply and_in)
  all_goals first | with_reducible exact laidOut | with_reducible exact kMaps | with_reducible exact kInPlace | with_reducible exact kUnf | with_reducible exact kRec | with_reducible exact kNamed | (as_aux_lemma => kernel_rfl)

theorem over (walk : Walk) : Rows.CloudNoneSaid :=
  OpenClaim.holds_of_wide 3 Tryz.f3 rfl rfl rfl rfl rfl rfl rfl ⟨rfl, rfl, rfl, rfl, rfl⟩ rfl rfl rfl rfl rfl fnNamed Tryz.func3 closed
    (of_decide_eq_true (by kernel_rfl)) (by unfold Func.isWrapper; first | (rw [if_pos (by decide +kernel)]; kernel_rfl) | (rw [if_neg (by decide +kernel)]; exact ⟨rfl, rfl⟩))
    (fun os started H enc _ => lifted walk os started H enc)
end Go.Proofs.YtcjehedciijhfaaGreatDoor.lCloudNone
