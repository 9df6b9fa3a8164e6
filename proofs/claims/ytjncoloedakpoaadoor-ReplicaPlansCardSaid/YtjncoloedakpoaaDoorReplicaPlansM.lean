/- The plain wrap for a row that lists variables: the list and the world's shape are handed on. No condition. || The library's table lies in every world that fits. Condition: the row's own list. || The step from the walk of ReplicaPlans to its row: for every input that reads, if the walk returns true and leaves old memory alone, the row holds. Condition: the walk, which is a hypothesis of the lemma. || ReplicaPlans: what a pass over a workload would create and delete is what the document says. Conditions: none. -/
import Derived.Handed
import Derived.SizedLaws
import Derived.LaidLaws
import Derived.LaidHandle
import Derived.Test.YtjncoloedakpoaaDoorPodName
import Derived.Test.YtjncoloedakpoaaDoorRows
import Derived.Lib.LaidTab
import Derived.Stop.LaidErr
import Derived.Test.YtjncoloedakpoaaDoorBase
import Derived.Lib.SmallJoins
import Derived.Test.YtjncoloedakpoaaDoorRepCore
namespace Go.Proofs.YtjncoloedakpoaaDoor
open Go

theorem returnsInHanded_of_change_laid {H : Type} {enc : TypeId × Value → H} {a : Assume} {C : Checked} {os : Os} {f : FuncId} {fn : Func} {s : ChangeSpec} {conds : List PathCond} {apart fresh handsOn again : Bool} {laid : List (String × DataW Unit)}
    (hX : ∀ (w w' : World), w.heap = w'.heap → laidMetH C.prog laid w → laidMetH C.prog laid w')
    (own : ownKnob C.prog.godebug = none) (started : os.Started) (noInit : C.prog.inits.idxOf? f = none) (hfn : C.prog.funcs[f]? = some fn)
    (witness : ∃ (w : World) (tape : Tape) (i : Input), w.os = os ∧ (w.forCall tape i).Shaped C.prog ∧ i.vars = [] ∧ Input.okWide C.prog (w.forCall tape i) .any w.heap.size f i ∧
      ((s.pre enc C.prog fn conds apart (w.forCall tape i).memory i.args ∧ laidMetH C.prog laid (w.forCall tape i).memory) ∧ sizedMet enc C.prog fn (OpenSpec.ofChange s) apart (w.forCall tape i).memory i.args) ∧ a.holds C.prog (lone (Frame.enter C.prog f i.args .normal) [] (w.forCall tape i)))
    (contract : ∀ (W : World) (base : Nat) (args : Array Value) (ds gs : List (DataW H)) (before : List MemPlace),
      (∀ (j : Nat) t v, fn.params[j]? = some t → args[j]? = some v → Value.okWide C.prog W .any base t v) →
      DataW.Whole enc C.prog fn.params.toList s.vars apart W args.toList ds gs before →
      conds.all (PathCond.test C.prog ⟨fn.params.toList, ds, s.plain.varTypes C.prog, gs⟩) = true →
      (DataW.weightsEach C.prog (fn.params.toList ++ s.plain.varTypes C.prog) (ds ++ gs)).all (· ≤ reachBytes) = true → laidMetH C.prog laid W → W.ShapedOpen C.prog →
      a.holds C.prog (lone (Frame.enter C.prog f args .normal) [] W) →
      Calls C.prog f args W fun e W' => ∃ v, e = .returned v ∧ s.post enc C.prog fn apart fresh handsOn again W args v W') :
    ReturnsInHanded a C os f .any (fun w args => (s.pre enc C.prog fn conds apart w args ∧ laidMetH C.prog laid w) ∧ sizedMet enc C.prog fn (OpenSpec.ofChange s) apart w args) (s.post enc C.prog fn apart fresh handsOn again) := by
  refine returnsInHanded_of_calls own started noInit witness ?_
  intro w tape i _ hsh _ hok hpre hholds
  obtain ⟨_, _, _, fn', hfn', _, _, _, _, hval⟩ := hok
  have e : fn' = fn := Option.some.inj (hfn'.symm.trans hfn)
  subst e
  obtain ⟨⟨⟨ds, gs, before, hw, hc⟩, hx⟩, hz⟩ := hpre
  have hw' := DataW.Whole.of_heap (w' := w.forCall tape i) (by rfl) hw
  refine (contract (w.forCall tape i) w.heap.size i.args ds gs before hval hw' hc (hz.weights hw) (hX _ _ (by rfl) hx) hsh hholds).mono fun e W' ⟨v, he, hp⟩ => ?_
  subst he
  exact ChangeSpec.post_blind hp
end Go.Proofs.YtjncoloedakpoaaDoor
namespace Go.Proofs.YtjncoloedakpoaaDoor.E
open Go.ChangeShapes Go.WideShapes Go.ChangeAt Go.RowKit Go.Deep

def nG : Nat := 3
def tabs : Unit := ()
def Laid (w : World) (_ : Nat) (_ : Unit) : Prop := LT w
def pow10s : List Int := [1, 10, 100, 1000, 10000, 100000, 1000000, 10000000, 100000000, 1000000000, 10000000000, 100000000000, 1000000000000, 10000000000000, 100000000000000, 1000000000000000, 10000000000000000, 100000000000000000, 1000000000000000000, 10000000000000000000]
theorem pow10s_is : pow10s = Lib.pow10Tab := by decide
theorem tabs_laid {W : World} (hL : laidMet Tryd.prog [("math/bits.deBruijn32tab", Rows.laid_math_bits_deBruijn32tab), ("math/bits.deBruijn64tab", Rows.laid_math_bits_deBruijn64tab), ("internal/strconv.uint64pow10", Rows.laid_internal_strconv_uint64pow10)] W) (_ : W.ShapedOpen Tryd.prog) : Laid W nG tabs := by
  have h1 : Lib.TabIs Tryd.prog W "internal/strconv.uint64pow10" .u64 pow10s := Lib.tabIs_of_head (g := 0) (t := 135) (e := 22) (n := 20) (by kernel_rfl) (by kernel_rfl) Tryd.underlying135 Tryd.underlying22 (by kernel_rfl) (by kernel_rfl) (laidMet.tail (laidMet.tail hL))
  rw [pow10s_is] at h1
  exact h1
end Go.Proofs.YtjncoloedakpoaaDoor.E
namespace Go.Proofs.YtjncoloedakpoaaDoor.lReplicaPlans
open Go.ChangeShapes Go.WideShapes Go.ChangeAt Go.RowKit Go.Joins
open Go.ChangeMaps (open_string shut_string)
set_option linter.unusedVariables false

def sh0 : Sh := .pair (.int .i64) (.pair (.str) (.pair (.int .u64) (.pair (.pair (.int .i64) (.pair (.pair (.int .i64) (.pair (.int .i64) (.unit))) (.pair (.slice (.pair (.str) (.pair (.str) (.unit)))) (.pair (.slice (.pair (.str) (.pair (.str) (.pair (.int .i64) (.unit))))) (.pair (.slice (.pair (.str) (.pair (.str) (.unit)))) (.pair (.int .i64) (.unit))))))) (.pair (.pair (.str) (.pair (.str) (.pair (.int .i64) (.pair (.int .i64) (.pair (.pair (.int .i64) (.pair (.int .i64) (.unit))) (.pair (.slice (.pair (.str) (.pair (.str) (.unit)))) (.pair (.slice (.pair (.str) (.pair (.str) (.pair (.int .i64) (.unit))))) (.pair (.slice (.pair (.str) (.pair (.str) (.unit)))) (.pair (.int .i64) (.unit)))))))))) (.pair (.pair (.str) (.pair (.pair (.int .i64) (.pair (.int .i64) (.unit))) (.pair (.slice (.pair (.str) (.pair (.str) (.unit)))) (.pair (.slice (.pair (.str) (.pair (.str) (.unit)))) (.pair (.int .i64) (.pair (.bool) (.unit))))))) (.pair (.pair (.int .i64) (.pair (.int .i64) (.pair (.int .i64) (.pair (.pair (.int .i64) (.pair (.int .i64) (.unit))) (.pair (.slice (.pair (.str) (.pair (.str) (.unit)))) (.pair (.slice (.pair (.str) (.pair (.str) (.unit)))) (.pair (.int .i64) (.unit)))))))) (.pair (.pair (.str) (.pair (.int .i64) (.pair (.int .i64) (.pair (.slice (.pair (.int .i64) (.pair (.str) (.pair (.int .i64) (.unit))))) (.pair (.int .i64) (.pair (.pair (.int .i64) (.pair (.int .i64) (.pair (.slice (.pair (.bool) (.pair (.int .i64) (.pair (.int .i64) (.unit))))) (.unit)))) (.pair (.pair (.int .i64) (.pair (.int .i64) (.pair (.slice (.pair (.bool) (.pair (.int .i64) (.pair (.int .i64) (.unit))))) (.unit)))) (.pair (.slice (.pair (.int .i64) (.pair (.int .i64) (.pair (.int .i64) (.unit))))) (.unit))))))))) (.unit))))))))
theorem shOf0 : shOf Tryd.prog 12 44 = some sh0 := by kernel_rfl
def sh1 : Sh := .slice (.pair (.int .i64) (.pair (.str) (.pair (.int .u64) (.pair (.pair (.int .i64) (.pair (.pair (.int .i64) (.pair (.int .i64) (.unit))) (.pair (.slice (.pair (.str) (.pair (.str) (.unit)))) (.pair (.slice (.pair (.str) (.pair (.str) (.pair (.int .i64) (.unit))))) (.pair (.slice (.pair (.str) (.pair (.str) (.unit)))) (.pair (.int .i64) (.unit))))))) (.pair (.pair (.str) (.pair (.str) (.pair (.int .i64) (.pair (.int .i64) (.pair (.pair (.int .i64) (.pair (.int .i64) (.unit))) (.pair (.slice (.pair (.str) (.pair (.str) (.unit)))) (.pair (.slice (.pair (.str) (.pair (.str) (.pair (.int .i64) (.unit))))) (.pair (.slice (.pair (.str) (.pair (.str) (.unit)))) (.pair (.int .i64) (.unit)))))))))) (.pair (.pair (.str) (.pair (.pair (.int .i64) (.pair (.int .i64) (.unit))) (.pair (.slice (.pair (.str) (.pair (.str) (.unit)))) (.pair (.slice (.pair (.str) (.pair (.str) (.unit)))) (.pair (.int .i64) (.pair (.bool) (.unit))))))) (.pair (.pair (.int .i64) (.pair (.int .i64) (.pair (.int .i64) (.pair (.pair (.int .i64) (.pair (.int .i64) (.unit))) (.pair (.slice (.pair (.str) (.pair (.str) (.unit)))) (.pair (.slice (.pair (.str) (.pair (.str) (.unit)))) (.pair (.int .i64) (.unit)))))))) (.pair (.pair (.str) (.pair (.int .i64) (.pair (.int .i64) (.pair (.slice (.pair (.int .i64) (.pair (.str) (.pair (.int .i64) (.unit))))) (.pair (.int .i64) (.pair (.pair (.int .i64) (.pair (.int .i64) (.pair (.slice (.pair (.bool) (.pair (.int .i64) (.pair (.int .i64) (.unit))))) (.unit)))) (.pair (.pair (.int .i64) (.pair (.int .i64) (.pair (.slice (.pair (.bool) (.pair (.int .i64) (.pair (.int .i64) (.unit))))) (.unit)))) (.pair (.slice (.pair (.int .i64) (.pair (.int .i64) (.pair (.int .i64) (.unit))))) (.unit))))))))) (.unit)))))))))
theorem shOf1 : shOf Tryd.prog 12 45 = some sh1 := by kernel_rfl
theorem own : ownKnob Tryd.prog.godebug = none := by kernel_rfl
theorem laidOut : laidOutB Tryd.prog = true := by kernel_rfl
def Walk : Prop := ∀ (c0 : Array Value) (a1 : Option Addr) (len1 cap1 : Nat) (w : World), Rel sh0 w (.agg c0 : Value).cells.toList → Rel sh1 w (.slice a1 len1 cap1 : Value).cells.toList → E.Laid w E.nG E.tabs →
    Calls Tryd.prog 3 #[.agg c0, .slice a1 len1 cap1] w fun e w' => e = .returned (.bool true) ∧ Below w.heap.size w w'
noncomputable def datum1 : Array Value := #[.int .u8 0, .int .u8 1, .int .u8 28, .int .u8 2, .int .u8 29, .int .u8 14, .int .u8 24, .int .u8 3, .int .u8 30, .int .u8 22, .int .u8 20, .int .u8 15, .int .u8 25, .int .u8 17, .int .u8 4, .int .u8 8, .int .u8 31, .int .u8 27, .int .u8 13, .int .u8 23, .int .u8 21, .int .u8 19, .int .u8 16, .int .u8 7, .int .u8 26, .int .u8 12, .int .u8 18, .int .u8 6, .int .u8 11, .int .u8 5, .int .u8 10, .int .u8 9]
noncomputable def datum2 : Array Value := #[.int .u8 0, .int .u8 1, .int .u8 56, .int .u8 2, .int .u8 57, .int .u8 49, .int .u8 28, .int .u8 3, .int .u8 61, .int .u8 58, .int .u8 42, .int .u8 50, .int .u8 38, .int .u8 29, .int .u8 17, .int .u8 4, .int .u8 62, .int .u8 47, .int .u8 59, .int .u8 36, .int .u8 45, .int .u8 43, .int .u8 51, .int .u8 22, .int .u8 53, .int .u8 39, .int .u8 33, .int .u8 30, .int .u8 24, .int .u8 18, .int .u8 12, .int .u8 5, .int .u8 63, .int .u8 55, .int .u8 48, .int .u8 27, .int .u8 60, .int .u8 41, .int .u8 37, .int .u8 16, .int .u8 46, .int .u8 35, .int .u8 44, .int .u8 21, .int .u8 52, .int .u8 32, .int .u8 23, .int .u8 11, .int .u8 54, .int .u8 26, .int .u8 40, .int .u8 15, .int .u8 34, .int .u8 20, .int .u8 31, .int .u8 10, .int .u8 25, .int .u8 14, .int .u8 19, .int .u8 9, .int .u8 13, .int .u8 8, .int .u8 7, .int .u8 6]
noncomputable def datum0 : Array Value := #[.int .u64 1, .int .u64 10, .int .u64 100, .int .u64 1000, .int .u64 10000, .int .u64 100000, .int .u64 1000000, .int .u64 10000000, .int .u64 100000000, .int .u64 1000000000, .int .u64 10000000000, .int .u64 100000000000, .int .u64 1000000000000, .int .u64 10000000000000, .int .u64 100000000000000, .int .u64 1000000000000000, .int .u64 10000000000000000, .int .u64 100000000000000000, .int .u64 1000000000000000000, .int .u64 10000000000000000000]
noncomputable def lay (d : Array Value) : Obj → Obj
  | .cells _ t frozen => .cells d t frozen
  | o => o
noncomputable def laidWorld (os : Os) : World := { World.holding Tryd.prog os ⟨#[], #[], []⟩ with heap := ((((World.holding Tryd.prog os ⟨#[], #[], []⟩).heap).modify 1 (lay datum1)).modify 2 (lay datum2)).modify 0 (lay datum0) }
theorem laidWorld_met (os : Os) (args : Array Value) : laidMetH Tryd.prog Rows.replicaPlansRow.laid ((laidWorld os).forCall (fun _ _ => 0) ⟨#[], args, []⟩).memory :=
  laidMetH_of_parts (show laidMet Tryd.prog Rows.replicaPlansRow.laid _ from laidMet_of_run' 8 (by kernel_rfl) (by kernel_rfl)) (by kernel_rfl)
set_option maxRecDepth 100000 in
theorem lifted (walk : Walk) (os : Os) (started : os.Started) (H : Type) (enc : TypeId × Value → H) :
    ReturnsInHanded {} Tryd.checked os 3 .any (fun w args => (Rows.replicaPlansSpec.pre enc Tryd.prog Tryd.f3 Rows.replicaPlansRow.domain false w args ∧ laidMetH Tryd.prog Rows.replicaPlansRow.laid w) ∧ sizedMet enc Tryd.prog Tryd.f3 (OpenSpec.ofChange Rows.replicaPlansSpec) false w args) (Rows.replicaPlansSpec.post enc Tryd.prog Tryd.f3 false true false false) := by
  refine returnsInHanded_of_change_laid (C := Tryd.checked) (laid := Rows.replicaPlansRow.laid) (fun _ _ hh h => h.of_heap hh) own started (by kernel_rfl) Tryd.func3
    (ChangeSpec.witness_at (enc := enc) (C := Tryd.checked) (os := os) (X := fun w _ => laidMetH Tryd.prog Rows.replicaPlansRow.laid w) false (laidWorld os) #[.agg #[.int .i64 0, .string ⟨#[]⟩, .int .u64 0, .int .i64 0, .int .i64 0, .int .i64 0, .slice none 0 0, .slice none 0 0, .slice none 0 0, .int .i64 0, .string ⟨#[]⟩, .string ⟨#[]⟩, .int .i64 0, .int .i64 0, .int .i64 0, .int .i64 0, .slice none 0 0, .slice none 0 0, .slice none 0 0, .int .i64 0, .string ⟨#[]⟩, .int .i64 0, .int .i64 0, .slice none 0 0, .slice none 0 0, .int .i64 0, .bool false, .int .i64 0, .int .i64 0, .int .i64 0, .int .i64 0, .int .i64 0, .slice none 0 0, .slice none 0 0, .int .i64 0, .string ⟨#[]⟩, .int .i64 0, .int .i64 0, .slice none 0 0, .int .i64 0, .int .i64 0, .int .i64 0, .slice none 0 0, .int .i64 0, .int .i64 0, .slice none 0 0, .slice none 0 0], .slice none 0 0] 12 rfl (by kernel_rfl) (by kernel_rfl) (by kernel_rfl) (by kernel_rfl) (by kernel_rfl) (laidWorld_met os _)) ?_
  intro W base args ds gs before hval0 hW hcnd hsz0 hL hsh _
  have htab : E.Laid W E.nG E.tabs := E.tabs_laid hL hsh
  clear hL hsh
  have hval : ∀ (j : Nat) t v, Tryd.f3.params[j]? = some t → args[j]? = some v → Value.okWide Tryd.prog W .any base t v := hval0
  have hW' := hW
  obtain ⟨p, q, hA0, hV, rfl, hfz, hnd⟩ := hW
  have hA : DataW.TrodAll enc Tryd.prog W 0 (fun _ => true) true Tryd.f3.params.toList args.toList ds p := hA0
  rw [Tryd.params3] at hA hval
  obtain ⟨v0, vs0, d0, ds0, p0, q0, hargs, rfl, rfl, h0, r0⟩ := trodAll_cons hA
  obtain ⟨v1, vs1, d1, ds1, p1, q1, rfl, rfl, rfl, h1, r1⟩ := trodAll_cons r0
  obtain ⟨rfl, rfl, rfl⟩ := trodAll_nil r1
  obtain rfl : args = #[v0, v1] := by cases args; simp_all
  obtain ⟨rfl, rfl⟩ := trodVars_none hV
  obtain ⟨c0, rfl, hc0⟩ := okWide_struct Tryd.underlying44 (hval 0 44 v0 rfl rfl)
  have k0 := h0
  have lt0 : ∀ x ∈ p0, x.block < W.heap.size := by obtain ⟨m, hm⟩ := k0; exact DataW.trod_lt m _ _ _ hm
  have w0 : Rel sh0 W (.agg c0 : Value).cells.toList := by obtain ⟨fuel, hf⟩ := h0; exact rel_of_trod 12 shOf0 hf
  obtain ⟨a1, len1, cap1, rfl⟩ := okWide_slice Tryd.underlying45 (hval 1 45 v1 rfl rfl)
  have k1 := h1
  have lt1 : ∀ x ∈ p1, x.block < W.heap.size := by obtain ⟨m, hm⟩ := k1; exact DataW.trod_lt m _ _ _ hm
  have w1 : Rel sh1 W (.slice a1 len1 cap1 : Value).cells.toList := by obtain ⟨fuel, hf⟩ := h1; exact rel_of_trod 12 shOf1 hf
  clear hA0 hval0 hsz0
  refine (walk c0 a1 len1 cap1 W w0 w1 htab).mono fun e W' ⟨he, bel⟩ => ?_
  subst he
  exact ⟨_, rfl, _, _, _, [], _, [], hW', trodAll_mk1 (shut_bool Tryd.underlying4 _), (trodAll_cons_mk (Below.trod laidOut (by kernel_rfl) (of_decide_eq_true (by kernel_rfl)) k0 bel lt0) (trodAll_cons_mk (Below.trod laidOut (by kernel_rfl) (of_decide_eq_true (by kernel_rfl)) k1 bel lt1) trodAll_mk0)), rfl, bel.frame _, fun h => by cases h⟩
theorem fnNamed : Tryd.prog.funcNamed Rows.replicaPlansRow.func = some 3 := by kernel_rfl
theorem kMaps : mapsRowed Tryd.prog = true := by kernel_rfl
theorem kInPlace : (Rows.replicaPlansRow.inPlace == Tryd.prog.inPlace 3) = true := by kernel_rfl
theorem kUnf : (Rows.replicaPlansRow.unfollowed == Tryd.prog.unfollowed 3) = true := by kernel_rfl
theorem kRec : (Rows.replicaPlansRow.recurses == Tryd.prog.recurses 3) = true := by kernel_rfl
theorem kNamed : (Rows.replicaPlansRow.named == Tryd.prog.varsNamed 3) = true := by kernel_rfl
theorem and_in {a b : Bool} (ha : a = true) (hb : b = true) : (a && b) = true := by rw [ha, hb]; rfl
set_option maxHeartbeats 4000000 in
theorem closed : joinedFacts Tryd.prog 3 Tryd.f3 Rows.replicaPlansSpec Rows.replicaPlansRow = true := by
  unfold joinedFacts
  repeat' (with_reducible apply and_in)
  all_goals first | with_reducible exact laidOut | with_reducible exact kMaps | with_reducible exact kInPlace | with_reducible exact kUnf | with_reducible exact kRec | with_reducible exact kNamed | (as_aux_lemma => kernel_rfl)

theorem over (walk : Walk) : Rows.ReplicaPlansSaid :=
  OpenClaim.holds_of_wide 3 Tryd.f3 rfl rfl rfl rfl rfl rfl rfl ⟨rfl, rfl, rfl, rfl, rfl⟩ rfl rfl rfl rfl rfl fnNamed Tryd.func3 closed
    (of_decide_eq_true (by kernel_rfl)) (by unfold Func.isWrapper; first | (rw [if_pos (by decide +kernel)]; kernel_rfl) | (rw [if_neg (by decide +kernel)]; exact ⟨rfl, rfl⟩))
    (fun os started H enc _ => lifted walk os started H enc)
end Go.Proofs.YtjncoloedakpoaaDoor.lReplicaPlans
namespace Go.Proofs.YtjncoloedakpoaaDoor
open Go.ChangeShapes Go.WideShapes Go.ChangeAt Go.RowKit Go.Deep

theorem obI_of16 {w : World} {c : Array Value} (h : Rel shObj w c.toList) : ∃ x : ObI, c = x.cells.toArray ∧ ObAt w x := by
  obtain ⟨kd, nm, ver, o, e0, hS, hM⟩ := obj_of_rel h
  refine ⟨⟨kd, nm, ver, o⟩, ?_, hS, hM⟩
  apply Array.ext'
  exact e0
theorem ReplicaPlans_row : Rows.ReplicaPlansSaid := lReplicaPlans.over fun c0 a1 l1 k1 w h0 h1 hT => by
  obtain ⟨x, rfl, hx⟩ := obI_of16 h0
  obtain ⟨ao, la, ca, l, e, hS, hA⟩ := rowOb_of h1
  simp [Value.cells] at e
  obtain ⟨rfl, rfl, rfl⟩ := e
  exact replicaPlans_core x l _ _ _ w hx hS hA hT
end Go.Proofs.YtjncoloedakpoaaDoor
