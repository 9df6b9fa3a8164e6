/- The step from the walk of ScrapePlays to its row: for every input that reads, if the walk returns true and leaves old memory alone, the row holds. Condition: the walk, which is a hypothesis of the lemma. -/
import Derived.Test.YtoamjihchmokcaaRows
import Derived.Test.YtoamjihchmokcaaBase
import Derived.SizedLaws
import Derived.Lib.SmallJoins
namespace Go.Proofs.Ytoamjihchmokcaa.lScrapePlays
open Go.ChangeShapes Go.WideShapes Go.ChangeAt Go.RowKit Go.Joins
open Go.ChangeMaps (open_string shut_string)
set_option linter.unusedVariables false

def sh0 : Sh := .pair (.int .i64) (.pair (.int .i64) (.unit))
theorem shOf0 : shOf Try.prog 12 23 = some sh0 := by kernel_rfl
def sh1 : Sh := .slice (.pair (.int .i64) (.pair (.int .i64) (.pair (.pair (.str) (.pair (.str) (.unit))) (.pair (.int .u64) (.unit)))))
theorem shOf1 : shOf Try.prog 12 24 = some sh1 := by kernel_rfl
def sh2 : Sh := .slice (.int .i64)
theorem shOf2 : shOf Try.prog 12 25 = some sh2 := by kernel_rfl
theorem own : ownKnob Try.prog.godebug = none := by kernel_rfl
theorem laidOut : laidOutB Try.prog = true := by kernel_rfl
def Walk : Prop := ∀ (c0 : Array Value) (a1 : Option Addr) (len1 cap1 : Nat) (a2 : Option Addr) (len2 cap2 : Nat) (w : World), Rel sh0 w (.agg c0 : Value).cells.toList → Rel sh1 w (.slice a1 len1 cap1 : Value).cells.toList → Rel sh2 w (.slice a2 len2 cap2 : Value).cells.toList →
    Calls Try.prog 3 #[.agg c0, .slice a1 len1 cap1, .slice a2 len2 cap2] w fun e w' => e = .returned (.bool true) ∧ Below w.heap.size w w'
set_option maxRecDepth 100000 in
theorem lifted (walk : Walk) (os : Os) (started : os.Started) (H : Type) (enc : TypeId × Value → H) :
    ReturnsInHanded {} Try.checked os 3 .any (Rows.scrapePlaysSpec.pre6 enc Try.prog Try.f3 Rows.scrapePlaysRow.domain false) (Rows.scrapePlaysSpec.post enc Try.prog Try.f3 false true false false) := by
  refine returnsInHanded_of_change (C := Try.checked) own started (by kernel_rfl) Try.func3
    (ChangeSpec.witness6 (enc := enc) (C := Try.checked) false ⟨#[], #[.agg #[.int .i64 0, .int .i64 0], .slice none 0 0, .slice none 0 0], []⟩ 12 (by kernel_rfl) (by kernel_rfl) (by kernel_rfl) (by kernel_rfl)) ?_
  intro W base args ds gs before hval0 hW hcnd _
  have hval : ∀ (j : Nat) t v, Try.f3.params[j]? = some t → args[j]? = some v → Value.okWide Try.prog W .any base t v := hval0
  have hW' := hW
  obtain ⟨p, q, hA0, hV, rfl, hfz, hnd⟩ := hW
  have hA : DataW.TrodAll enc Try.prog W 0 (fun _ => true) true Try.f3.params.toList args.toList ds p := hA0
  rw [Try.params3] at hA hval
  obtain ⟨v0, vs0, d0, ds0, p0, q0, hargs, rfl, rfl, h0, r0⟩ := trodAll_cons hA
  obtain ⟨v1, vs1, d1, ds1, p1, q1, rfl, rfl, rfl, h1, r1⟩ := trodAll_cons r0
  obtain ⟨v2, vs2, d2, ds2, p2, q2, rfl, rfl, rfl, h2, r2⟩ := trodAll_cons r1
  obtain ⟨rfl, rfl, rfl⟩ := trodAll_nil r2
  obtain rfl : args = #[v0, v1, v2] := by cases args; simp_all
  obtain ⟨rfl, rfl⟩ := trodVars_none hV
  obtain ⟨c0, rfl, hc0⟩ := okWide_struct Try.underlying23 (hval 0 23 v0 rfl rfl)
  have k0 := h0
  have lt0 : ∀ x ∈ p0, x.block < W.heap.size := by obtain ⟨m, hm⟩ := k0; exact DataW.trod_lt m _ _ _ hm
  have w0 : Rel sh0 W (.agg c0 : Value).cells.toList := by obtain ⟨fuel, hf⟩ := h0; exact rel_of_trod 12 shOf0 hf
  obtain ⟨a1, len1, cap1, rfl⟩ := okWide_slice Try.underlying24 (hval 1 24 v1 rfl rfl)
  have k1 := h1
  have lt1 : ∀ x ∈ p1, x.block < W.heap.size := by obtain ⟨m, hm⟩ := k1; exact DataW.trod_lt m _ _ _ hm
  have w1 : Rel sh1 W (.slice a1 len1 cap1 : Value).cells.toList := by obtain ⟨fuel, hf⟩ := h1; exact rel_of_trod 12 shOf1 hf
  obtain ⟨a2, len2, cap2, rfl⟩ := okWide_slice Try.underlying25 (hval 2 25 v2 rfl rfl)
  have k2 := h2
  have lt2 : ∀ x ∈ p2, x.block < W.heap.size := by obtain ⟨m, hm⟩ := k2; exact DataW.trod_lt m _ _ _ hm
  have w2 : Rel sh2 W (.slice a2 len2 cap2 : Value).cells.toList := by obtain ⟨fuel, hf⟩ := h2; exact rel_of_trod 12 shOf2 hf
  clear hA0 hval0
  refine (walk c0 a1 len1 cap1 a2 len2 cap2 W w0 w1 w2).mono fun e W' ⟨he, bel⟩ => ?_
  subst he
  exact ⟨_, rfl, _, _, _, [], _, [], hW', trodAll_mk1 (shut_bool Try.underlying4 _), (trodAll_cons_mk (Below.trod laidOut (by kernel_rfl) (of_decide_eq_true (by kernel_rfl)) k0 bel lt0) (trodAll_cons_mk (Below.trod laidOut (by kernel_rfl) (of_decide_eq_true (by kernel_rfl)) k1 bel lt1) (trodAll_cons_mk (Below.trod laidOut (by kernel_rfl) (of_decide_eq_true (by kernel_rfl)) k2 bel lt2) trodAll_mk0))), rfl, bel.frame _, fun h => by cases h⟩

theorem over (walk : Walk) : Rows.ScrapePlaysSaid :=
  OpenClaim.holds_of_wide 3 Try.f3 rfl rfl rfl rfl rfl rfl rfl ⟨rfl, rfl, rfl, rfl, rfl⟩ rfl rfl rfl rfl rfl (by kernel_rfl) Try.func3 (by kernel_rfl)
    (of_decide_eq_true (by kernel_rfl)) (by unfold Func.isWrapper; first | (rw [if_pos (by decide +kernel)]; kernel_rfl) | (rw [if_neg (by decide +kernel)]; exact ⟨rfl, rfl⟩))
    (fun os started H enc _ => lifted walk os started H enc)
end Go.Proofs.Ytoamjihchmokcaa.lScrapePlays
