/- A map[uint64]int that counts words: looked up and stored. Condition: the map is the call's own. -/
import Derived.Test.YteolfpgdpajldaaGaugeSortsPlain
import Derived.Test.YteolfpgdpajldaaMap
namespace Go.Proofs.Yteolfpgdpajldaa
open Go.ChangeShapes Go.WideShapes Go.ChangeAt Go.RowKit Go.Deep Go.Maps

theorem u64Keyed : Keyed Try.prog 26 := int_keyed Try.underlying26
theorem u64_key (x : Nat) (hx : x < 18446744073709551616) : keyOf Try.prog 26 (.int .u64 (x : Nat)) = some (.int .u64 (x : Nat)) :=
  keyOf_int_mk Try.underlying26 (by
    have a : IntKind.u64.min = 0 := by rfl
    have b : IntKind.u64.max = 18446744073709551615 := by rfl
    simp [Lit.wf, a, b]
    omega)
theorem zeroInt (w : World) : (zeroValue 3).run Try.prog w = .ok (.int .i64 0) w := by kernel_rfl

/-- The map of block b holds at most n words, and says of each how often it was counted. -/
def CntIs (w : World) (b n : Nat) (c : Nat → Int) : Prop := ∃ m f, MapIs w Try.prog 26 b m f ∧ m ≤ n ∧ ∀ x : Nat, (f (.int .u64 (x : Nat))).getD (.int .i64 0) = .int .i64 (c x)

theorem CntIs.made (w : World) : CntIs (w.alloc (.map #[] 0)) w.heap.size 0 (fun _ => 0) := ⟨0, _, MapIs.made w _ _, Nat.le_refl _, fun _ => rfl⟩
theorem CntIs.below {w w' : World} {b n : Nat} {c : Nat → Int} (h : CntIs w b n c) (hb : Below w.heap.size w w') : CntIs w' b n c := let ⟨m, f, h1, h2⟩ := h; ⟨m, f, h1.below hb, h2⟩
theorem CntIs.fr {w w' : World} {b n : Nat} {c : Nat → Int} (h : CntIs w b n c) {S : Nat → Prop} (hf : Fr S w w') (hS : ¬ S b) : CntIs w' b n c := let ⟨m, f, h1, h2⟩ := h; ⟨m, f, h1.fr hf hS, h2⟩
theorem CntIs.lt {w : World} {b n : Nat} {c : Nat → Int} (h : CntIs w b n c) : b < w.heap.size := let ⟨_, _, h1, _⟩ := h; h1.lt
theorem CntIs.same {w : World} {b n : Nat} {c c' : Nat → Int} (h : CntIs w b n c) (he : ∀ x, c x = c' x) : CntIs w b n c' := let ⟨m, f, h1, h2, h3⟩ := h; ⟨m, f, h1, h2, fun x => by rw [h3, he]⟩

theorem CntIs.set {f : Lit → Option Value} {c : Nat → Int} (h : ∀ x : Nat, (f (.int .u64 (x : Nat))).getD (.int .i64 0) = .int .i64 (c x)) (k : Nat) (v : Int) (x : Nat) :
    (fset f (.int .u64 (k : Nat)) (.int .i64 v) (.int .u64 (x : Nat))).getD (.int .i64 0) = .int .i64 (if x = k then v else c x) := by
  unfold fset
  by_cases e : x = k
  · subst e
    have : (Lit.int .u64 (x : Nat)).sameKey (.int .u64 (x : Nat)) = true := by simp [Lit.sameKey]
    rw [if_pos this, if_pos rfl]
    rfl
  · have : (Lit.int .u64 (x : Nat)).sameKey (.int .u64 (k : Nat)) = false := Maps.sameKey_ne (by intro hh; injection hh with _ h2; exact e (by exact_mod_cast h2))
    rw [this, if_neg (by decide), if_neg e]
    exact h x
end Go.Proofs.Yteolfpgdpajldaa
