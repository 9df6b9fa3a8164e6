/- Objects whose strings are as long as any. No condition. -/
import Derived.Test.YtmoeddpbmclckaaCheckSpec
import Derived.Test.YtmoeddpbmclckaaRefLabel
import Derived.Test.YtmoeddpbmclckaaObjRel
namespace Go.Proofs.Ytmoeddpbmclckaa
open Go.ChangeShapes Go.WideShapes Go.ChangeAt Go.RowKit Go.Deep

theorem refName_kept (s : ByteArray) (hn : s.size ≤ maxLen) (w : World) : Calls Try.prog 23 #[.string s] w fun e w' => e = .returned (.bool (nameOf s.data.toList)) ∧ Below w.heap.size w w' :=
  (refName_any s hn w).mono fun _ _ ⟨h1, h2⟩ => ⟨h1, h2 ▸ Below.refl _ _⟩
theorem pod_phase (p : Int) (e : Bool) : ((p == 3) || ((p == 0) == e)) = ((p == 3) || ((!e) == (p != 0))) := by
  by_cases h : p = 0
  · subst h; cases e <;> rfl
  · have h1 : (p == 0) = false := by simpa using h
    have h2 : (p != 0) = true := by simpa using h
    rw [h1, h2]
    cases e <;> rfl
theorem group_min (g : GroupV) : groupOk g = ((((((((decide (0 ≤ g.min) && decide (g.min ≤ g.target)) && decide (g.target ≤ g.max)) && decide (g.max ≤ 64)) && sizeOk g.cpu g.mem) && labelsOk g.L.xs) && labelsOk g.T.xs) && decide (0 ≤ g.prio)) && decide (g.prio ≤ 1000)) := by
  unfold groupOk btw
  rw [Bool.eq_iff_iff]
  simp only [Bool.and_eq_true, decide_eq_true_eq]
  constructor
  · rintro ⟨h1, h2, h3, ⟨h4, h5⟩, h6, h7, h8, h9, h10⟩
    exact ⟨⟨⟨⟨⟨⟨⟨⟨h1, h4⟩, h5⟩, h3⟩, h6⟩, h7⟩, h8⟩, h9⟩, h10⟩
  · rintro ⟨⟨⟨⟨⟨⟨⟨⟨h1, h4⟩, h5⟩, h3⟩, h6⟩, h7⟩, h8⟩, h9⟩, h10⟩
    exact ⟨h1, by omega, h3, ⟨h4, h5⟩, h6, h7, h8, h9, h10⟩
end Go.Proofs.Ytmoeddpbmclckaa
