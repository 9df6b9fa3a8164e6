/- LabelMatches holds: for every input the law returns true and its arguments stay. No condition. -/
import Derived.Test.YtbhhjlnjhlagdaaLabelMatchesLift
import Derived.Test.YtbhhjlnjhlagdaaLabel2
import Derived.Test.YtbhhjlnjhlagdaaLabel3
namespace Go.Proofs.Ytbhhjlnjhlagdaa
open Go.ChangeShapes Go.WideShapes Go.ChangeAt Go.RowKit Go.Deep

theorem label_of (w : World) (c : List Value) (h : Rel (.pair .str (.pair .str .unit)) w c) : ∃ m, Flat Label.cells w m c := by
  obtain ⟨c1, c2, rfl, _, ⟨n1, rfl, _⟩, c3, c4, rfl, _, ⟨n2, rfl, _⟩, rfl⟩ := h
  exact ⟨⟨n1, n2⟩, rfl⟩
theorem require_of (w : World) (c : List Value) (h : Rel (.pair .str (.pair .str (.pair (.int .i64) .unit))) w c) : ∃ m, Flat Require.cells w m c := by
  obtain ⟨c1, c2, rfl, _, ⟨n1, rfl, _⟩, c3, c4, rfl, _, ⟨n2, rfl, _⟩, c5, c6, rfl, _, ⟨n3, rfl, _⟩, rfl⟩ := h
  exact ⟨⟨n1, n2, n3⟩, rfl⟩

theorem name_dash (w : World) : Calls Try.prog 53 #[.string ⟨#[45]⟩] w fun e w' => e = .returned (.bool false) ∧ w' = w := by
  go_enter Try.func53, Try.ntmps53
  go_wp2
  go_ret
  exact ⟨rfl, rfl⟩

def exL : List Label := [⟨⟨#[122, 111, 110, 101]⟩, ⟨#[97]⟩⟩]
def exR : List Require := [⟨⟨#[122, 111, 110, 101]⟩, ⟨#[97]⟩, 0⟩, ⟨⟨#[100, 105, 115, 107]⟩, ⟨#[]⟩, 3⟩]
theorem ex_ok : exR.all (holdsL exL) = true := by kernel_rfl

theorem lives05 (w : World) : Calls Try.prog 17 #[] w fun e w' => e = .returned (.bool true) ∧ Below w.heap.size w w' := by
  have hL0 := SlR.of_new (f := Label.cells) (sz := 2) w exL 40 #[.string ⟨#[122, 111, 110, 101]⟩, .string ⟨#[97]⟩] 1 rfl (by decide) (fun _ => rfl) rfl
  have b1 := (Below.refl w.heap.size w).alloc (Nat.le_refl _) (.cells #[.string ⟨#[122, 111, 110, 101]⟩, .string ⟨#[97]⟩] 40)
  have b2 := b1.alloc (by simp) (.cells #[.string ⟨#[122, 111, 110, 101]⟩, .string ⟨#[97]⟩, .int .i64 0, .string ⟨#[100, 105, 115, 107]⟩, .string ⟨#[]⟩, .int .i64 3] 122)
  have hL := hL0.flatKeeps (Keeps.below ((Below.refl _ _).alloc (Nat.le_refl _) (.cells #[.string ⟨#[122, 111, 110, 101]⟩, .string ⟨#[97]⟩, .int .i64 0, .string ⟨#[100, 105, 115, 107]⟩, .string ⟨#[]⟩, .int .i64 3] 122)))
  have hR := SlR.of_new (f := Require.cells) (sz := 3) (w.alloc (.cells #[.string ⟨#[122, 111, 110, 101]⟩, .string ⟨#[97]⟩] 40)) exR 122 #[.string ⟨#[122, 111, 110, 101]⟩, .string ⟨#[97]⟩, .int .i64 0, .string ⟨#[100, 105, 115, 107]⟩, .string ⟨#[]⟩, .int .i64 3] 2 rfl (by decide) (fun _ => rfl) rfl
  have e1 : (w.alloc (.cells #[.string ⟨#[122, 111, 110, 101]⟩, .string ⟨#[97]⟩] 40)).heap.size = w.heap.size + 1 := by simp
  rw [e1] at hR
  clear e1 hL0 b1
  go_enter Try.func17, Try.ntmps17
  go_wp2_with fail
  refine (match_any exL exR _ _ _ _ _ _ _ hL hR).mono ?_
  rintro e w2 ⟨he, hb⟩
  rw [ex_ok] at he
  subst he
  have Hb := Lib.hid (b2.trans (hb.mono (by simp; omega)))
  clear hb b2 hL hR
  go_wp2_with fail
  refine (name_dash _).mono ?_
  rintro e w3 ⟨rfl, rfl⟩
  go_wp2
  go_ret
  exact ⟨rfl, Hb.out⟩

set_option maxHeartbeats 1600000 in
theorem labelMatches_core (l t : List Label) (r : List Require) (key : ByteArray) (ao bo co : Option Addr) (la ca lb cb lc cc : Nat) (w : World) (hL : SlR (Flat Label.cells) 2 w ao la ca l) (hT : SlR (Flat Label.cells) 2 w bo lb cb t) (hR : SlR (Flat Require.cells) 3 w co lc cc r) :
    Calls Try.prog 4 #[.slice ao la ca, .slice bo lb cb, .slice co lc cc, .string key] w fun e w' => e = .returned (.bool true) ∧ Below w.heap.size w w' := by
  have h1 := hL.hmax; have h2 := hL.hcap
  have h3 := hT.hmax; have h4 := hT.hcap
  have h5 := hR.hmax; have h6 := hR.hcap
  unfold maxLen at h1 h3 h5
  rcases (show 30 < la ∨ (la ≤ 30 ∧ 30 < lb) ∨ (la ≤ 30 ∧ lb ≤ 30 ∧ 30 < lc) ∨ (la ≤ 30 ∧ lb ≤ 30 ∧ lc ≤ 30) by omega) with g1 | ⟨g1, g2⟩ | ⟨g1, g2, g3⟩ | ⟨g1, g2, g3⟩
  iterate 3
    · go_enter Try.func4, Try.ntmps4
      go_wp2_with fail
      refine (lives05 _).mono ?_
      rintro e w1 ⟨rfl, hb1⟩
      go_wp2_with fail
      refine (lives05 _).mono ?_
      rintro e w2 ⟨rfl, hb2⟩
      go_wp2
      go_ret
      exact ⟨rfl, hb1.trans (hb2.mono hb1.size)⟩
  rcases hg : getL key l with ⟨v, q⟩
  have Hg := Lib.hid hg
  clear hg
  go_enter Try.func4, Try.ntmps4
  go_wp2_with fail
  refine (lives05 _).mono ?_
  rintro e w1 ⟨rfl, hb1⟩
  have hL := hL.flatKeeps (Keeps.below hb1)
  have hT := hT.flatKeeps (Keeps.below hb1)
  have hR := hR.flatKeeps (Keeps.below hb1)
  have Hb1 := Lib.hid hb1
  clear hb1
  go_wp2_with fail
  refine (get_any l key _ _ _ _ hL).mono ?_
  rintro e w2 ⟨he, hb2⟩
  rw [Hg.out] at he
  subst he
  have hL := hL.flatKeeps (Keeps.below hb2)
  have hT := hT.flatKeeps (Keeps.below hb2)
  have hR := hR.flatKeeps (Keeps.below hb2)
  have Hb2 := Lib.hid (Hb1.out.trans (hb2.mono Hb1.out.size))
  clear hb2
  go_wp2_with fail
  refine (refGet_any l key _ _ _ _ hL).mono ?_
  rintro e w3 ⟨he, hb3⟩
  rw [Hg.out] at he
  subst he
  have hL := hL.flatKeeps (Keeps.below hb3)
  have hT := hT.flatKeeps (Keeps.below hb3)
  have hR := hR.flatKeeps (Keeps.below hb3)
  have Hb3 := Lib.hid (Hb2.out.trans (hb3.mono Hb2.out.size))
  clear hb3
  go_wp2_with fail
  obtain ⟨m, hm⟩ : ∃ m, r.all (holdsL l) = m := ⟨_, rfl⟩
  have Hm := Lib.hid hm
  obtain ⟨o, ho⟩ : ∃ o, tolL l t = o := ⟨_, rfl⟩
  have Ho := Lib.hid ho
  clear hm ho
  refine (match_any l r _ _ _ _ _ _ _ hL hR).mono ?_
  rintro e w4 ⟨he, hb4⟩
  rw [Hm.out] at he
  subst he
  have hL := hL.flatKeeps (Keeps.below hb4)
  have hT := hT.flatKeeps (Keeps.below hb4)
  have hR := hR.flatKeeps (Keeps.below hb4)
  have Hb4 := Lib.hid (Hb3.out.trans (hb4.mono Hb3.out.size))
  clear hb4
  go_wp2_with fail
  refine (refMatch_any l r _ _ _ _ _ _ _ hL hR).mono ?_
  rintro e w5 ⟨he, hb5⟩
  rw [Hm.out] at he
  subst he
  have hL := hL.flatKeeps (Keeps.below hb5)
  have hT := hT.flatKeeps (Keeps.below hb5)
  have Hb5 := Lib.hid (Hb4.out.trans (hb5.mono Hb4.out.size))
  clear hb5 hR
  have hmm : (m == m) = true := by simp
  go_wp2_with fail
  refine (tolerates_any l t _ _ _ _ _ _ _ hL hT).mono ?_
  rintro e w6 ⟨he, hb6⟩
  rw [Ho.out] at he
  subst he
  have hL := hL.flatKeeps (Keeps.below hb6)
  have hT := hT.flatKeeps (Keeps.below hb6)
  have Hb6 := Lib.hid (Hb5.out.trans (hb6.mono Hb5.out.size))
  clear hb6
  go_wp2_with fail
  refine (refTolerates_any l t _ _ _ _ _ _ _ hL hT).mono ?_
  rintro e w7 ⟨he, hb7⟩
  rw [Ho.out] at he
  subst he
  have Hb7 := Lib.hid (Hb6.out.trans (hb7.mono Hb6.out.size))
  clear hb7 hL hT
  go_wp2_with fail
  go_ret
  exact ⟨ret_bool (by simp), Hb7.out⟩

theorem LabelMatches_holds : Rows.LabelMatchesSaid := lLabelMatches.over fun a0 len0 cap0 a1 len1 cap1 a2 len2 cap2 s w h0 h1 h2 h3 => by
  obtain ⟨_, _, _, l, e0, hL⟩ := SlR.of_rel h0 (fun c hc => label_of w c hc)
  obtain ⟨_, _, _, t, e1, hT⟩ := SlR.of_rel h1 (fun c hc => label_of w c hc)
  obtain ⟨_, _, _, r, e2, hR⟩ := SlR.of_rel h2 (fun c hc => require_of w c hc)
  simp [Value.cells] at e0 e1 e2
  obtain ⟨rfl, rfl, rfl⟩ := e0
  obtain ⟨rfl, rfl, rfl⟩ := e1
  obtain ⟨rfl, rfl, rfl⟩ := e2
  exact labelMatches_core l t r s _ _ _ _ _ _ _ _ _ w hL hT hR
end Go.Proofs.Ytbhhjlnjhlagdaa
