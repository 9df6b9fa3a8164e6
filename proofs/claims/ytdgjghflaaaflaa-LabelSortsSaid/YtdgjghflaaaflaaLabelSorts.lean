/- LabelSorts holds: for every input the law returns true and its arguments stay. No condition. -/
import Derived.Test.YtdgjghflaaaflaaLabelSortsLift
import Derived.Test.YtdgjghflaaaflaaRefSort
namespace Go.Proofs.Ytdgjghflaaaflaa
open Go.ChangeShapes Go.WideShapes Go.ChangeAt Go.RowKit Go.Deep

theorem label_of (w : World) (c : List Value) (h : Rel (.pair .str (.pair .str .unit)) w c) : ∃ m, Flat Label.cells w m c := by
  obtain ⟨c1, c2, rfl, _, ⟨n1, rfl, _⟩, c3, c4, rfl, _, ⟨n2, rfl, _⟩, rfl⟩ := h
  exact ⟨⟨n1, n2⟩, rfl⟩

set_option maxRecDepth 100000 in
set_option maxHeartbeats 1600000 in
theorem labelSorts_core (a b : List Label) (ao bo : Option Addr) (la ca lb cb : Nat) (w : World) (hA : SlR (Flat Label.cells) 2 w ao la ca a) (hB : SlR (Flat Label.cells) 2 w bo lb cb b) :
    Calls Try.prog 8 #[.slice ao la ca, .slice bo lb cb] w fun e w' => e = .returned (.bool true) ∧ Below w.heap.size w w' := by
  have h1 := hA.hmax; have h2 := hA.hcap
  have h3 := hB.hmax; have h4 := hB.hcap
  unfold maxLen at h1 h3
  rcases (show 30 < la ∨ (la ≤ 30 ∧ 30 < lb) ∨ (la ≤ 30 ∧ lb ≤ 30) by omega) with g1 | ⟨g1, g2⟩ | ⟨g1, g2⟩
  iterate 2
    · go_enter Try.func8, Try.ntmps8
      go_wp2_with fail
      refine (lives05 _).mono ?_
      rintro e w1 ⟨rfl, hb1⟩
      go_wp2_with fail
      refine (lives05 _).mono ?_
      rintro e w2 ⟨rfl, hb2⟩
      go_wp2
      go_ret
      exact ⟨rfl, hb1.trans (hb2.mono hb1.size)⟩
  have hla := hA.hlen
  have hlb := hB.hlen
  have HLa := Lib.hid hla
  have HLb := Lib.hid hlb
  clear hla hlb
  go_enter Try.func8, Try.ntmps8
  go_wp2_with fail
  refine (lives05 _).mono ?_
  rintro e w1 ⟨rfl, hb1⟩
  have HA := Lib.hid (hA.flatKeeps (Keeps.below hb1))
  have HB := Lib.hid (hB.flatKeeps (Keeps.below hb1))
  have Hb1 := Lib.hid hb1
  have hs1 := hb1.size
  clear hb1 hA hB
  go_wp2_with (first
    | ((with_reducible refine at_slot 21 ?_); go_must (refine wpList_buildSlice rfl 26 0 _ rfl [] rfl _ _ zeroLabels ?_))
    | ((with_reducible refine at_slot 24 ?_); go_must (refine wpList_buildSlice rfl 26 0 _ rfl [] rfl _ _ zeroLabels ?_))
    | ((with_reducible refine at_slot 27 ?_); go_must (refine wpList_buildSlice rfl 26 0 _ rfl [] rfl _ _ zeroLabels ?_))
    | ((with_reducible refine at_slot 23 ?_); go_must (refine wpList_append_slr elemLabel rfl _ _ rfl w1.heap.size _ 0 [] rfl (World.ownsRow_made w1 _ 0 (Nat.le_refl _) (by decide) rfl) (by rw [World.size_alloc]; omega) (fun _ => rfl) ao la ca a rfl (HA.out.flatKeeps (Keeps.below ((Below.refl w1.heap.size w1).alloc (Nat.le_refl _) (.cells #[] 54)))) label_one (by unfold maxLen; omega) (by omega) ?_; intro vw2 w2 hown hgr; rw [Nat.zero_add, List.nil_append] at hown; have hb : Below w1.heap.size w1 w2 := ((Below.refl _ w1).alloc (Nat.le_refl _) _).grown hgr (by rw [World.size_alloc]; omega) (fun k hk => by cases hk; exact Nat.le_refl _); obtain ⟨xo, xc, rfl, hsl, _⟩ := SlR.of_owns hown HLa.out (fun _ => rfl); have Hx := Lib.hid hsl; have HA := Lib.hid (HA.out.flatKeeps (Keeps.below hb)); have HB := Lib.hid (HB.out.flatKeeps (Keeps.below hb)); have Hbw2 := Lib.hid (Hb1.out.trans (hb.mono Hb1.out.size)); clear hown hgr hb hsl))
    | ((with_reducible refine at_slot 26 ?_); go_must (refine wpList_append_slr elemLabel rfl _ _ rfl w2.heap.size _ 0 [] rfl (World.ownsRow_made w2 _ 0 (Nat.le_refl _) (by decide) rfl) (by rw [World.size_alloc]; omega) (fun _ => rfl) bo lb cb b rfl (HB.out.flatKeeps (Keeps.below ((Below.refl w2.heap.size w2).alloc (Nat.le_refl _) (.cells #[] 54)))) label_one (by unfold maxLen; omega) (by omega) ?_; intro vw3 w3 hown hgr; rw [Nat.zero_add, List.nil_append] at hown; have hb : Below w2.heap.size w2 w3 := ((Below.refl _ w2).alloc (Nat.le_refl _) _).grown hgr (by rw [World.size_alloc]; omega) (fun k hk => by cases hk; exact Nat.le_refl _); obtain ⟨yo, yc, rfl, hsl, _⟩ := SlR.of_owns hown HLb.out (fun _ => rfl); have Hy := Lib.hid hsl; have HA := Lib.hid (HA.out.flatKeeps (Keeps.below hb)); have HB := Lib.hid (HB.out.flatKeeps (Keeps.below hb)); have Hx := Lib.hid (Hx.out.flatKeeps (Keeps.below hb)); have Hbw3 := Lib.hid (Hbw2.out.trans (hb.mono Hbw2.out.size)); clear hown hgr hb hsl))
    | ((with_reducible refine at_slot 29 ?_); go_must (refine wpList_append_slr elemLabel rfl _ _ rfl w3.heap.size _ 0 [] rfl (World.ownsRow_made w3 _ 0 (Nat.le_refl _) (by decide) rfl) (by rw [World.size_alloc]; omega) (fun _ => rfl) bo lb cb b rfl (HB.out.flatKeeps (Keeps.below ((Below.refl w3.heap.size w3).alloc (Nat.le_refl _) (.cells #[] 54)))) label_one (by unfold maxLen; omega) (by omega) ?_; intro vw4 w4 hown hgr; rw [Nat.zero_add, List.nil_append] at hown; have hb : Below w3.heap.size w3 w4 := ((Below.refl _ w3).alloc (Nat.le_refl _) _).grown hgr (by rw [World.size_alloc]; omega) (fun k hk => by cases hk; exact Nat.le_refl _); obtain ⟨uo, uc, rfl, hsl, _⟩ := SlR.of_owns hown HLb.out (fun _ => rfl); have Hu := Lib.hid hsl;  have Hbw4 := Lib.hid (Hbw3.out.trans (hb.mono Hbw3.out.size)); have HA4 := Lib.hid (HA.out.flatKeeps (Keeps.below hb)); have Hb34 := Lib.hid hb; have hq : w3.heap.size ≤ w4.heap.size := hb.size; have HO4 := Lib.hid hown; clear hown hgr hb hsl))
    | ((with_reducible refine at_slot 31 ?_); go_must (refine wpList_append_slr elemLabel rfl _ _ rfl w3.heap.size _ lb (b.flatMap Label.cells) rfl (by exact HO4.out) (by exact hq) (fun _ => rfl) ao la ca a rfl (HA4.out) label_one (by unfold maxLen; omega) (by omega) ?_; intro vw5 w5 hown hgr; rw [← List.flatMap_append] at hown; have hb : Below w3.heap.size w4 w5 := (Below.refl _ w4).grown hgr hq (fun k hk => owns_lt' HO4.out hk); have hb5 : Below w.heap.size w4 w5 := hb.mono Hbw3.out.size; obtain ⟨zo, zc, rfl, hsl, _⟩ := SlR.of_owns hown (by rw [List.length_append, HLa.out, HLb.out]) (fun _ => rfl); have Hz := Lib.hid hsl; have Hgr5 := Lib.hid hgr; have Hbw5 := Lib.hid (Hbw4.out.trans hb5); have hb35 := Hb34.out.trans hb; have HA := Lib.hid (HA.out.flatKeeps (Keeps.below hb35)); have HB := Lib.hid (HB.out.flatKeeps (Keeps.below hb35)); have Hx := Lib.hid (Hx.out.flatKeeps (Keeps.below hb35)); have Hy := Lib.hid (Hy.out.flatKeeps (Keeps.below hb35)); clear hb35 hown hgr hb hb5 hsl)))
  have Hbw := Hbw5
  have hs5 := Hbw.out.size
  refine (sort_any a _ _ _ _ Hx.out (by omega)).mono ?_
  rintro e w6 ⟨o1, m1, c1, ys, rfl, hso, hM, hb⟩
  have Hso := Lib.hid hso
  have H1 := Lib.hid hM
  clear hso hM
  have HA := Lib.hid (HA.out.flatKeeps (Keeps.below hb))
  have HB := Lib.hid (HB.out.flatKeeps (Keeps.below hb))
  have Hx := Lib.hid (Hx.out.flatKeeps (Keeps.below hb))
  have Hy := Lib.hid (Hy.out.flatKeeps (Keeps.below hb))
  have Hz := Lib.hid (Hz.out.flatKeeps (Keeps.below hb))
  have Hbw := Lib.hid (Hbw.out.trans (hb.mono Hbw.out.size))
  clear hb
  go_wp2_with fail
  refine (refSort_any a _ _ _ _ HA.out (by omega)).mono ?_
  rintro e w7 ⟨o2, m2, c2, ys2, rfl, hca, hM, hb⟩
  obtain rfl := canon_same (sorted_canon Hso.out) hca
  obtain rfl : m1 = m2 := by rw [← H1.out.hlen, ← hM.hlen]
  have H2 := Lib.hid hM
  clear hca hM
  have HA := Lib.hid (HA.out.flatKeeps (Keeps.below hb))
  have HB := Lib.hid (HB.out.flatKeeps (Keeps.below hb))
  have Hx := Lib.hid (Hx.out.flatKeeps (Keeps.below hb))
  have Hy := Lib.hid (Hy.out.flatKeeps (Keeps.below hb))
  have Hz := Lib.hid (Hz.out.flatKeeps (Keeps.below hb))
  have H1 := Lib.hid (H1.out.flatKeeps (Keeps.below hb))
  have Hbw := Lib.hid (Hbw.out.trans (hb.mono Hbw.out.size))
  clear hb
  go_wp2_with fail
  refine (same_any ys _ _ _ _ _ _ H1.out H2.out).mono ?_
  rintro e w8 ⟨rfl, hb⟩
  clear H1 H2
  have HA := Lib.hid (HA.out.flatKeeps (Keeps.below hb))
  have HB := Lib.hid (HB.out.flatKeeps (Keeps.below hb))
  have Hx := Lib.hid (Hx.out.flatKeeps (Keeps.below hb))
  have Hy := Lib.hid (Hy.out.flatKeeps (Keeps.below hb))
  have Hz := Lib.hid (Hz.out.flatKeeps (Keeps.below hb))
  have Hbw := Lib.hid (Hbw.out.trans (hb.mono Hbw.out.size))
  clear hb
  go_wp2_with fail
  refine (merge_any a b _ _ _ _ _ _ _ Hx.out Hy.out (by omega) (by omega)).mono ?_
  rintro e w9 ⟨o3, m3, c3, zs, rfl, hso2, hM, hb⟩
  have Hso2 := Lib.hid hso2
  have H3 := Lib.hid hM
  clear hso2 hM
  have HA := Lib.hid (HA.out.flatKeeps (Keeps.below hb))
  have HB := Lib.hid (HB.out.flatKeeps (Keeps.below hb))
  have Hx := Lib.hid (Hx.out.flatKeeps (Keeps.below hb))
  have Hy := Lib.hid (Hy.out.flatKeeps (Keeps.below hb))
  have Hz := Lib.hid (Hz.out.flatKeeps (Keeps.below hb))
  have Hbw := Lib.hid (Hbw.out.trans (hb.mono Hbw.out.size))
  clear hb
  go_wp2_with fail
  refine (refSort_any (b ++ a) _ _ _ _ Hz.out (by omega)).mono ?_
  rintro e w10 ⟨o4, m4, c4, zs2, rfl, hca, hM, hb⟩
  obtain rfl := canon_same (sorted_canon Hso2.out) hca
  obtain rfl : m3 = m4 := by rw [← H3.out.hlen, ← hM.hlen]
  have H4 := Lib.hid hM
  clear hca hM
  have HA := Lib.hid (HA.out.flatKeeps (Keeps.below hb))
  have HB := Lib.hid (HB.out.flatKeeps (Keeps.below hb))
  have Hx := Lib.hid (Hx.out.flatKeeps (Keeps.below hb))
  have Hy := Lib.hid (Hy.out.flatKeeps (Keeps.below hb))
  have H3 := Lib.hid (H3.out.flatKeeps (Keeps.below hb))
  have Hbw := Lib.hid (Hbw.out.trans (hb.mono Hbw.out.size))
  clear hb
  go_wp2_with fail
  refine (same_any zs _ _ _ _ _ _ H3.out H4.out).mono ?_
  rintro e w11 ⟨rfl, hb⟩
  clear H3 H4
  have HA := Lib.hid (HA.out.flatKeeps (Keeps.below hb))
  have HB := Lib.hid (HB.out.flatKeeps (Keeps.below hb))
  have Hx := Lib.hid (Hx.out.flatKeeps (Keeps.below hb))
  have Hy := Lib.hid (Hy.out.flatKeeps (Keeps.below hb))
  have Hbw := Lib.hid (Hbw.out.trans (hb.mono Hbw.out.size))
  clear hb
  go_wp2_with fail
  refine (same_any a _ _ _ _ _ _ Hx.out HA.out).mono ?_
  rintro e w12 ⟨rfl, hb⟩
  have HB := Lib.hid (HB.out.flatKeeps (Keeps.below hb))
  have Hy := Lib.hid (Hy.out.flatKeeps (Keeps.below hb))
  have Hbw := Lib.hid (Hbw.out.trans (hb.mono Hbw.out.size))
  clear hb
  go_wp2_with fail
  refine (same_any b _ _ _ _ _ _ Hy.out HB.out).mono ?_
  rintro e w13 ⟨rfl, hb⟩
  have Hbw := Lib.hid (Hbw.out.trans (hb.mono Hbw.out.size))
  clear hb
  go_wp2_with fail
  go_ret
  exact ⟨ret_bool (by simp), Hbw.out⟩

theorem LabelSorts_holds : Rows.LabelSortsSaid := lLabelSorts.over fun a0 len0 cap0 a1 len1 cap1 w h0 h1 => by
  obtain ⟨_, _, _, l, e0, hL⟩ := SlR.of_rel h0 (fun c hc => label_of w c hc)
  obtain ⟨_, _, _, t, e1, hT⟩ := SlR.of_rel h1 (fun c hc => label_of w c hc)
  simp [Value.cells] at e0 e1
  obtain ⟨rfl, rfl, rfl⟩ := e0
  obtain ⟨rfl, rfl, rfl⟩ := e1
  exact labelSorts_core l t _ _ _ _ _ _ w hL hT
end Go.Proofs.Ytdgjghflaaaflaa
