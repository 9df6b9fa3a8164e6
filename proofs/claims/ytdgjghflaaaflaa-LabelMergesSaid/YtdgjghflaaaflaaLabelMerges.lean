/- LabelMerges holds: for every input the law returns true and its arguments stay. No condition. -/
import Derived.Test.YtdgjghflaaaflaaLabelMergesLift
import Derived.Test.YtdgjghflaaaflaaSortLab12
import Derived.Test.YtdgjghflaaaflaaMergePlain
namespace Go.Proofs.Ytdgjghflaaaflaa
open Go.ChangeShapes Go.WideShapes Go.ChangeAt Go.RowKit Go.Deep

theorem label_of (w : World) (c : List Value) (h : Rel (.pair .str (.pair .str .unit)) w c) : ∃ m, Flat Label.cells w m c := by
  obtain ⟨c1, c2, rfl, _, ⟨n1, rfl, _⟩, c3, c4, rfl, _, ⟨n2, rfl, _⟩, rfl⟩ := h
  exact ⟨⟨n1, n2⟩, rfl⟩

theorem rise_prev {ys : List Label} (h : ys.Pairwise KLt) {p k : Nat} (hpk : p < k) (hk : k < ys.length) : Op.bytesLess (ys[p]'(by omega)).key.toList ys[k].key.toList = true :=
  List.pairwise_iff_getElem.1 h p k (by omega) hk hpk

theorem sorted_len {xs ys : List Label} (h : SortedL xs ys) : ys.length ≤ xs.length := by
  obtain ⟨d, h1, _, rfl⟩ := h
  have h2 := dd_len d
  rw [h1.length_eq] at h2
  simpa using h2

set_option maxRecDepth 100000 in
set_option maxHeartbeats 1600000 in
theorem labelMerges_core (a b : List Label) (ao bo : Option Addr) (la ca lb cb : Nat) (w : World) (hA : SlR (Flat Label.cells) 2 w ao la ca a) (hB : SlR (Flat Label.cells) 2 w bo lb cb b) :
    Calls Try.prog 9 #[.slice ao la ca, .slice bo lb cb] w fun e w' => e = .returned (.bool true) ∧ Below w.heap.size w w' := by
  have h1 := hA.hmax; have h2 := hA.hcap
  have h3 := hB.hmax; have h4 := hB.hcap
  unfold maxLen at h1 h3
  rcases (show 30 < la ∨ (la ≤ 30 ∧ 30 < lb) ∨ (la ≤ 30 ∧ lb ≤ 30) by omega) with g1 | ⟨g1, g2⟩ | ⟨g1, g2⟩
  iterate 2
    · go_enter Try.func9, Try.ntmps9
      go_wp2_with fail
      refine (lives05 _).mono ?_
      rintro e w1 ⟨rfl, hb1⟩
      go_wp2_with fail
      refine (lives05 _).mono ?_
      rintro e w2 ⟨rfl, hb2⟩
      go_wp2
      go_ret
      exact ⟨rfl, hb1.trans (hb2.mono hb1.size)⟩
  go_enter Try.func9, Try.ntmps9
  go_wp2_with fail
  refine (lives05 _).mono ?_
  rintro e w1 ⟨rfl, hb1⟩
  have hA := hA.flatKeeps (Keeps.below hb1)
  have hB := hB.flatKeeps (Keeps.below hb1)
  have Hb1 := Lib.hid hb1
  clear hb1
  go_wp2_with fail
  refine (merge_any a b _ _ _ _ _ _ _ hA hB (by omega) (by omega)).mono ?_
  rintro e w2 ⟨mo, m, mc, ys, rfl, hs, hM, hb2⟩
  have hA := hA.flatKeeps (Keeps.below hb2)
  have hB := hB.flatKeeps (Keeps.below hb2)
  have Hb2 := Lib.hid (Hb1.out.trans (hb2.mono Hb1.out.size))
  have Hs := Lib.hid hs
  have hm1 := hM.hmax; have hm2 := hM.hcap
  unfold maxLen at hm1
  clear hb2 hs
  go_wp2_with fail
  go_loopw [6, 7, 8, 9, 10, 11, 30] (fun _ _ _ _ _ _ i wr => ∃ k : Nat, k ≤ m ∧ i = .int .i64 k ∧ Hid (Below w2.heap.size w2 wr)) (fun _ _ _ _ _ _ i _ => m - (intOf i).toNat)
  case atStart => exact ⟨0, Nat.zero_le _, rfl, Below.refl _ _⟩
  case round =>
    obtain ⟨k, hk, rfl, hb⟩ := hrel
    obtain ⟨wp, rfl⟩ : ∃ wp : World, wp = wr := ⟨_, rfl⟩
    by_cases hlt : k < m
    · obtain ⟨bk, off, rfl⟩ := hM.ptr (by decide) (by omega)
      have kx : k < ys.length := by have := hM.hlen; omega
      have hM' := hM.flatKeeps (Keeps.below hb.out)
      have hc := hM'.flat kx
      have c0 := hc 0 _ rfl
      have c1 := hc 1 _ rfl
      rw [Nat.add_zero] at c0
      have hone := merge_one Hs.out (List.getElem_mem kx)
      have hprev : ∀ p, (hp : p < k) → Op.bytesLess (ys[p]'(by omega)).key.toList ys[k].key.toList = true := fun p hp => rise_prev (sorted_rise Hs.out) hp kx
      have hcp : ∀ p, (hp : p < k) → wp.cell? ⟨bk, off + p * 2, none⟩ = some (.string (ys[p]'(by omega)).key) := fun p hp => by
        have := hM'.flat (show p < ys.length by omega) 0 _ rfl
        rwa [Nat.add_zero] at this
      obtain ⟨⟨kk, vv⟩, hx⟩ : ∃ x, ys[k] = x := ⟨_, rfl⟩
      rw [hx] at c0 c1 hone
      dsimp only at c0 c1 hone
      have hbA := hb.out.alloc hb.out.size (.cells #[.string kk, .string vv] 54)
      have hA1 := hA.flatKeeps (Keeps.below hbA)
      have hB1 := hB.flatKeeps (Keeps.below hbA)
      have k0 : (wp.alloc (.cells #[.string kk, .string vv] 54)).cell? ⟨wp.heap.size, 0, none⟩ = some (.string kk) := cell_new wp _ _ 0
      have k1 : (wp.alloc (.cells #[.string kk, .string vv] 54)).cell? ⟨wp.heap.size, 1, none⟩ = some (.string vv) := cell_new wp _ _ 1
      have hbw : Below wp.heap.size wp (wp.alloc (.cells #[.string kk, .string vv] 54)) := (Below.refl _ _).alloc (Nat.le_refl _) _
      have HbA := Lib.hid hbA
      have Hbw := Lib.hid hbw
      have Hone := Lib.hid hone
      have Hprev := Lib.hid hprev
      have Hcp := Lib.hid hcp
      have Hx := Lib.hid hx
      obtain ⟨⟨v, q⟩, hg⟩ : ∃ p, getL kk b = p := ⟨_, rfl⟩
      obtain ⟨⟨v', q'⟩, hg'⟩ : ∃ p, getL kk a = p := ⟨_, rfl⟩
      have Hg := Lib.hid hg
      have Hg' := Lib.hid hg'
      clear hc hM' hone hprev hcp hx hbA hbw hg hg'
      go_wp2_with fail
      refine (get_any b kk _ _ _ _ hB1).mono ?_
      rintro e w3 ⟨he, hb3⟩
      rw [Hg.out] at he
      subst he
      have hA2 := hA1.flatKeeps (Keeps.below hb3)
      have k0 := Below.cell_some hb3 k0
      have k1 := Below.cell_some hb3 k1
      have Hb3 := Lib.hid (HbA.out.trans (hb3.mono HbA.out.size))
      have Hbw3 := Lib.hid (Hbw.out.trans (hb3.mono Hbw.out.size))
      clear hb3 c0 c1
      go_wp2_with fail
      refine (get_any a kk _ _ _ _ hA2).mono ?_
      rintro e w4 ⟨he, hb4⟩
      rw [Hg'.out] at he
      subst he
      have k0 := Below.cell_some hb4 k0
      have k1 := Below.cell_some hb4 k1
      have Hb4 := Lib.hid (Hb3.out.trans (hb4.mono Hb3.out.size))
      have Hbw4 := Lib.hid (Hbw3.out.trans (hb4.mono Hbw3.out.size))
      clear hb4
      have hone := Hone.out
      rw [Hg.out, Hg'.out] at hone
      dsimp only at hone
      by_cases hk0 : k = 0
      · subst hk0
        rcases hone with ⟨rfl, rfl⟩ | ⟨rfl, rfl, rfl⟩
        all_goals
          clear hA hB hA1 hB1 hA2
          go_upto_region 9 with fail
          go_quiet (fail)
          go_wp2_with fail
          go_roundw
          case rel => exact ⟨1, by omega, by go_num, drewN_below Hb4.out _⟩
          case measure => simp [intOf]; omega
      · obtain ⟨p, rfl⟩ : ∃ p, k = p + 1 := ⟨k - 1, by omega⟩
        have hl := Hprev.out p (by omega)
        have p0 := Below.cell_some Hbw4.out (Hcp.out p (by omega))
        rw [Hx.out] at hl
        dsimp only at hl
        obtain ⟨⟨pk, pv⟩, hpx⟩ : ∃ x, ys[p]'(by omega) = x := ⟨_, rfl⟩
        rw [hpx] at hl p0
        dsimp only at hl p0
        rcases hone with ⟨rfl, rfl⟩ | ⟨rfl, rfl, rfl⟩
        all_goals
          clear hA hB hA1 hB1 hA2 hpx Hprev Hcp Hx kx
          go_upto_region 9 with fail
          go_quiet (fail)
          go_wp2_with fail
          go_roundw
          case rel => exact ⟨p + 1 + 1, by omega, by go_num, drewN_below Hb4.out _⟩
          case measure => simp [intOf]; omega
    · have hM1 := hM.flatKeeps (Keeps.below hb.out)
      have hB1 := hB.flatKeeps (Keeps.below hb.out)
      have Hb := Lib.hid (Hb2.out.trans (hb.out.mono Hb2.out.size))
      have hml : m ≤ 60 := by
        have h1 := sorted_len Hs.out
        rw [hM.hlen, List.length_append, hA.hlen, hB.hlen] at h1
        omega
      clear hb
      go_wp2_with fail
      refine (merge_any ys b _ _ _ _ _ _ _ hM1 hB1 (by omega) (by omega)).mono ?_
      rintro e w3 ⟨mo', m', mc', ys', rfl, hs', hM', hb3⟩
      have hM2 := hM1.flatKeeps (Keeps.below hb3)
      have hq := merge_again Hs.out hs'
      subst hq
      have hmm : m' = m := by rw [← hM'.hlen, ← hM1.hlen]
      subst hmm
      have Hb3 := Lib.hid (Hb.out.trans (hb3.mono Hb.out.size))
      clear hb3 hs'
      go_wp2_with fail
      refine (same_any _ _ _ _ _ _ _ hM' hM2).mono ?_
      rintro e w4 ⟨rfl, hb4⟩
      have Hb4 := Lib.hid (Hb3.out.trans (hb4.mono Hb3.out.size))
      clear hb4
      go_wp2_with fail
      go_ret
      exact ⟨rfl, Hb4.out⟩

theorem LabelMerges_holds : Rows.LabelMergesSaid := lLabelMerges.over fun a0 len0 cap0 a1 len1 cap1 w h0 h1 => by
  obtain ⟨_, _, _, l, e0, hL⟩ := SlR.of_rel h0 (fun c hc => label_of w c hc)
  obtain ⟨_, _, _, t, e1, hT⟩ := SlR.of_rel h1 (fun c hc => label_of w c hc)
  simp [Value.cells] at e0 e1
  obtain ⟨rfl, rfl, rfl⟩ := e0
  obtain ⟨rfl, rfl, rfl⟩ := e1
  exact labelMerges_core l t _ _ _ _ _ _ w hL hT
end Go.Proofs.Ytdgjghflaaaflaa
