/- The contracts of the law's whole, sized and wants. Condition: the slices read, their texts fit. -/
import Derived.Test.YtjncoloedakpoaaDoorCheckSpecM
import Derived.Test.YtjncoloedakpoaaDoorRefAsksM
namespace Go.Proofs.YtjncoloedakpoaaDoor
open Go.ChangeShapes Go.WideShapes Go.ChangeAt Go.RowKit Go.Deep

set_option maxRecDepth 100000 in
set_option maxHeartbeats 3200000 in
theorem lawWhole_any (m : Int) (w : World)  :
    Calls Tryd.prog 16 #[.int .i64 m] w fun e w' => e = .returned (.bool (wholeOk m)) ∧ Below w.heap.size w w' := by
  have Hb : Hid (Below w.heap.size w w) := Below.refl _ _
  have HE : Hid ((wholeOk m) = (decide (0 ≤ m) && decide (m ≤ 9007199254740992))) := by
    show _ = _
    rfl
  obtain ⟨b1, h_b1⟩ : ∃ b, (decide (0 ≤ m)) = b := ⟨_, rfl⟩
  rw [h_b1] at HE
  obtain ⟨b2, h_b2⟩ : ∃ b, (decide (m ≤ 9007199254740992)) = b := ⟨_, rfl⟩
  rw [h_b2] at HE
  rcases b1 with _ | _
  · go_enter Tryd.func16, Tryd.ntmps16
    go_wp2_with fail
    go_ret
    exact ⟨ret_bool HE.out.symm, Hb.out⟩
  · go_enter Tryd.func16, Tryd.ntmps16
    go_wp2_with fail
    go_ret
    exact ⟨ret_bool HE.out.symm, Hb.out⟩

set_option maxRecDepth 100000 in
set_option maxHeartbeats 3200000 in
theorem lawSized_any (c m : Int) (w : World)  :
    Calls Tryd.prog 13 #[.agg #[.int .i64 c, .int .i64 m]] w fun e w' => e = .returned (.bool (sizeOk c m)) ∧ Below w.heap.size w w' := by
  have Hb : Hid (Below w.heap.size w (w.alloc (.cells #[.int .i64 c, .int .i64 m] 25))) := (Below.refl w.heap.size w).alloc (Nat.le_refl _) _
  have k0 : (w.alloc (.cells #[.int .i64 c, .int .i64 m] 25)).cell? ⟨w.heap.size, 0, none⟩ = some (.int .i64 c) := cell_new w _ _ 0
  have k1 : (w.alloc (.cells #[.int .i64 c, .int .i64 m] 25)).cell? ⟨w.heap.size, 1, none⟩ = some (.int .i64 m) := cell_new w _ _ 1
  have HE : Hid ((sizeOk c m) = (wholeOk c && (wholeOk m && (c != 0)))) := by
    show _ = _
    unfold sizeOk wholeOk
    rw [Bool.eq_iff_iff]
    simp
    omega
  have H_b1 : Hid (∀ w1, Below w.heap.size w w1 → Calls Tryd.prog 16 #[.int .i64 c] w1 fun e w' => e = .returned (.bool (wholeOk c)) ∧ Below w1.heap.size w1 w') := fun w1 hb => lawWhole_any c w1
  have H_b2 : Hid (∀ w1, Below w.heap.size w w1 → Calls Tryd.prog 16 #[.int .i64 m] w1 fun e w' => e = .returned (.bool (wholeOk m)) ∧ Below w1.heap.size w1 w') := fun w1 hb => lawWhole_any m w1
  obtain ⟨b1, h_b1⟩ : ∃ b, (wholeOk c) = b := ⟨_, rfl⟩
  rw [h_b1] at HE H_b1
  obtain ⟨b2, h_b2⟩ : ∃ b, (wholeOk m) = b := ⟨_, rfl⟩
  rw [h_b2] at HE H_b2
  obtain ⟨b3, h_b3⟩ : ∃ b, (c != 0) = b := ⟨_, rfl⟩
  rw [h_b3] at HE
  clear h_b1 h_b2
  rcases b1 with _ | _
  · go_enter Tryd.func13, Tryd.ntmps13
    go_wp2_with fail
    refine (H_b1.out _ Hb.out).mono ?_
    rintro e wb1 ⟨rfl, hb⟩
    replace k0 := Below.cell_some hb k0
    replace k1 := Below.cell_some hb k1
    replace Hb := Lib.hid (Hb.out.trans (hb.mono Hb.out.size))
    clear hb
    go_wp2_with fail
    go_ret
    exact ⟨ret_bool HE.out.symm, Hb.out⟩
  · rcases b2 with _ | _
    · go_enter Tryd.func13, Tryd.ntmps13
      go_wp2_with fail
      refine (H_b1.out _ Hb.out).mono ?_
      rintro e wb1 ⟨rfl, hb⟩
      replace k0 := Below.cell_some hb k0
      replace k1 := Below.cell_some hb k1
      replace Hb := Lib.hid (Hb.out.trans (hb.mono Hb.out.size))
      clear hb
      go_wp2_with fail
      refine (H_b2.out _ Hb.out).mono ?_
      rintro e wb2 ⟨rfl, hb⟩
      replace k0 := Below.cell_some hb k0
      replace k1 := Below.cell_some hb k1
      replace Hb := Lib.hid (Hb.out.trans (hb.mono Hb.out.size))
      clear hb
      go_wp2_with fail
      go_ret
      exact ⟨ret_bool HE.out.symm, Hb.out⟩
    · go_enter Tryd.func13, Tryd.ntmps13
      go_wp2_with fail
      refine (H_b1.out _ Hb.out).mono ?_
      rintro e wb1 ⟨rfl, hb⟩
      replace k0 := Below.cell_some hb k0
      replace k1 := Below.cell_some hb k1
      replace Hb := Lib.hid (Hb.out.trans (hb.mono Hb.out.size))
      clear hb
      go_wp2_with fail
      refine (H_b2.out _ Hb.out).mono ?_
      rintro e wb2 ⟨rfl, hb⟩
      replace k0 := Below.cell_some hb k0
      replace k1 := Below.cell_some hb k1
      replace Hb := Lib.hid (Hb.out.trans (hb.mono Hb.out.size))
      clear hb
      go_wp2_with fail
      go_ret
      exact ⟨ret_bool HE.out.symm, Hb.out⟩

set_option maxRecDepth 100000 in
set_option maxHeartbeats 3200000 in
theorem lawWants_any (c m : Int) (L : RowV Label) (S : RowV Require) (T : RowV Label) (warm : Int) (w : World) (hL : RowL w L) (hS : RowS w S) (hT : RowL w T) (mL : SmallL L.xs) (mS : SmallS S.xs) (mT : SmallL T.xs) :
    Calls Tryd.prog 12 #[.agg #[.int .i64 c, .int .i64 m], .slice L.ao L.la L.ca, .slice S.ao S.la S.ca, .slice T.ao T.la T.ca, .int .i64 warm] w fun e w' => e = .returned (.bool (wantsOk c m L.xs S.xs T.xs warm)) ∧ Below w.heap.size w w' := by
  have Hb : Hid (Below w.heap.size w (w.alloc (.cells #[.int .i64 c, .int .i64 m] 25))) := (Below.refl w.heap.size w).alloc (Nat.le_refl _) _
  have k0 : (w.alloc (.cells #[.int .i64 c, .int .i64 m] 25)).cell? ⟨w.heap.size, 0, none⟩ = some (.int .i64 c) := cell_new w _ _ 0
  have k1 : (w.alloc (.cells #[.int .i64 c, .int .i64 m] 25)).cell? ⟨w.heap.size, 1, none⟩ = some (.int .i64 m) := cell_new w _ _ 1
  have HE : Hid ((wantsOk c m L.xs S.xs T.xs warm) = (sizeOk c m && (labelsOk L.xs && (asksOk S.xs && (labelsOk T.xs && (decide (0 ≤ warm) && decide (warm ≤ 1800))))))) := by
    show _ = _
    rfl
  have H_b1 : Hid (∀ w1, Below w.heap.size w w1 → Calls Tryd.prog 13 #[.agg #[.int .i64 c, .int .i64 m]] w1 fun e w' => e = .returned (.bool (sizeOk c m)) ∧ Below w1.heap.size w1 w') := fun w1 hb => lawSized_any c m w1
  have H_b2 : Hid (∀ w1, Below w.heap.size w w1 → Calls Tryd.prog 14 #[.slice L.ao L.la L.ca] w1 fun e w' => e = .returned (.bool (labelsOk L.xs)) ∧ Below w1.heap.size w1 w') := fun w1 hb => refRight_any L.xs _ _ _ w1 (hL.b hb) mL
  have H_b3 : Hid (∀ w1, Below w.heap.size w w1 → Calls Tryd.prog 25 #[.slice S.ao S.la S.ca] w1 fun e w' => e = .returned (.bool (asksOk S.xs)) ∧ Below w1.heap.size w1 w') := fun w1 hb => refAsks_any S.xs _ _ _ w1 (hS.b hb) mS
  have H_b4 : Hid (∀ w1, Below w.heap.size w w1 → Calls Tryd.prog 14 #[.slice T.ao T.la T.ca] w1 fun e w' => e = .returned (.bool (labelsOk T.xs)) ∧ Below w1.heap.size w1 w') := fun w1 hb => refRight_any T.xs _ _ _ w1 (hT.b hb) mT
  obtain ⟨b1, h_b1⟩ : ∃ b, (sizeOk c m) = b := ⟨_, rfl⟩
  rw [h_b1] at HE H_b1
  obtain ⟨b2, h_b2⟩ : ∃ b, (labelsOk L.xs) = b := ⟨_, rfl⟩
  rw [h_b2] at HE H_b2
  obtain ⟨b3, h_b3⟩ : ∃ b, (asksOk S.xs) = b := ⟨_, rfl⟩
  rw [h_b3] at HE H_b3
  obtain ⟨b4, h_b4⟩ : ∃ b, (labelsOk T.xs) = b := ⟨_, rfl⟩
  rw [h_b4] at HE H_b4
  obtain ⟨b5, h_b5⟩ : ∃ b, (decide (0 ≤ warm)) = b := ⟨_, rfl⟩
  rw [h_b5] at HE
  obtain ⟨b6, h_b6⟩ : ∃ b, (decide (warm ≤ 1800)) = b := ⟨_, rfl⟩
  rw [h_b6] at HE
  clear h_b1 h_b2 h_b3 h_b4
  rcases b1 with _ | _
  · go_enter Tryd.func12, Tryd.ntmps12
    go_wp2_with fail
    refine (H_b1.out _ Hb.out).mono ?_
    rintro e wb1 ⟨rfl, hb⟩
    replace k0 := Below.cell_some hb k0
    replace k1 := Below.cell_some hb k1
    replace Hb := Lib.hid (Hb.out.trans (hb.mono Hb.out.size))
    clear hb
    go_wp2_with fail
    go_ret
    exact ⟨ret_bool HE.out.symm, Hb.out⟩
  · rcases b2 with _ | _
    · go_enter Tryd.func12, Tryd.ntmps12
      go_wp2_with fail
      refine (H_b1.out _ Hb.out).mono ?_
      rintro e wb1 ⟨rfl, hb⟩
      replace k0 := Below.cell_some hb k0
      replace k1 := Below.cell_some hb k1
      replace Hb := Lib.hid (Hb.out.trans (hb.mono Hb.out.size))
      clear hb
      go_wp2_with fail
      refine (H_b2.out _ Hb.out).mono ?_
      rintro e wb2 ⟨rfl, hb⟩
      replace k0 := Below.cell_some hb k0
      replace k1 := Below.cell_some hb k1
      replace Hb := Lib.hid (Hb.out.trans (hb.mono Hb.out.size))
      clear hb
      go_wp2_with fail
      go_ret
      exact ⟨ret_bool HE.out.symm, Hb.out⟩
    · rcases b3 with _ | _
      · go_enter Tryd.func12, Tryd.ntmps12
        go_wp2_with fail
        refine (H_b1.out _ Hb.out).mono ?_
        rintro e wb1 ⟨rfl, hb⟩
        replace k0 := Below.cell_some hb k0
        replace k1 := Below.cell_some hb k1
        replace Hb := Lib.hid (Hb.out.trans (hb.mono Hb.out.size))
        clear hb
        go_wp2_with fail
        refine (H_b2.out _ Hb.out).mono ?_
        rintro e wb2 ⟨rfl, hb⟩
        replace k0 := Below.cell_some hb k0
        replace k1 := Below.cell_some hb k1
        replace Hb := Lib.hid (Hb.out.trans (hb.mono Hb.out.size))
        clear hb
        go_wp2_with fail
        refine (H_b3.out _ Hb.out).mono ?_
        rintro e wb3 ⟨rfl, hb⟩
        replace k0 := Below.cell_some hb k0
        replace k1 := Below.cell_some hb k1
        replace Hb := Lib.hid (Hb.out.trans (hb.mono Hb.out.size))
        clear hb
        go_wp2_with fail
        go_ret
        exact ⟨ret_bool HE.out.symm, Hb.out⟩
      · rcases b4 with _ | _
        · go_enter Tryd.func12, Tryd.ntmps12
          go_wp2_with fail
          refine (H_b1.out _ Hb.out).mono ?_
          rintro e wb1 ⟨rfl, hb⟩
          replace k0 := Below.cell_some hb k0
          replace k1 := Below.cell_some hb k1
          replace Hb := Lib.hid (Hb.out.trans (hb.mono Hb.out.size))
          clear hb
          go_wp2_with fail
          refine (H_b2.out _ Hb.out).mono ?_
          rintro e wb2 ⟨rfl, hb⟩
          replace k0 := Below.cell_some hb k0
          replace k1 := Below.cell_some hb k1
          replace Hb := Lib.hid (Hb.out.trans (hb.mono Hb.out.size))
          clear hb
          go_wp2_with fail
          refine (H_b3.out _ Hb.out).mono ?_
          rintro e wb3 ⟨rfl, hb⟩
          replace k0 := Below.cell_some hb k0
          replace k1 := Below.cell_some hb k1
          replace Hb := Lib.hid (Hb.out.trans (hb.mono Hb.out.size))
          clear hb
          go_wp2_with fail
          refine (H_b4.out _ Hb.out).mono ?_
          rintro e wb4 ⟨rfl, hb⟩
          replace k0 := Below.cell_some hb k0
          replace k1 := Below.cell_some hb k1
          replace Hb := Lib.hid (Hb.out.trans (hb.mono Hb.out.size))
          clear hb
          go_wp2_with fail
          go_ret
          exact ⟨ret_bool HE.out.symm, Hb.out⟩
        · rcases b5 with _ | _
          · go_enter Tryd.func12, Tryd.ntmps12
            go_wp2_with fail
            refine (H_b1.out _ Hb.out).mono ?_
            rintro e wb1 ⟨rfl, hb⟩
            replace k0 := Below.cell_some hb k0
            replace k1 := Below.cell_some hb k1
            replace Hb := Lib.hid (Hb.out.trans (hb.mono Hb.out.size))
            clear hb
            go_wp2_with fail
            refine (H_b2.out _ Hb.out).mono ?_
            rintro e wb2 ⟨rfl, hb⟩
            replace k0 := Below.cell_some hb k0
            replace k1 := Below.cell_some hb k1
            replace Hb := Lib.hid (Hb.out.trans (hb.mono Hb.out.size))
            clear hb
            go_wp2_with fail
            refine (H_b3.out _ Hb.out).mono ?_
            rintro e wb3 ⟨rfl, hb⟩
            replace k0 := Below.cell_some hb k0
            replace k1 := Below.cell_some hb k1
            replace Hb := Lib.hid (Hb.out.trans (hb.mono Hb.out.size))
            clear hb
            go_wp2_with fail
            refine (H_b4.out _ Hb.out).mono ?_
            rintro e wb4 ⟨rfl, hb⟩
            replace k0 := Below.cell_some hb k0
            replace k1 := Below.cell_some hb k1
            replace Hb := Lib.hid (Hb.out.trans (hb.mono Hb.out.size))
            clear hb
            go_wp2_with fail
            go_ret
            exact ⟨ret_bool HE.out.symm, Hb.out⟩
          · go_enter Tryd.func12, Tryd.ntmps12
            go_wp2_with fail
            refine (H_b1.out _ Hb.out).mono ?_
            rintro e wb1 ⟨rfl, hb⟩
            replace k0 := Below.cell_some hb k0
            replace k1 := Below.cell_some hb k1
            replace Hb := Lib.hid (Hb.out.trans (hb.mono Hb.out.size))
            clear hb
            go_wp2_with fail
            refine (H_b2.out _ Hb.out).mono ?_
            rintro e wb2 ⟨rfl, hb⟩
            replace k0 := Below.cell_some hb k0
            replace k1 := Below.cell_some hb k1
            replace Hb := Lib.hid (Hb.out.trans (hb.mono Hb.out.size))
            clear hb
            go_wp2_with fail
            refine (H_b3.out _ Hb.out).mono ?_
            rintro e wb3 ⟨rfl, hb⟩
            replace k0 := Below.cell_some hb k0
            replace k1 := Below.cell_some hb k1
            replace Hb := Lib.hid (Hb.out.trans (hb.mono Hb.out.size))
            clear hb
            go_wp2_with fail
            refine (H_b4.out _ Hb.out).mono ?_
            rintro e wb4 ⟨rfl, hb⟩
            replace k0 := Below.cell_some hb k0
            replace k1 := Below.cell_some hb k1
            replace Hb := Lib.hid (Hb.out.trans (hb.mono Hb.out.size))
            clear hb
            go_wp2_with fail
            go_ret
            exact ⟨ret_bool HE.out.symm, Hb.out⟩

end Go.Proofs.YtjncoloedakpoaaDoor
