/- The contracts of valid's small functions. Condition: the slices read. -/
import Derived.Test.YtpbppgfogepjeaaShapesM
import Derived.Test.YtpbppgfogepjeaaRefLabelM
namespace Go.Proofs.Ytpbppgfogepjeaa
open Go.ChangeShapes Go.WideShapes Go.ChangeAt Go.RowKit Go.Deep

set_option maxRecDepth 100000 in
set_option maxHeartbeats 3200000 in
theorem btw_int (x l h : Int) (w : World)  :
    Calls Try.prog 65 #[.int .i64 x, .int .i64 l, .int .i64 h] w fun e w' => e = .returned (.bool (btw x l h)) ∧ Below w.heap.size w w' := by
  have Hb : Hid (Below w.heap.size w w) := Below.refl _ _
  have HE : Hid ((btw x l h) = (decide (l ≤ x) && decide (x ≤ h))) := by
    show _ = _
    rfl
  obtain ⟨b1, h_b1⟩ : ∃ b, (decide (l ≤ x)) = b := ⟨_, rfl⟩
  rw [h_b1] at HE
  obtain ⟨b2, h_b2⟩ : ∃ b, (decide (x ≤ h)) = b := ⟨_, rfl⟩
  rw [h_b2] at HE
  rcases b1 with _ | _
  · go_enter Try.func65, Try.ntmps65
    go_wp2_with fail
    go_ret
    exact ⟨ret_bool HE.out.symm, Hb.out⟩
  · skip
    go_enter Try.func65, Try.ntmps65
    go_wp2_with fail
    go_ret
    exact ⟨ret_bool HE.out.symm, Hb.out⟩

set_option maxRecDepth 100000 in
set_option maxHeartbeats 3200000 in
theorem btw_int64 (x l h : Int) (w : World)  :
    Calls Try.prog 68 #[.int .i64 x, .int .i64 l, .int .i64 h] w fun e w' => e = .returned (.bool (btw x l h)) ∧ Below w.heap.size w w' := by
  have Hb : Hid (Below w.heap.size w w) := Below.refl _ _
  have HE : Hid ((btw x l h) = (decide (l ≤ x) && decide (x ≤ h))) := by
    show _ = _
    rfl
  obtain ⟨b1, h_b1⟩ : ∃ b, (decide (l ≤ x)) = b := ⟨_, rfl⟩
  rw [h_b1] at HE
  obtain ⟨b2, h_b2⟩ : ∃ b, (decide (x ≤ h)) = b := ⟨_, rfl⟩
  rw [h_b2] at HE
  rcases b1 with _ | _
  · go_enter Try.func68, Try.ntmps68
    go_wp2_with fail
    go_ret
    exact ⟨ret_bool HE.out.symm, Hb.out⟩
  · skip
    go_enter Try.func68, Try.ntmps68
    go_wp2_with fail
    go_ret
    exact ⟨ret_bool HE.out.symm, Hb.out⟩

set_option maxRecDepth 100000 in
set_option maxHeartbeats 3200000 in
theorem qright_any (m : Int) (w : World)  :
    Calls Try.prog 93 #[.int .i64 m] w fun e w' => e = .returned (.bool (wholeOk m)) ∧ Below w.heap.size w w' := by
  have Hb : Hid (Below w.heap.size w w) := Below.refl _ _
  have HE : Hid ((wholeOk m) = (decide (0 ≤ m) && decide (m ≤ 9007199254740992))) := by
    show _ = _
    rfl
  obtain ⟨b1, h_b1⟩ : ∃ b, (decide (0 ≤ m)) = b := ⟨_, rfl⟩
  rw [h_b1] at HE
  obtain ⟨b2, h_b2⟩ : ∃ b, (decide (m ≤ 9007199254740992)) = b := ⟨_, rfl⟩
  rw [h_b2] at HE
  rcases b1 with _ | _
  · go_enter Try.func93, Try.ntmps93
    go_wp2_with fail
    go_ret
    exact ⟨ret_bool HE.out.symm, Hb.out⟩
  · skip
    go_enter Try.func93, Try.ntmps93
    go_wp2_with fail
    go_ret
    exact ⟨ret_bool HE.out.symm, Hb.out⟩

set_option maxRecDepth 100000 in
set_option maxHeartbeats 3200000 in
theorem size_any (c m : Int) (w : World)  :
    Calls Try.prog 69 #[.agg #[.int .i64 c, .int .i64 m]] w fun e w' => e = .returned (.bool (sizeOk c m)) ∧ Below w.heap.size w w' := by
  have Hb : Hid (Below w.heap.size w (w.alloc (.cells #[.int .i64 c, .int .i64 m] 25))) := (Below.refl w.heap.size w).alloc (Nat.le_refl _) _
  have k0 : (w.alloc (.cells #[.int .i64 c, .int .i64 m] 25)).cell? ⟨w.heap.size, 0, none⟩ = some (.int .i64 c) := cell_new w _ _ 0
  have k1 : (w.alloc (.cells #[.int .i64 c, .int .i64 m] 25)).cell? ⟨w.heap.size, 1, none⟩ = some (.int .i64 m) := cell_new w _ _ 1
  have HE : Hid ((sizeOk c m) = (wholeOk c && (wholeOk m && decide (0 < c)))) := by
    show _ = _
    rfl
  have H_b1 : Hid (∀ w1, Below w.heap.size w w1 → Calls Try.prog 93 #[.int .i64 c] w1 fun e w' => e = .returned (.bool (wholeOk c)) ∧ Below w1.heap.size w1 w') := fun w1 hb => qright_any c w1
  have H_b2 : Hid (∀ w1, Below w.heap.size w w1 → Calls Try.prog 93 #[.int .i64 m] w1 fun e w' => e = .returned (.bool (wholeOk m)) ∧ Below w1.heap.size w1 w') := fun w1 hb => qright_any m w1
  obtain ⟨b1, h_b1⟩ : ∃ b, (wholeOk c) = b := ⟨_, rfl⟩
  rw [h_b1] at HE H_b1
  obtain ⟨b2, h_b2⟩ : ∃ b, (wholeOk m) = b := ⟨_, rfl⟩
  rw [h_b2] at HE H_b2
  obtain ⟨b3, h_b3⟩ : ∃ b, (decide (0 < c)) = b := ⟨_, rfl⟩
  rw [h_b3] at HE
  clear h_b1 h_b2
  rcases b1 with _ | _
  · go_enter Try.func69, Try.ntmps69
    go_wp2_with fail
    refine (H_b1.out _ Hb.out).mono ?_
    rintro e wb1 ⟨rfl, hb⟩
    replace k0 := Below.cell_some hb k0
    replace k1 := Below.cell_some hb k1
    replace Hb := Lib.hid (Hb.out.trans (hb.mono Hb.out.size))
    clear hb
    go_wp2_with fail
    go_ret
    exact ⟨ret_bool HE.out.symm, Hb.out⟩
  · skip
    rcases b2 with _ | _
    · go_enter Try.func69, Try.ntmps69
      go_wp2_with fail
      refine (H_b1.out _ Hb.out).mono ?_
      rintro e wb1 ⟨rfl, hb⟩
      replace k0 := Below.cell_some hb k0
      replace k1 := Below.cell_some hb k1
      replace Hb := Lib.hid (Hb.out.trans (hb.mono Hb.out.size))
      clear hb
      go_wp2_with fail
      refine (H_b2.out _ Hb.out).mono ?_
      rintro e wb2 ⟨rfl, hb⟩
      replace k0 := Below.cell_some hb k0
      replace k1 := Below.cell_some hb k1
      replace Hb := Lib.hid (Hb.out.trans (hb.mono Hb.out.size))
      clear hb
      go_wp2_with fail
      go_ret
      exact ⟨ret_bool HE.out.symm, Hb.out⟩
    · skip
      go_enter Try.func69, Try.ntmps69
      go_wp2_with fail
      refine (H_b1.out _ Hb.out).mono ?_
      rintro e wb1 ⟨rfl, hb⟩
      replace k0 := Below.cell_some hb k0
      replace k1 := Below.cell_some hb k1
      replace Hb := Lib.hid (Hb.out.trans (hb.mono Hb.out.size))
      clear hb
      go_wp2_with fail
      refine (H_b2.out _ Hb.out).mono ?_
      rintro e wb2 ⟨rfl, hb⟩
      replace k0 := Below.cell_some hb k0
      replace k1 := Below.cell_some hb k1
      replace Hb := Lib.hid (Hb.out.trans (hb.mono Hb.out.size))
      clear hb
      go_wp2_with fail
      go_ret
      exact ⟨ret_bool HE.out.symm, Hb.out⟩

set_option maxRecDepth 100000 in
set_option maxHeartbeats 3200000 in
theorem named_any (s : ByteArray) (w : World)  :
    Calls Try.prog 67 #[.string s] w fun e w' => e = .returned (.bool (okVal s)) ∧ Below w.heap.size w w' := by
  have Hb : Hid (Below w.heap.size w w) := Below.refl _ _
  have HE : Hid ((okVal s) = (s.toList.isEmpty || nameOf s.data.toList)) := by
    show _ = _
    rfl
  have H_b2 : Hid (∀ w1, Below w.heap.size w w1 → Calls Try.prog 37 #[.string s] w1 fun e w' => e = .returned (.bool (nameOf s.data.toList)) ∧ Below w1.heap.size w1 w') := fun w1 hb => (name_any s w1).mono fun e w' h => ⟨h.1, by rw [← h.2]; exact Below.refl _ _⟩
  obtain ⟨b1, h_b1⟩ : ∃ b, (s.toList.isEmpty) = b := ⟨_, rfl⟩
  rw [h_b1] at HE
  obtain ⟨b2, h_b2⟩ : ∃ b, (nameOf s.data.toList) = b := ⟨_, rfl⟩
  rw [h_b2] at HE H_b2
  clear h_b2
  rcases b1 with _ | _
  rotate_left
  · go_enter Try.func67, Try.ntmps67
    go_wp2_with fail
    go_ret
    exact ⟨ret_bool HE.out.symm, Hb.out⟩
  · skip
    go_enter Try.func67, Try.ntmps67
    go_wp2_with fail
    refine (H_b2.out _ Hb.out).mono ?_
    rintro e wb2 ⟨rfl, hb⟩
    replace Hb := Lib.hid (Hb.out.trans (hb.mono Hb.out.size))
    clear hb
    go_wp2_with fail
    go_ret
    exact ⟨ret_bool HE.out.symm, Hb.out⟩

set_option maxRecDepth 100000 in
set_option maxHeartbeats 3200000 in
theorem wants_any (c m : Int) (L : RowV Label) (S : RowV Require) (T : RowV Label) (warm : Int) (w : World) (hL : RowL w L) (hS : RowS w S) (hT : RowL w T) :
    Calls Try.prog 66 #[.agg #[.int .i64 c, .int .i64 m], .slice L.ao L.la L.ca, .slice S.ao S.la S.ca, .slice T.ao T.la T.ca, .int .i64 warm] w fun e w' => e = .returned (.bool (wantsOk c m L.xs S.xs T.xs warm)) ∧ Below w.heap.size w w' := by
  have Hb : Hid (Below w.heap.size w (w.alloc (.cells #[.int .i64 c, .int .i64 m] 25))) := (Below.refl w.heap.size w).alloc (Nat.le_refl _) _
  have k0 : (w.alloc (.cells #[.int .i64 c, .int .i64 m] 25)).cell? ⟨w.heap.size, 0, none⟩ = some (.int .i64 c) := cell_new w _ _ 0
  have k1 : (w.alloc (.cells #[.int .i64 c, .int .i64 m] 25)).cell? ⟨w.heap.size, 1, none⟩ = some (.int .i64 m) := cell_new w _ _ 1
  have HE : Hid ((wantsOk c m L.xs S.xs T.xs warm) = (sizeOk c m && (labelsOk L.xs && (asksOk S.xs && (labelsOk T.xs && btw warm 0 1800))))) := by
    show _ = _
    rfl
  have H_b1 : Hid (∀ w1, Below w.heap.size w w1 → Calls Try.prog 69 #[.agg #[.int .i64 c, .int .i64 m]] w1 fun e w' => e = .returned (.bool (sizeOk c m)) ∧ Below w1.heap.size w1 w') := fun w1 hb => size_any c m w1
  have H_b2 : Hid (∀ w1, Below w.heap.size w w1 → Calls Try.prog 70 #[.slice L.ao L.la L.ca] w1 fun e w' => e = .returned (.bool (labelsOk L.xs)) ∧ Below w1.heap.size w1 w') := fun w1 hb => right_any L.xs _ _ _ w1 (hL.b hb)
  have H_b3 : Hid (∀ w1, Below w.heap.size w w1 → Calls Try.prog 92 #[.slice S.ao S.la S.ca] w1 fun e w' => e = .returned (.bool (asksOk S.xs)) ∧ Below w1.heap.size w1 w') := fun w1 hb => asks_any S.xs _ _ _ w1 (hS.b hb)
  have H_b4 : Hid (∀ w1, Below w.heap.size w w1 → Calls Try.prog 70 #[.slice T.ao T.la T.ca] w1 fun e w' => e = .returned (.bool (labelsOk T.xs)) ∧ Below w1.heap.size w1 w') := fun w1 hb => right_any T.xs _ _ _ w1 (hT.b hb)
  have H_b5 : Hid (∀ w1, Below w.heap.size w w1 → Calls Try.prog 65 #[.int .i64 warm, .int .i64 0, .int .i64 1800] w1 fun e w' => e = .returned (.bool (btw warm 0 1800)) ∧ Below w1.heap.size w1 w') := fun w1 hb => btw_int warm 0 1800 w1
  obtain ⟨b1, h_b1⟩ : ∃ b, (sizeOk c m) = b := ⟨_, rfl⟩
  rw [h_b1] at HE H_b1
  obtain ⟨b2, h_b2⟩ : ∃ b, (labelsOk L.xs) = b := ⟨_, rfl⟩
  rw [h_b2] at HE H_b2
  obtain ⟨b3, h_b3⟩ : ∃ b, (asksOk S.xs) = b := ⟨_, rfl⟩
  rw [h_b3] at HE H_b3
  obtain ⟨b4, h_b4⟩ : ∃ b, (labelsOk T.xs) = b := ⟨_, rfl⟩
  rw [h_b4] at HE H_b4
  obtain ⟨b5, h_b5⟩ : ∃ b, (btw warm 0 1800) = b := ⟨_, rfl⟩
  rw [h_b5] at HE H_b5
  clear h_b1 h_b2 h_b3 h_b4 h_b5
  rcases b1 with _ | _
  · go_enter Try.func66, Try.ntmps66
    go_wp2_with fail
    refine (H_b1.out _ Hb.out).mono ?_
    rintro e wb1 ⟨rfl, hb⟩
    replace k0 := Below.cell_some hb k0
    replace k1 := Below.cell_some hb k1
    replace Hb := Lib.hid (Hb.out.trans (hb.mono Hb.out.size))
    clear hb
    go_wp2_with fail
    go_ret
    exact ⟨ret_bool HE.out.symm, Hb.out⟩
  · skip
    rcases b2 with _ | _
    · go_enter Try.func66, Try.ntmps66
      go_wp2_with fail
      refine (H_b1.out _ Hb.out).mono ?_
      rintro e wb1 ⟨rfl, hb⟩
      replace k0 := Below.cell_some hb k0
      replace k1 := Below.cell_some hb k1
      replace Hb := Lib.hid (Hb.out.trans (hb.mono Hb.out.size))
      clear hb
      go_wp2_with fail
      refine (H_b2.out _ Hb.out).mono ?_
      rintro e wb2 ⟨rfl, hb⟩
      replace k0 := Below.cell_some hb k0
      replace k1 := Below.cell_some hb k1
      replace Hb := Lib.hid (Hb.out.trans (hb.mono Hb.out.size))
      clear hb
      go_wp2_with fail
      go_ret
      exact ⟨ret_bool HE.out.symm, Hb.out⟩
    · skip
      rcases b3 with _ | _
      · go_enter Try.func66, Try.ntmps66
        go_wp2_with fail
        refine (H_b1.out _ Hb.out).mono ?_
        rintro e wb1 ⟨rfl, hb⟩
        replace k0 := Below.cell_some hb k0
        replace k1 := Below.cell_some hb k1
        replace Hb := Lib.hid (Hb.out.trans (hb.mono Hb.out.size))
        clear hb
        go_wp2_with fail
        refine (H_b2.out _ Hb.out).mono ?_
        rintro e wb2 ⟨rfl, hb⟩
        replace k0 := Below.cell_some hb k0
        replace k1 := Below.cell_some hb k1
        replace Hb := Lib.hid (Hb.out.trans (hb.mono Hb.out.size))
        clear hb
        go_wp2_with fail
        refine (H_b3.out _ Hb.out).mono ?_
        rintro e wb3 ⟨rfl, hb⟩
        replace k0 := Below.cell_some hb k0
        replace k1 := Below.cell_some hb k1
        replace Hb := Lib.hid (Hb.out.trans (hb.mono Hb.out.size))
        clear hb
        go_wp2_with fail
        go_ret
        exact ⟨ret_bool HE.out.symm, Hb.out⟩
      · skip
        rcases b4 with _ | _
        · go_enter Try.func66, Try.ntmps66
          go_wp2_with fail
          refine (H_b1.out _ Hb.out).mono ?_
          rintro e wb1 ⟨rfl, hb⟩
          replace k0 := Below.cell_some hb k0
          replace k1 := Below.cell_some hb k1
          replace Hb := Lib.hid (Hb.out.trans (hb.mono Hb.out.size))
          clear hb
          go_wp2_with fail
          refine (H_b2.out _ Hb.out).mono ?_
          rintro e wb2 ⟨rfl, hb⟩
          replace k0 := Below.cell_some hb k0
          replace k1 := Below.cell_some hb k1
          replace Hb := Lib.hid (Hb.out.trans (hb.mono Hb.out.size))
          clear hb
          go_wp2_with fail
          refine (H_b3.out _ Hb.out).mono ?_
          rintro e wb3 ⟨rfl, hb⟩
          replace k0 := Below.cell_some hb k0
          replace k1 := Below.cell_some hb k1
          replace Hb := Lib.hid (Hb.out.trans (hb.mono Hb.out.size))
          clear hb
          go_wp2_with fail
          refine (H_b4.out _ Hb.out).mono ?_
          rintro e wb4 ⟨rfl, hb⟩
          replace k0 := Below.cell_some hb k0
          replace k1 := Below.cell_some hb k1
          replace Hb := Lib.hid (Hb.out.trans (hb.mono Hb.out.size))
          clear hb
          go_wp2_with fail
          go_ret
          exact ⟨ret_bool HE.out.symm, Hb.out⟩
        · skip
          go_enter Try.func66, Try.ntmps66
          go_wp2_with fail
          refine (H_b1.out _ Hb.out).mono ?_
          rintro e wb1 ⟨rfl, hb⟩
          replace k0 := Below.cell_some hb k0
          replace k1 := Below.cell_some hb k1
          replace Hb := Lib.hid (Hb.out.trans (hb.mono Hb.out.size))
          clear hb
          go_wp2_with fail
          refine (H_b2.out _ Hb.out).mono ?_
          rintro e wb2 ⟨rfl, hb⟩
          replace k0 := Below.cell_some hb k0
          replace k1 := Below.cell_some hb k1
          replace Hb := Lib.hid (Hb.out.trans (hb.mono Hb.out.size))
          clear hb
          go_wp2_with fail
          refine (H_b3.out _ Hb.out).mono ?_
          rintro e wb3 ⟨rfl, hb⟩
          replace k0 := Below.cell_some hb k0
          replace k1 := Below.cell_some hb k1
          replace Hb := Lib.hid (Hb.out.trans (hb.mono Hb.out.size))
          clear hb
          go_wp2_with fail
          refine (H_b4.out _ Hb.out).mono ?_
          rintro e wb4 ⟨rfl, hb⟩
          replace k0 := Below.cell_some hb k0
          replace k1 := Below.cell_some hb k1
          replace Hb := Lib.hid (Hb.out.trans (hb.mono Hb.out.size))
          clear hb
          go_wp2_with fail
          refine (H_b5.out _ Hb.out).mono ?_
          rintro e wb5 ⟨rfl, hb⟩
          replace k0 := Below.cell_some hb k0
          replace k1 := Below.cell_some hb k1
          replace Hb := Lib.hid (Hb.out.trans (hb.mono Hb.out.size))
          clear hb
          go_wp2_with fail
          go_ret
          exact ⟨ret_bool HE.out.symm, Hb.out⟩

end Go.Proofs.Ytpbppgfogepjeaa
