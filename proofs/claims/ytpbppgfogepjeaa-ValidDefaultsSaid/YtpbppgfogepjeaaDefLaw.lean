/- Defaults taken twice are taken once; what may be, may be with them. No condition; no program. -/
import Derived.Test.YtpbppgfogepjeaaDefault
import Derived.Test.YtpbppgfogepjeaaDefBig
namespace Go.Proofs.Ytpbppgfogepjeaa
open Go.ChangeShapes Go.WideShapes Go.ChangeAt Go.RowKit Go.Deep

theorem fill_row {b : BehV} {s : RowV Policy} (h : (rowU b).Like s) : fillB { b with P := s } = false := by
  unfold rowU at h
  split at h
  · have := h.1
    unfold fillB
    dsimp only
    rw [this]
    rfl
  · rename_i hb
    have e : fillB { b with P := s } = fillB b := by unfold fillB; dsimp only; rw [h.1]
    rw [e]
    simpa using hb
theorem fill_rowD {b : BehV} {s : RowV Policy} (h : (rowD b).Like s) : fillB { b with P := s } = false := by
  unfold rowD at h
  split at h
  · have := h.1
    unfold fillB
    dsimp only
    rw [this]
    rfl
  · rename_i hb
    have e : fillB { b with P := s } = fillB b := by unfold fillB; dsimp only; rw [h.1]
    rw [e]
    simpa using hb
theorem rowU_no {b : BehV} (h : fillB b = false) : rowU b = b.P := by unfold rowU; rw [h]; rfl
theorem rowD_no {b : BehV} (h : fillB b = false) : rowD b = b.P := by unfold rowD; rw [h]; rfl
theorem clamp_idem (g : GroupV) : clampV (clampV g) = clampV g := by
  unfold clampV
  dsimp only
  congr 1
  omega
theorem def_idem {kd : Int} {o : ShapesV} {r : Rows14} (h : (defV kd o).rows.Like r) : defV kd ((defV kd o).with r) = (defV kd o).with r := by
  unfold defV at h ⊢
  by_cases h4 : kd = 4
  · simp only [if_pos h4] at h ⊢
    have a := rowU_no (fill_row (b := o.h.up) (s := r.hU) h.hU)
    have b := rowD_no (fill_rowD (b := o.h.down) (s := r.hD) h.hD)
    show ShapesV.mk _ _ _ _ (shapeV _) = _
    unfold shapeV
    have a' : rowU (({ o with h := o.h.rows o.h.M (rowU o.h.up) (rowD o.h.down) o.h.past } : ShapesV).with r).h.up = r.hU := a
    have b' : rowD (({ o with h := o.h.rows o.h.M (rowU o.h.up) (rowD o.h.down) o.h.past } : ShapesV).with r).h.down = r.hD := b
    rw [a', b']
    rfl
  · simp only [if_neg h4] at h ⊢
    by_cases h3 : kd = 3
    · simp only [if_pos h3] at h ⊢
      have := clamp_idem o.g
      show ShapesV.mk _ _ _ (clampV _) _ = _
      unfold clampV at this ⊢
      simp only [ShapesV.with]
      congr 2
      have := congrArg GroupV.target this
      exact this
    · simp only [if_neg h3]
theorem like_check {kd : Int} {nm : ByteArray} {o : ShapesV} {r : Rows14} (h : o.rows.Like r) : checkOf kd nm (o.with r) = checkOf kd nm o := by
  obtain ⟨⟨a1, b1⟩, ⟨a2, b2⟩, ⟨a3, b3⟩, ⟨a4, b4⟩, ⟨a5, b5⟩, ⟨a6, b6⟩, ⟨a7, b7⟩, ⟨a8, b8⟩, ⟨a9, b9⟩, ⟨a10, b10⟩, ⟨a11, b11⟩, ⟨a12, b12⟩, ⟨a13, b13⟩, ⟨a14, b14⟩⟩ := h
  simp only [ShapesV.rows] at a1 b1 a2 b2 a3 b3 a4 b4 a5 b5 a6 b6 a7 b7 a8 b8 a9 b9 a10 b10 a11 b11 a12 b12 a13 b13 a14 b14
  simp only [checkOf, mayOk, wlOk, podOk, nodeOk, groupOk, hpaOk, behOk, emptiesOk, wlNo, podNo, nodeNo, groupNo, hpaNo, ShapesV.with, a1, a2, a3, a4, a5, a6, a7, a8, a9, a10, a11, a12, a13, a14, b1, b2, b3, b4, b5, b6, b7, b8, b9, b10, b11, b12, b13, b14]
  rfl
theorem check_may {kd : Int} {nm : ByteArray} {o : ShapesV} (h : checkOf kd nm o = 0) : mayOk kd o = true ∧ emptiesOk kd o = true := by
  unfold checkOf at h
  split at h
  · cases h
  · split at h
    · cases h
    · split at h
      · rename_i h1
        rw [Bool.and_eq_true] at h1
        exact h1
      · cases h
theorem check_set {kd : Int} {nm : ByteArray} {o o' : ShapesV} (h : checkOf kd nm o = 0) (h1 : mayOk kd o' = true) (h2 : emptiesOk kd o' = true) : checkOf kd nm o' = 0 := by
  unfold checkOf at h ⊢
  split at h
  · cases h
  · rename_i q1
    rw [if_neg q1]
    split at h
    · cases h
    · rename_i q2
      rw [if_neg q2, h1, h2]
      rfl
theorem beh_up {b : BehV} (h : behOk b = true) : behOk { b with P := rowU b } = true := by
  unfold behOk at h ⊢
  simp only [Bool.and_eq_true] at h ⊢
  refine ⟨h.1, h.2.1, ?_⟩
  unfold rowU
  split
  · decide
  · exact h.2.2
theorem beh_down {b : BehV} (h : behOk b = true) : behOk { b with P := rowD b } = true := by
  unfold behOk at h ⊢
  simp only [Bool.and_eq_true] at h ⊢
  refine ⟨h.1, h.2.1, ?_⟩
  unfold rowD
  split
  · decide
  · exact h.2.2
theorem def_check {kd : Int} {nm : ByteArray} {o : ShapesV} (h : checkOf kd nm o = 0) : checkOf kd nm (defV kd o) = 0 := by
  obtain ⟨h1, h2⟩ := check_may h
  by_cases h4 : kd = 4
  · refine check_set h ?_ ?_
    · unfold mayOk defV at *
      rw [if_neg (by omega), if_neg (by omega), if_neg (by omega), if_neg (by omega)] at h1
      rw [if_neg (by omega), if_neg (by omega), if_neg (by omega), if_neg (by omega), if_pos h4]
      unfold hpaOk at h1 ⊢
      simp only [Bool.and_eq_true] at h1 ⊢
      obtain ⟨c1, c2, c3, c4, c5, c6, c7, c8, c9, c10⟩ := h1
      exact ⟨c1, c2, c3, c4, c5, c6, c7, beh_up c8, beh_down c9, c10⟩
    · unfold emptiesOk defV at *
      rw [if_pos h4]
      simp only [Bool.and_eq_true] at h2 ⊢
      refine ⟨h2.1, ?_⟩
      rw [show (kd == 4) = true by simpa using h4, Bool.or_true]
  · by_cases h3 : kd = 3
    · have e : defV kd o = o := by
        unfold defV
        rw [if_neg h4, if_pos h3]
        unfold mayOk at h1
        rw [if_neg (by omega), if_neg (by omega), if_neg (by omega), if_pos h3] at h1
        unfold groupOk btw at h1
        simp only [Bool.and_eq_true, decide_eq_true_eq] at h1
        have : clampV o.g = o.g := by
          have hm : min (max o.g.target o.g.min) o.g.max = o.g.target := by omega
          show GroupV.mk _ _ (min (max o.g.target o.g.min) o.g.max) _ _ _ _ _ = _
          rw [hm]
        rw [this]
      rw [e]
      exact h
    · unfold defV
      rw [if_neg h4, if_neg h3]
      exact h
theorem same_eq {kd : Int} {nm : ByteArray} {ver : Int} {o o' : ShapesV} (h : objS kd nm ver o = objS kd nm ver o') : sameB kd nm ver o kd nm ver o' = true := by
  unfold sameB
  rw [h, strB_is]
  unfold flatB
  rw [strB_is]
  split <;> simp
theorem hpa_like {hd : ByteArray} {h : HpaV} {M : RowV Metric} {U D : RowV Policy} {T : RowV Scaled} (lM : h.M.Like M) (lU : (rowU h.up).Like U) (lD : (rowD h.down).Like D) (lT : h.past.Like T) : hpaS hd (h.rows M U D T) = hpaS hd (shapeV h) := by
  obtain ⟨a1, b1⟩ := lM
  obtain ⟨a2, b2⟩ := lU
  obtain ⟨a3, b3⟩ := lD
  obtain ⟨a4, b4⟩ := lT
  simp only [hpaS, hpa1S, hpa2S, shapeV, HpaV.rows, a1, b1, b2, b3, a4, b4]
theorem few_rows {o : ShapesV} (f : Few30 o) : o.rows.Few := by
  have := f.sum
  exact ⟨by have := f.h0; show o.w.L.la ≤ _; omega, by have := f.h1; show o.w.T.la ≤ _; omega, by have := f.h2; show o.p.L.la ≤ _; omega, by have := f.h3; show o.p.T.la ≤ _; omega, by have := f.h4; show o.n.L.la ≤ _; omega, by have := f.h5; show o.n.T.la ≤ _; omega, by have := f.h6; show o.g.L.la ≤ _; omega, by have := f.h7; show o.g.T.la ≤ _; omega,
    by show o.w.S.la ≤ _; omega, by show o.p.S.la ≤ _; omega, by show o.h.M.la ≤ _; omega, by show o.h.up.P.la ≤ _; omega, by show o.h.down.P.la ≤ _; omega, by show o.h.past.la ≤ _; omega⟩
theorem few_like {r s : Rows14} (f : r.Few) (h : r.Like s) : s.Few :=
  ⟨h.wL.1 ▸ f.wL, h.wT.1 ▸ f.wT, h.pL.1 ▸ f.pL, h.pT.1 ▸ f.pT, h.nL.1 ▸ f.nL, h.nT.1 ▸ f.nT, h.gL.1 ▸ f.gL, h.gT.1 ▸ f.gT, h.wS.1 ▸ f.wS, h.pS.1 ▸ f.pS, h.hM.1 ▸ f.hM, h.hU.1 ▸ f.hU, h.hD.1 ▸ f.hD, h.hP.1 ▸ f.hP⟩
theorem few_def {kd : Int} {o : ShapesV} (f : o.rows.Few) : (defV kd o).rows.Few := by
  unfold defV
  split
  · refine ⟨f.wL, f.wT, f.pL, f.pT, f.nL, f.nT, f.gL, f.gT, f.wS, f.pS, f.hM, ?_, ?_, f.hP⟩
    · show (rowU o.h.up).la ≤ _
      unfold rowU
      split
      · decide
      · exact f.hU
    · show (rowD o.h.down).la ≤ _
      unfold rowD
      split
      · decide
      · exact f.hD
  · split
    · exact ⟨f.wL, f.wT, f.pL, f.pT, f.nL, f.nT, f.gL, f.gT, f.wS, f.pS, f.hM, f.hU, f.hD, f.hP⟩
    · exact f
end Go.Proofs.Ytpbppgfogepjeaa
