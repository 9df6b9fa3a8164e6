/- The symmetric merge at any elements. Condition: the row lies in a block of its own. -/
import Derived.Test.YtjncoloedakpoaaDoorStOb7
namespace Go.Proofs.YtjncoloedakpoaaDoor
open Go.ChangeShapes Go.WideShapes Go.ChangeAt Go.RowKit Go.Deep

def SymAt (N : Nat) : Prop := ∀ (P L R S : List TOb) (rest : List Value) (gb n cap a m b : Nat) (w : World), b - a ≤ N → SRowK tOb 44 w w gb rest (P ++ L ++ R ++ S) → (P ++ L ++ R ++ S).length = n → n < 4611686018427387904 →
    P.length = a → a + L.length = m → m + R.length = b → 0 < L.length → 0 < R.length → L.Pairwise TOOb → R.Pairwise TOOb → (∀ x ∈ L, ∀ y ∈ R, x.2 < y.2) →
    Calls Tryd.prog 68 #[.slice (some ⟨gb, 0, none⟩) n cap, .int .i64 a, .int .i64 m, .int .i64 b, .func (.func 49) #[] #[]] w fun e w' => e = .returned (.tuple #[]) ∧ ∃ M, MrgOK TOOb L R M ∧ SRowK tOb 44 w w' gb rest (P ++ M ++ S)

set_option maxRecDepth 100000 in
set_option maxHeartbeats 1500000 in
theorem sym3_Ob (N : Nat) (IH : SymAt N) (P L R S : List TOb) (rest : List Value) (gb n cap a m b : Nat) (w : World) (hNb : b - a ≤ N + 1) (hR : SRowK tOb 44 w w gb rest (P ++ L ++ R ++ S)) (hn : (P ++ L ++ R ++ S).length = n) (hcm : n < 4611686018427387904)
    (ha : P.length = a) (hm : a + L.length = m) (hb : m + R.length = b) (hL1 : 1 < L.length) (hR1 : 1 < R.length) (hLs : L.Pairwise TOOb) (hRs : R.Pairwise TOOb) (htag : ∀ x ∈ L, ∀ y ∈ R, x.2 < y.2) :
    Calls Tryd.prog 68 #[.slice (some ⟨gb, 0, none⟩) n cap, .int .i64 a, .int .i64 m, .int .i64 b, .func (.func 49) #[] #[]] w fun e w' => e = .returned (.tuple #[]) ∧ ∃ M, MrgOK TOOb L R M ∧ SRowK tOb 44 w w' gb rest (P ++ M ++ S) := by
  have hbn : b ≤ n := by simp at hn; omega
  have HR := Lib.hid hR
  obtain ⟨d, hd⟩ : ∃ d, P ++ L ++ R ++ S = d := ⟨_, rfl⟩
  rw [hd] at hn HR
  have HN := Lib.hid hn
  have HD := Lib.hid hd
  obtain ⟨mid, hmid⟩ : ∃ mid, mid = (a + b) / 2 := ⟨_, rfl⟩
  obtain ⟨nn, hnn⟩ : ∃ nn, mid + m = nn := ⟨_, rfl⟩
  obtain ⟨pp, hpp⟩ : ∃ pp, nn - 1 = pp := ⟨_, rfl⟩
  obtain ⟨s0, hs0⟩ : ∃ s0, (if mid < m then mid + m - b else a) = s0 := ⟨_, rfl⟩
  obtain ⟨r0, hr0⟩ : ∃ r0, (if mid < m then mid else m) = r0 := ⟨_, rfl⟩
  have hne1 : ((m : Int) - (a : Int) == 1) = false := by rw [beq_eq_false_iff_ne]; omega
  have hne2 : ¬ ((m : Int) - (a : Int) = 1) := by omega
  have hne3 : ((b : Int) - (m : Int) == 1) = false := by rw [beq_eq_false_iff_ne]; omega
  have hne4 : ¬ ((b : Int) - (m : Int) = 1) := by omega
  have f1 : ((a : Int) + (b : Int)) / 2 = (mid : Int) := by omega
  have f2 : (mid : Int) + (m : Int) = (nn : Int) := by omega
  have f3 : (nn : Int) - 1 = (pp : Int) := by omega
  have hbd : a ≤ s0 ∧ s0 ≤ r0 ∧ r0 ≤ m ∧ r0 ≤ mid ∧ nn - s0 ≤ b ∧ m ≤ nn - r0 ∧ (s0 = a ∨ (s0 + b = nn)) ∧ mid < b ∧ a < mid ∧ nn ≤ 2 * n := by
    split at hs0 <;> split at hr0 <;> omega
  have HSy : Hid (Sym cfOb d a m b mid s0 r0) := by
    refine ⟨?_, hbd.2.1, ?_, .inl ?_, .inl ?_⟩
    · rw [hs0]
      exact Nat.le_refl _
    · rw [hr0]
      exact Nat.le_refl _
    · exact hs0.symm
    · exact hr0.symm
  have Hs0 := Lib.hid hs0
  have Hr0 := Lib.hid hr0
  have Hnn := Lib.hid hnn
  have Hpp := Lib.hid hpp
  have Hmid := Lib.hid hmid
  have Ha := Lib.hid ha
  have Hm := Lib.hid hm
  have Hb := Lib.hid hb
  have HLs := Lib.hid hLs
  have HRs := Lib.hid hRs
  have HTg := Lib.hid htag
  have HIH := Lib.hid IH
  have HNb := Lib.hid hNb
  have hmn : m < n := by omega
  have ham : a ≤ m := by omega
  have hmb : m ≤ b := by omega
  have hmidn : mid < n := by omega
  have hnn2 : nn < 2 * n := by omega
  have hsr0 : s0 ≤ r0 ∧ r0 ≤ m := by omega
  have hppn : pp < 2 * n := by omega
  have Hbd := Lib.hid hbd
  clear hR hd hn hmid ha hm hb hL1 hR1 hLs hRs htag IH hNb hpp hbd
  go_enter Tryd.func68, Tryd.ntmps68
  go_upto_if 140 with fail
  go_cut [20, 21] from 138 (fun va vb wx => va = .int .i64 s0 ∧ vb = .int .i64 r0 ∧ w = wx)
  case first =>
    by_cases hmm : mid < m
    · have hdm : decide (mid < m) = true := decide_eq_true hmm
      rw [if_pos hmm] at hs0 hr0
      subst hr0
      have f4 : (nn : Int) - (b : Int) = (s0 : Int) := by have := Hbd.out; omega
      clear hs0
      go_wp2_with fail
      go_meet
      case rel => exact ⟨rfl, rfl, rfl⟩
    · have hdm : decide (mid < m) = false := decide_eq_false hmm
      rw [if_neg hmm] at hs0 hr0
      subst hs0 hr0
      go_wp2_with fail
      go_meet
      case rel => exact ⟨rfl, rfl, rfl⟩
  case rest =>
  obtain ⟨rfl, rfl, rfl⟩ := hcut
  clear hs0 hr0 hnn
  go_wp2_with fail
  go_loopw [20, 21, 23] (fun vs vr _ wr => ∃ (s r : Nat), vs = .int .i64 s ∧ vr = .int .i64 r ∧ s0 ≤ s ∧ s ≤ r ∧ r ≤ r0 ∧ Hid (SRowK tOb 44 w wr gb rest d) ∧ Hid (Sym cfOb d a m b mid s r)) (fun vs vr _ _ => (intOf vr).toNat - (intOf vs).toNat)
  case atStart => exact ⟨s0, r0, rfl, rfl, Nat.le_refl _, Hbd.out.2.1, Nat.le_refl _, HR.out, HSy.out⟩
  case round =>
    obtain ⟨s, r, rfl, rfl, hs0s, hsr, hrr, hS, hC⟩ := hrel
    obtain ⟨wp, rfl⟩ : ∃ wp : World, wp = wr := ⟨_, rfl⟩
    by_cases hlt : s < r
    · obtain ⟨c, hc⟩ : ∃ c : Nat, c = (s + r) / 2 := ⟨_, rfl⟩
      have hci : ((s : Int) + (r : Int)) / 2 = (c : Int) := by omega
      have hsc : s ≤ c := by omega
      have hcr : c < r := by omega
      obtain ⟨pc, hpc⟩ : ∃ pc, pp - c = pc := ⟨_, rfl⟩
      have hbd := Hbd.out
      have hppe := Hpp.out
      have hnne := Hnn.out
      have hcp : c ≤ pp := by omega
      have f5 : (pp : Int) - (c : Int) = (pc : Int) := by omega
      have hcn : c < n := by omega
      have hpn : pc < n := by omega
      have w9 : IntKind.i64.wrap (pc : Int) = (pc : Int) := IntWalk.i64_in _ (by omega)
      have hl0 : d.length = n := HN.out
      obtain ⟨x, hx⟩ : ∃ x, d[c]'(by omega) = x := ⟨_, rfl⟩
      obtain ⟨y, hy⟩ : ∃ y, d[pc]'(by omega) = y := ⟨_, rfl⟩
      have ce := hS.out.at_ lenOb (i := c) (by omega)
      have pe := hS.out.at_ lenOb (i := pc) (by omega)
      rw [hx] at ce
      rw [hy] at pe
      have gx : d[c]? = some x := by rw [List.getElem?_eq_getElem (by omega), hx]
      have gy : d[pc]? = some y := by rw [List.getElem?_eq_getElem (by omega), hy]
      have hY : cfOb y x < 0 → Sym cfOb d a m b mid s c := fun hh => sym_yes hC.out hsc hcr (by omega) gx gy hh
      have hN : ¬ cfOb y x < 0 → Sym cfOb d a m b mid (c + 1) r := fun hh => sym_no hC.out hsc hcr (by omega) gx gy hh
      have HY := Lib.hid hY
      have HNo := Lib.hid hN
      have HCm := Lib.hid (fun w1 => cmpOb y x w1)
      obtain ⟨cv, hcv⟩ : ∃ c, cfOb y x = c := ⟨_, rfl⟩
      rw [hcv] at HCm HY HNo
      have hslt := hS.out.lt
      have hS' := hS
      clear hx hy gx gy hY hN hcv hl0 hc hpc hbd hppe hnne
      replace ce := BW.cells ce
      replace pe := BW.cells pe
      go_upto_region 35 with fail
      refine wp_region_head_lit 13 (fun w' => ∃ p : BW wp, w' = p.w') (by kernel_rfl) (by kernel_rfl) ⟨⟨{ wp with drawn := wp.drawn + 1 }, ⟨rfl, rfl, rfl, Nat.le_refl _, fun _ _ => rfl⟩⟩, rfl⟩ ?_
      simp only [List.take_succ_cons, List.take_zero, List.drop_succ_cons, List.drop_zero]
      repeat (first | (refine wpQuiet_load aggOb rfl _ rfl _ rfl _ (lenOb _) (by rintro _ ⟨bw, rfl⟩; exact ce bw) ?_) | (refine wpQuiet_load aggOb rfl _ rfl _ rfl _ (lenOb _) (by rintro _ ⟨bw, rfl⟩; exact pe bw) ?_) | quiet_step (first | (go_at_call 49; exact BW.call _ (HCm.out _)) | exact rfl))
      refine wpQuiet_nil ?_
      intro w3 hw'
      obtain ⟨⟨_, hb3⟩, e3⟩ := hw'
      dsimp only at e3
      subst e3
      have HS3 := Lib.hid (hS'.out.next hb3)
      clear hb3 ce pe
      by_cases hcn : cv < 0
      · have hd : decide (cv < 0) = true := decide_eq_true hcn
        have HC2 := Lib.hid (HY.out (by omega))
        go_wp2_with fail
        go_roundw
        case rel => exact ⟨s, c, rfl, rfl, hs0s, hsc, by omega, HS3.out, HC2.out⟩
        case measure => simp [intOf]; omega
      · have hd : decide (cv < 0) = false := decide_eq_false hcn
        have HC2 := Lib.hid (HNo.out (by omega))
        go_wp2_with fail
        go_roundw
        case rel => exact ⟨c + 1, r, by go_num, rfl, by omega, by omega, hrr, HS3.out, HC2.out⟩
        case measure => simp [intOf]; omega
    · obtain rfl : s = r := by omega
      have hbd := Hbd.out
      have hnne := Hnn.out
      obtain ⟨en, hen⟩ : ∃ en, nn - s = en := ⟨_, rfl⟩
      have f6 : (nn : Int) - (s : Int) = (en : Int) := by omega
      have hss : a ≤ s ∧ s ≤ m ∧ s ≤ mid ∧ m ≤ en ∧ en ≤ b ∧ mid ≤ en + 0 + mid := by omega
      obtain ⟨L1, L2, R1, R2, hL, hRR, l1, l2, l3, l4, cr1, cr2⟩ := sym_parts ordOb HD.out.symm Ha.out Hm.out Hb.out Hmid.out HLs.out HRs.out HTg.out (by omega) (by omega) (by omega) (by omega) (by omega) hC.out.2.2.2.1 hC.out.2.2.2.2
      have l3' : R1.length = en - m := by omega
      have l4' : R2.length = b - en := by omega
      have hmm : mid + m = s + en := by omega
      have HLe := Lib.hid hL
      have HRe := Lib.hid hRR
      have HC1 := Lib.hid cr1
      have HC2 := Lib.hid cr2
      have H1 := Lib.hid l1
      have H2 := Lib.hid l2
      have H3 := Lib.hid l3'
      have H4 := Lib.hid l4'
      have HMm := Lib.hid hmm
      have hS' := hS
      have HSs := Lib.hid hss
      have hdt : Hid (d = P ++ (L1 ++ L2) ++ (R1 ++ R2) ++ S) := by show _ = _; rw [← HD.out, hL, hRR]
      clear hbd hnne hen hC hlt hL hRR l1 l2 l3 l4 l3' l4' cr1 cr2 hmm hss
      go_upto_region 39 with fail
      go_cut [24, 185] from 178 (fun ve vt wx => ve = .int .i64 en ∧ vt = .bool (decide (s < m ∧ m < en)) ∧ wp = wx)
      case first =>
        by_cases h1 : s < m
        · have hd1 : decide (s < m) = true := decide_eq_true h1
          by_cases h2 : m < en
          · have hd2 : decide (m < en) = true := decide_eq_true h2
            go_wp2_with fail
            go_meet
            case rel => exact ⟨rfl, congrArg Value.bool (decide_eq_true (p := s < m ∧ m < en) ⟨h1, h2⟩).symm, rfl⟩
          · have hd2 : decide (m < en) = false := decide_eq_false h2
            go_wp2_with fail
            go_meet
            case rel => exact ⟨rfl, congrArg Value.bool (decide_eq_false (p := s < m ∧ m < en) (fun h => h2 h.2)).symm, rfl⟩
        · have hd1 : decide (s < m) = false := decide_eq_false h1
          go_wp2_with fail
          go_meet
          case rel => exact ⟨rfl, congrArg Value.bool (decide_eq_false (p := s < m ∧ m < en) (fun h => h1 h.1)).symm, rfl⟩
      case rest =>
      obtain ⟨rfl, rfl, rfl⟩ := hcut
      go_upto_if 185 with fail
      go_cut [24] from 178 (fun ve wx => ve = .int .i64 en ∧ Hid (SRowK tOb 44 w wx gb rest (P ++ (L1 ++ R1) ++ (L2 ++ R2) ++ S)))
      case first =>
        by_cases h12 : s < m ∧ m < en
        · rw [decide_eq_true h12]
          have h1 := h12.1
          have h2 := h12.2
          have hrow := hS'.out
          rw [hdt.out, show P ++ (L1 ++ L2) ++ (R1 ++ R2) ++ S = (P ++ L1) ++ L2 ++ R1 ++ (R2 ++ S) by simp] at hrow
          have HRt := Lib.hid (rotate_Ob (P ++ L1) L2 R1 (R2 ++ S) rest gb n cap s m en wp hrow.self (by have h := HN.out; rw [hdt.out] at h; rw [← h]; simp) hcm (by have := Ha.out; have := H1.out; have := HSs.out; simp; omega) (by have := H2.out; omega) (by have := H3.out; omega) (by have := H2.out; omega) (by have := H3.out; omega))
          have HR0 := Lib.hid hrow
          clear hrow
          go_wp2_with fail
          refine HRt.out.mono ?_
          rintro e w4 ⟨rfl, h4⟩
          have H4r := Lib.hid (HR0.out.trans h4)
          clear h4
          go_wp2_with fail
          go_meet
          case rel => exact ⟨rfl, by have h := H4r.out; rw [show (P ++ L1) ++ R1 ++ L2 ++ (R2 ++ S) = P ++ (L1 ++ R1) ++ (L2 ++ R2) ++ S by simp] at h; exact h⟩
        · rw [decide_eq_false h12]
          by_cases h1 : s < m
          · have h2 : ¬ m < en := fun h => h12 ⟨h1, h⟩
            have hz : R1 = [] := List.eq_nil_of_length_eq_zero (by have := H3.out; omega)
            have hrow := hS'.out
            rw [hdt.out, hz, show P ++ (L1 ++ L2) ++ ([] ++ R2) ++ S = P ++ (L1 ++ []) ++ (L2 ++ R2) ++ S by simp] at hrow
            rw [← hz] at hrow
            have HR0 := Lib.hid hrow
            clear hrow hz
            go_wp2_with fail
            go_meet
            case rel => exact ⟨rfl, HR0.out⟩
          · skip
            have hz : L2 = [] := List.eq_nil_of_length_eq_zero (by have := H2.out; omega)
            have hrow := hS'.out
            rw [hdt.out, hz, show P ++ (L1 ++ []) ++ (R1 ++ R2) ++ S = P ++ (L1 ++ R1) ++ ([] ++ R2) ++ S by simp] at hrow
            rw [← hz] at hrow
            have HR0 := Lib.hid hrow
            clear hrow hz
            go_wp2_with fail
            go_meet
            case rel => exact ⟨rfl, HR0.out⟩
      case rest =>
      obtain ⟨rfl, h5⟩ := hcut
      obtain ⟨wx, rfl⟩ : ∃ wx : World, wx = wc := ⟨_, rfl⟩
      have hLp := List.pairwise_append.1 (by have h := HLs.out; rw [HLe.out] at h; exact h)
      have hRp := List.pairwise_append.1 (by have h := HRs.out; rw [HRe.out] at h; exact h)
      have hT1 : ∀ x ∈ L1, ∀ y ∈ R1, x.2 < y.2 := fun x hx y hy => HTg.out x (by rw [HLe.out]; exact List.mem_append.2 (.inl hx)) y (by rw [HRe.out]; exact List.mem_append.2 (.inl hy))
      have hT2 : ∀ x ∈ L2, ∀ y ∈ R2, x.2 < y.2 := fun x hx y hy => HTg.out x (by rw [HLe.out]; exact List.mem_append.2 (.inr hx)) y (by rw [HRe.out]; exact List.mem_append.2 (.inr hy))
      have HLp := Lib.hid hLp
      have HRp := Lib.hid hRp
      have HT1 := Lib.hid hT1
      have HT2 := Lib.hid hT2
      have HP1 : Hid (s + R1.length = mid) := by have := H3.out; have := HMm.out; have := HSs.out; show _ = _; omega
      have HP2 : Hid (mid + L2.length = en) := by have := H2.out; have := HMm.out; have := HSs.out; show _ = _; omega
      have HP0 : Hid (a + L1.length = s) := by have := H1.out; have := HSs.out; show _ = _; omega
      have HP3 : Hid (en + R2.length = b) := by have := H4.out; have := HSs.out; show _ = _; omega
      have HNl : Hid ((P ++ (L1 ++ R1) ++ (L2 ++ R2) ++ S).length = n) := by have h := HN.out; rw [hdt.out] at h; show _ = _; rw [← h]; simp; omega
      clear hLp hRp hT1 hT2
      go_upto_region 41 with fail
      go_cut [24, 199] from 192 (fun ve vt wy => ve = .int .i64 en ∧ vt = .bool (decide (a < s ∧ s < mid)) ∧ wx = wy)
      case first =>
        by_cases h1 : a < s
        · have hd1 : decide (a < s) = true := decide_eq_true h1
          by_cases h2 : s < mid
          · have hd2 : decide (s < mid) = true := decide_eq_true h2
            go_wp2_with fail
            go_meet
            case rel => exact ⟨rfl, congrArg Value.bool (decide_eq_true (p := a < s ∧ s < mid) ⟨h1, h2⟩).symm, rfl⟩
          · have hd2 : decide (s < mid) = false := decide_eq_false h2
            go_wp2_with fail
            go_meet
            case rel => exact ⟨rfl, congrArg Value.bool (decide_eq_false (p := a < s ∧ s < mid) (fun h => h2 h.2)).symm, rfl⟩
        · have hd1 : decide (a < s) = false := decide_eq_false h1
          go_wp2_with fail
          go_meet
          case rel => exact ⟨rfl, congrArg Value.bool (decide_eq_false (p := a < s ∧ s < mid) (fun h => h1 h.1)).symm, rfl⟩
      case rest =>
      obtain ⟨rfl, rfl, rfl⟩ := hcut
      go_upto_if 199 with fail
      go_cut [24] from 192 (fun ve wy => ve = .int .i64 en ∧ Hid (∃ M1, MrgOK TOOb L1 R1 M1 ∧ SRowK tOb 44 w wy gb rest (P ++ M1 ++ (L2 ++ R2) ++ S)))
      case first =>
        by_cases h12 : a < s ∧ s < mid
        · rw [decide_eq_true h12]
          have hrow := h5.out
          rw [show P ++ (L1 ++ R1) ++ (L2 ++ R2) ++ S = P ++ L1 ++ R1 ++ ((L2 ++ R2) ++ S) by simp] at hrow
          have HI := Lib.hid (HIH.out P L1 R1 ((L2 ++ R2) ++ S) rest gb n cap a s mid wx (by have := HNb.out; have := HSs.out; have := Hbd.out; omega) hrow.self (by have h := HNl.out; rw [← h]; simp) hcm Ha.out HP0.out HP1.out (by have := HP0.out; omega) (by have := HP1.out; omega) HLp.out.1 HRp.out.1 HT1.out)
          have HR0 := Lib.hid hrow
          clear hrow
          go_wp2_with fail
          refine HI.out.mono ?_
          rintro e w4 ⟨rfl, M1, hM1, h4⟩
          have H6 : Hid (∃ M1, MrgOK TOOb L1 R1 M1 ∧ SRowK tOb 44 w w4 gb rest (P ++ M1 ++ (L2 ++ R2) ++ S)) := ⟨M1, hM1, by have h := HR0.out.trans h4; rw [show P ++ M1 ++ ((L2 ++ R2) ++ S) = P ++ M1 ++ (L2 ++ R2) ++ S by simp] at h; exact h⟩
          clear h4 hM1
          go_wp2_with fail
          go_meet
          case rel => exact ⟨rfl, H6.out⟩
        · rw [decide_eq_false h12]
          have H6 : Hid (∃ M1, MrgOK TOOb L1 R1 M1 ∧ SRowK tOb 44 w wx gb rest (P ++ M1 ++ (L2 ++ R2) ++ S)) := by
            by_cases h1 : a < s
            · have hz : R1 = [] := List.eq_nil_of_length_eq_zero (by have := HP1.out; have : ¬ s < mid := fun h => h12 ⟨h1, h⟩; omega)
              refine ⟨L1 ++ R1, ?_, h5.out⟩
              rw [hz, List.append_nil]
              exact mrg_left HLp.out.1
            · have hz : L1 = [] := List.eq_nil_of_length_eq_zero (by have := HP0.out; omega)
              refine ⟨L1 ++ R1, ?_, h5.out⟩
              rw [hz, List.nil_append]
              exact mrg_right HRp.out.1
          go_wp2_with fail
          go_meet
          case rel => exact ⟨rfl, H6.out⟩
      case rest =>
      obtain ⟨rfl, h6⟩ := hcut
      obtain ⟨wz, rfl⟩ : ∃ wz : World, wz = wc := ⟨_, rfl⟩
      obtain ⟨M1, hM1, h7⟩ := h6.out
      have HM1 := Lib.hid hM1
      have H7 := Lib.hid h7
      clear hM1 h7
      by_cases h12 : mid < en ∧ en < b
      · have hd1 : decide (mid < en) = true := decide_eq_true h12.1
        have hd2 : decide (en < b) = true := decide_eq_true h12.2
        have hrow := H7.out
        rw [show P ++ M1 ++ (L2 ++ R2) ++ S = (P ++ M1) ++ L2 ++ R2 ++ S by simp] at hrow
        have hl1 : M1.length = L1.length + R1.length := by rw [HM1.out.1.length_eq]; simp
        have HI := Lib.hid (HIH.out (P ++ M1) L2 R2 S rest gb n cap mid en b wz (by have := HNb.out; have := HSs.out; have := Hbd.out; omega) hrow.self (by have h := HNl.out; rw [← h]; simp; omega) hcm (by have := Ha.out; have := HP0.out; have := HP1.out; simp; omega) HP2.out HP3.out (by have := HP2.out; omega) (by have := HP3.out; omega) HLp.out.2.1 HRp.out.2.1 HT2.out)
        have HR0 := Lib.hid hrow
        have h1 := h12.1
        have h2 := h12.2
        clear hrow hl1 h12
        go_wp2_with fail
        refine HI.out.mono ?_
        rintro e w4 ⟨rfl, M2, hM2, h4⟩
        have H8 : Hid (SRowK tOb 44 w w4 gb rest (P ++ (M1 ++ M2) ++ S)) := by have h := HR0.out.trans h4; rw [show (P ++ M1) ++ M2 ++ S = P ++ (M1 ++ M2) ++ S by simp] at h; exact h
        have H9 : Hid (MrgOK TOOb L R (M1 ++ M2)) := by show MrgOK _ _ _ _; rw [HLe.out, HRe.out]; exact sym_join (by have h := HLs.out; rw [HLe.out] at h; exact h) (by have h := HRs.out; rw [HRe.out] at h; exact h) HC1.out HC2.out HM1.out hM2
        clear h4 hM2
        go_wp2_with fail
        refine bodyPost_end (v := .tuple #[]) (by simp [results, Tryd.results68, go_sem]) rfl ?_
        exact ⟨rfl, _, H9.out, H8.out⟩
      · have hM2 : MrgOK TOOb L2 R2 (L2 ++ R2) := by
          by_cases h1 : mid < en
          · have hz : R2 = [] := List.eq_nil_of_length_eq_zero (by have := HP3.out; have : ¬ en < b := fun h => h12 ⟨h1, h⟩; omega)
            rw [hz, List.append_nil]
            exact mrg_left HLp.out.2.1
          · have hz : L2 = [] := List.eq_nil_of_length_eq_zero (by have := HP2.out; omega)
            rw [hz, List.nil_append]
            exact mrg_right HRp.out.2.1
        have H8 : Hid (SRowK tOb 44 w wz gb rest (P ++ (M1 ++ (L2 ++ R2)) ++ S)) := by have h := H7.out; rw [show P ++ M1 ++ (L2 ++ R2) ++ S = P ++ (M1 ++ (L2 ++ R2)) ++ S by simp] at h; exact h
        have H9 : Hid (MrgOK TOOb L R (M1 ++ (L2 ++ R2))) := by show MrgOK _ _ _ _; rw [HLe.out, HRe.out]; exact sym_join (by have h := HLs.out; rw [HLe.out] at h; exact h) (by have h := HRs.out; rw [HRe.out] at h; exact h) HC1.out HC2.out HM1.out hM2
        clear hM2
        by_cases h1 : mid < en
        · have hd1 : decide (mid < en) = true := decide_eq_true h1
          have h2 : ¬ en < b := fun h => h12 ⟨h1, h⟩
          have hd2 : decide (en < b) = false := decide_eq_false h2
          clear h12
          go_wp2_with fail
          refine bodyPost_end (v := .tuple #[]) (by simp [results, Tryd.results68, go_sem]) rfl ?_
          exact ⟨rfl, _, H9.out, H8.out⟩
        · have hd1 : decide (mid < en) = false := decide_eq_false h1
          clear h12
          go_wp2_with fail
          refine bodyPost_end (v := .tuple #[]) (by simp [results, Tryd.results68, go_sem]) rfl ?_
          exact ⟨rfl, _, H9.out, H8.out⟩

theorem symMerge_Ob : ∀ N, SymAt N
  | 0 => fun P L R S rest gb n cap a m b w hN hR hn hcm ha hm hb hL hR' _ _ _ => by omega
  | N + 1 => fun P L R S rest gb n cap a m b w hN hR hn hcm ha hm hb hL hR' hLs hRs htag => by
    by_cases h1 : L.length = 1
    · obtain ⟨x, rfl⟩ := List.length_eq_one_iff.1 h1
      exact sym1_Ob P R S x rest gb n cap a m b w hR hn hcm ha (by simpa using hm) hb hRs (fun y hy => htag x (by simp) y hy)
    · by_cases h2 : R.length = 1
      · obtain ⟨x, rfl⟩ := List.length_eq_one_iff.1 h2
        exact sym2_Ob P L S x rest gb n cap a m b w hR hn hcm ha hm (by simpa using hb) (by omega) hLs (fun y hy => htag y hy x (by simp))
      · exact sym3_Ob N (symMerge_Ob N) P L R S rest gb n cap a m b w hN hR hn hcm ha hm hb (by omega) (by omega) hLs hRs htag
end Go.Proofs.YtjncoloedakpoaaDoor
