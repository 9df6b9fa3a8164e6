/- ProposalMost holds: for every input the law returns true. No condition. -/
import Derived.Test.YtkjononoaabclaaProposalMostLift
import Derived.Test.YtkjononoaabclaaProp5
namespace Go.Proofs.Ytkjononoaabclaa
open Go.ChangeShapes Go.WideShapes Go.ChangeAt Go.RowKit Go.Deep

set_option maxRecDepth 100000 in
set_option maxHeartbeats 4000000 in
theorem proposalMost_core (l es : List Int) (rep : Int) (ao bo : Option Addr) (n cap m dap : Nat) (w : World) (hS : SlR (Flat intC) 1 w ao n cap l) (hE : SlR (Flat intC) 1 w bo m dap es) :
    Calls Try.prog 4 #[.slice ao n cap, .slice bo m dap, .int .i64 rep] w fun e w' => e = .returned (.bool true) ∧ Below w.heap.size w w' := by
  have h1 := hS.hlen
  have h2 := hE.hlen
  have hcm := hS.hmax
  have hlc := hS.hcap
  have hdm := hE.hmax
  have hld := hE.hcap
  unfold maxLen at hcm hdm
  go_enter Try.func4, Try.ntmps4
  go_wp2_with fail
  refine (lives20 w).mono ?_
  rintro e w1 ⟨rfl, hb1⟩
  by_cases hbig : 20 < n ∨ 20 < m
  · have H1 := Lib.hid hb1
    clear hb1
    rcases (show 20 < n ∨ (n ≤ 20 ∧ 20 < m) by omega) with hn | ⟨hn, hm⟩
    · have hd : decide ((20 : Int) < (n : Int)) = true := decide_eq_true (by omega)
      clear hbig
      go_wp2_with fail
      refine (lives20 _).mono ?_
      rintro e w2 ⟨rfl, hb2⟩
      have H2 := Lib.hid (H1.out.trans (hb2.mono H1.out.size))
      clear hb2
      go_wp2_with fail
      go_ret
      exact ⟨rfl, H2.out⟩
    · have hd : decide ((20 : Int) < (n : Int)) = false := decide_eq_false (by omega)
      have hd2 : decide ((20 : Int) < (m : Int)) = true := decide_eq_true (by omega)
      clear hbig
      go_wp2_with fail
      refine (lives20 _).mono ?_
      rintro e w2 ⟨rfl, hb2⟩
      have H2 := Lib.hid (H1.out.trans (hb2.mono H1.out.size))
      clear hb2
      go_wp2_with fail
      go_ret
      exact ⟨rfl, H2.out⟩
  · have hd : decide ((20 : Int) < (n : Int)) = false := decide_eq_false (by omega)
    have hd2 : decide ((20 : Int) < (m : Int)) = false := decide_eq_false (by omega)
    have hn20 : n ≤ 20 := by omega
    have hm20 : m ≤ 20 := by omega
    have HS : Hid (SlR (Flat intC) 1 w1 ao n cap l) := hS.flatKeeps (Keeps.below hb1)
    have HE : Hid (SlR (Flat intC) 1 w1 bo m dap es) := hE.flatKeeps (Keeps.below hb1)
    have H1 := Lib.hid hb1
    have HM := Lib.hid (most_any l es rep ao bo n cap m dap w1 HS.out HE.out)
    have hF : mostF l es rep = if l.length ≠ es.length then (0, 1) else if (mSt l es l.length).2.1 = false then (0, 7) else if (mSt l es l.length).2.2 = true then (max (mSt l es l.length).1 rep, 0) else ((mSt l es l.length).1, 0) := rfl
    obtain ⟨R, hR⟩ : ∃ R, mostF l es rep = R := ⟨_, rfl⟩
    rw [hR, h1, h2] at hF
    rw [hR] at HM
    have HF := Lib.hid hF
    obtain ⟨ra, re⟩ := R
    clear hF hR hS hE hbig hb1
    go_wp2_with fail
    refine HM.out.mono ?_
    rintro e w2 ⟨rfl, rfl⟩
    by_cases hnm : n = m
    · subst hnm
      have H0 := Lib.hid (HF.out.trans (if_neg (by simp)))
      go_wp2_with fail
      go_loopw [9, 10, 11, 12, 46] (fun mt wg b j i wr => ∃ (k : Nat) (s : Int × Bool × Bool) (q : Nat), k ≤ n ∧ i = .int .i64 k ∧ b = .int .i64 s.1 ∧ mt = .bool s.2.1 ∧ wg = .bool s.2.2 ∧ Hid (mSt l es k = s) ∧ wr = w1.drewN q) (fun _ _ _ _ i _ => n - (intOf i).toNat)
      case atStart => exact ⟨0, (0, false, false), 0, Nat.zero_le _, rfl, rfl, rfl, rfl, rfl, rfl⟩
      case round =>
        obtain ⟨k, ⟨b, mt, wg⟩, q, hk, rfl, rfl, rfl, rfl, hs, rfl⟩ := hrel
        by_cases hlt : k < n
        · obtain ⟨b0, off, rfl⟩ := HS.out.ptr (by decide) (by omega)
          obtain ⟨b1, off1, rfl⟩ := HE.out.ptr (by decide) (by omega)
          have kx : k < l.length := by omega
          have ky : k < es.length := by omega
          have c0 := HS.out.flat0 kx _ rfl
          have d0 := HE.out.flat0 ky _ rfl
          have hst := mSt_succ l es kx ky
          rw [hs.out] at hst
          obtain ⟨x, hx⟩ : ∃ x, l[k] = x := ⟨_, rfl⟩
          obtain ⟨y, hy⟩ : ∃ y, es[k] = y := ⟨_, rfl⟩
          rw [hx] at c0 hst
          rw [hy] at d0 hst
          rw [Nat.mul_one] at c0 d0
          unfold mStep at hst
          dsimp only at hst
          have HT := Lib.hid hst
          clear hst hx hy
          by_cases hy0 : y = 0
          · subst hy0
            have HT2 := Lib.hid (HT.out.trans (if_neg (by simp)))
            cases mt
            · have HT3 := Lib.hid (HT2.out.trans (if_pos (.inl rfl)))
              go_wp2_with fail
              go_quiet (fail)
              go_wp2_with fail
              go_roundw
              case rel => exact ⟨k + 1, (x, true, wg), q + nq, by omega, by go_num, rfl, rfl, rfl, HT3.out, by simp [World.drewN]⟩
              case measure => simp [intOf]; omega
            · by_cases hbx : b < x
              · have hd : decide (b < x) = true := decide_eq_true hbx
                have HT3 := Lib.hid (HT2.out.trans (if_pos (.inr hbx)))
                go_wp2_with fail
                go_quiet (fail)
                go_wp2_with fail
                go_roundw
                case rel => exact ⟨k + 1, (x, true, wg), q + nq, by omega, by go_num, rfl, rfl, rfl, HT3.out, by simp [World.drewN]⟩
                case measure => simp [intOf]; omega
              · have hd : decide (b < x) = false := decide_eq_false hbx
                have HT3 := Lib.hid (HT2.out.trans (if_neg (fun h => h.elim (fun h => by cases h) hbx)))
                go_wp2_with fail
                go_roundw
                case rel => exact ⟨k + 1, (b, true, wg), q, by omega, by go_num, rfl, rfl, rfl, HT3.out, rfl⟩
                case measure => simp [intOf]; omega
          · have hyb : (y == 0) = false := by rw [beq_eq_false_iff_ne]; exact hy0
            have hyb2 : (y != 0) = true := by simp [bne, hyb]
            have HT2 := Lib.hid (HT.out.trans (if_pos hy0))
            go_wp2_with fail
            go_roundw
            case rel => exact ⟨k + 1, (b, mt, true), q, by omega, by go_num, rfl, rfl, rfl, HT2.out, rfl⟩
            case measure => simp [intOf]; omega
        · obtain rfl : k = n := by omega
          have H3 := H0.out
          rw [hs.out] at H3
          dsimp only at H3
          cases mt
          · have H4 := H3.trans (if_pos rfl)
            simp only [Prod.mk.injEq] at H4
            obtain ⟨rfl, rfl⟩ := H4
            clear H3
            go_wp2_with fail
            go_ret
            exact ⟨rfl, drewN_below H1.out _⟩
          · have H4 := H3.trans (if_neg (by simp))
            cases wg
            · have H5 := H4.trans (if_neg (by simp))
              simp only [Prod.mk.injEq] at H5
              obtain ⟨rfl, rfl⟩ := H5
              clear H3 H4
              go_wp2_with fail
              go_ret
              exact ⟨by simp, drewN_below H1.out _⟩
            · have H5 := H4.trans (if_pos rfl)
              simp only [Prod.mk.injEq] at H5
              obtain ⟨rfl, rfl⟩ := H5
              clear H3 H4
              by_cases hlt2 : b < rep
              · have hd3 : decide (b < rep) = true := decide_eq_true hlt2
                have hmx : max b rep = rep := by omega
                have hmb : (max b rep == rep) = true := by rw [beq_iff_eq]; exact hmx
                go_wp2_with fail
                go_ret
                exact ⟨ret_bool (by simp), drewN_below H1.out _⟩
              · have hd3 : decide (b < rep) = false := decide_eq_false hlt2
                have hmx : max b rep = b := by omega
                have hmb : (max b rep == b) = true := by rw [beq_iff_eq]; exact hmx
                go_wp2_with fail
                go_ret
                exact ⟨ret_bool (by simp), drewN_below H1.out _⟩
    · have H0 := HF.out.trans (if_pos hnm)
      simp only [Prod.mk.injEq] at H0
      obtain ⟨rfl, rfl⟩ := H0
      have hnb : ((n : Int) == (m : Int)) = false := by rw [beq_eq_false_iff_ne]; omega
      have hnb2 : ((n : Int) != (m : Int)) = true := by simp [bne, hnb]
      have hnb3 : (n != m) = true := by simp [bne, hnm]
      go_wp2_with fail
      go_ret
      exact ⟨rfl, H1.out⟩

theorem ProposalMost_holds : Rows.ProposalMostSaid := lProposalMost.over fun a0 len0 cap0 a1 len1 cap1 n2 w h0 h1 _ => by
  obtain ⟨_, _, _, l, e0, hL⟩ := SlR.of_rel (R := Flat intC) h0 (fun c hc => by obtain ⟨x, rfl, _⟩ := hc; exact ⟨x, rfl⟩)
  obtain ⟨_, _, _, es, e1, hE⟩ := SlR.of_rel (R := Flat intC) h1 (fun c hc => by obtain ⟨x, rfl, _⟩ := hc; exact ⟨x, rfl⟩)
  simp [Value.cells] at e0 e1
  obtain ⟨rfl, rfl, rfl⟩ := e0
  obtain ⟨rfl, rfl, rfl⟩ := e1
  exact proposalMost_core l es n2 _ _ _ _ _ _ w hL hE
end Go.Proofs.Ytkjononoaabclaa
