/- GaugeMeans holds: for every input the law returns true. No condition. -/
import Derived.Test.YtjbmhmiaecakoaaGaugeMeansLift
import Derived.Test.YtjbmhmiaecakoaaGaugeLives
import Derived.Test.YtjbmhmiaecakoaaGaugeMean
namespace Go.Proofs.Ytjbmhmiaecakoaa
open Go.ChangeShapes Go.WideShapes Go.ChangeAt Go.RowKit Go.Deep

theorem u64R_of (w : World) (c : List Value) (h : Rel (.int .u64) w c) : ∃ m, U64R w m c := by
  obtain ⟨n, rfl, hw⟩ := h
  simp [Lit.wf, IntKind.min, IntKind.max, IntKind.signed, IntKind.bits] at hw
  exact ⟨n.toNat, by simp; omega, by omega⟩

set_option maxRecDepth 100000 in
set_option maxHeartbeats 4000000 in
theorem gaugeMeans_core (l : List Nat) (ao : Option Addr) (n cap : Nat) (w : World) (hS : SlR U64R 1 w ao n cap l) :
    Calls Try.prog 6 #[.slice ao n cap] w fun e w' => e = .returned (.bool true) ∧ Below w.heap.size w w' := by
  have hcm := hS.hmax
  have hlc := hS.hcap
  unfold maxLen at hcm
  go_enter Try.func6, Try.ntmps6
  go_wp2_with fail
  refine (lives04 w).mono ?_
  rintro e w1 ⟨rfl, hb1⟩
  by_cases hn : 50 < n
  · have hd : decide ((50 : Int) < (n : Int)) = true := decide_eq_true (by omega)
    have H1 := Lib.hid hb1
    clear hb1
    go_wp2_with fail
    refine (lives04 _).mono ?_
    rintro e w2 ⟨rfl, hb2⟩
    have H2 := Lib.hid (H1.out.trans (hb2.mono H1.out.size))
    clear hb2
    go_wp2_with fail
    go_ret
    exact ⟨rfl, H2.out⟩
  · have hd : decide ((50 : Int) < (n : Int)) = false := decide_eq_false (by omega)
    have hn' : n ≤ 50 := by omega
    clear hn
    have HS : Hid (SlR U64R 1 w1 ao n cap l) := hS.keeps (Keeps.below hb1) (fun _ _ h => h)
    have H1 := Lib.hid hb1
    clear hb1 hS
    go_wp2_with fail
    refine (of_any01 0 w1 (by decide)).mono ?_
    rintro e w2 ⟨⟨v2, rfl, n2⟩, b2⟩
    have N2 := Lib.hid n2
    have B2 := Lib.hid b2
    clear n2 b2
    go_wp2_with fail
    go_loopw [3, 4, 26] (fun s3 s4 i wr => ∃ k : Nat, k ≤ n ∧ i = .int .i64 k ∧ s4 = .int .i64 (okCnt (l.take k)) ∧ okCnt (l.take k) ≤ k ∧ okSum (l.take k) ≤ 9007199254740992 * k ∧ Hid (NumAt wr s3 (okSum (l.take k))) ∧ Below w1.heap.size w1 wr) (fun _ _ i _ => n - (intOf i).toNat)
    case atStart => exact ⟨0, Nat.zero_le _, rfl, rfl, by simp [okCnt], by simp [okSum], N2.out, B2.out⟩
    case round =>
      obtain ⟨k, hk, rfl, rfl, hc1, hs1, hN, hb⟩ := hrel
      by_cases hlt : k < n
      · have hS := HS.out.keeps (Keeps.below hb) (fun _ _ h => h)
        obtain ⟨b0, off, rfl⟩ := hS.ptr (by decide) (by omega)
        have kx : k < l.length := by have := hS.hlen; omega
        obtain ⟨c, hcl, hcc, hcr, hx⟩ := hS.cells kx
        have e1 := okSum_succ l k kx
        have e2 := okCnt_succ l k kx
        have hle := refOf_le l[k]
        obtain ⟨x, hx'⟩ : ∃ x, l[k] = x := ⟨_, rfl⟩
        rw [hx'] at hcr hx e1 e2 hle
        subst hcr
        have c0 := hcc 0 _ rfl
        rw [Nat.mul_one, Nat.add_zero] at c0
        obtain ⟨m, hm⟩ : ∃ m, refOf x = m := ⟨_, rfl⟩
        have HR := Lib.hid (ref_any x wr hx)
        rw [hm] at HR e1 e2 hle
        obtain ⟨q, r⟩ := m
        dsimp only at HR e1 e2 hle
        obtain ⟨s, hs⟩ : ∃ s, okSum (l.take k) = s := ⟨_, rfl⟩
        obtain ⟨cn, hcn⟩ : ∃ cn, okCnt (l.take k) = cn := ⟨_, rfl⟩
        rw [hs] at e1 hN hs1
        rw [hcn] at e2 hc1 ⊢
        have Hb := Lib.hid hb
        clear hcc hS hcl kx hx' hm hs hcn hb hx
        by_cases hr : r = 0
        · subst hr
          rw [if_pos rfl] at e1 e2
          have E1 := Lib.hid e1
          have E2 := Lib.hid e2
          clear e1 e2
          go_wp2_with fail
          refine HR.out.mono ?_
          rintro e w3 ⟨rfl, hb3⟩
          have Hb3 := Lib.hid (Hb.out.trans (hb3.mono Hb.out.size))
          have N3 := Lib.hid (hN.out.below hb3)
          clear hb3
          go_wp2_with fail
          refine (of_any01 q w3 (by omega)).mono ?_
          rintro e w4 ⟨⟨v4, rfl, n4⟩, hb4⟩
          have HA := Lib.hid (add_num _ v4 s q w4 (N3.out.below hb4) n4 (by have := blen_le (n := s) (k := 60) (by omega); omega) (by have := blen_le (n := q) (k := 54) (by omega); omega))
          have Hb4 := Lib.hid (Hb3.out.trans (hb4.mono Hb3.out.size))
          clear hb4 n4
          go_wp2_with fail
          refine HA.out.mono ?_
          rintro e w5 ⟨⟨v5, rfl, n5⟩, hb5⟩
          have N5 := Lib.hid n5
          have Hb5 := Lib.hid (Hb4.out.trans (hb5.mono Hb4.out.size))
          clear hb5 n5
          go_wp2_with fail
          go_roundw
          case rel => exact ⟨k + 1, by omega, by go_num, by rw [E2.out]; go_num, by rw [E2.out]; omega, by rw [E1.out]; omega, by rw [E1.out]; exact N5.out, Hb5.out⟩
          case measure => simp [intOf]; omega
        · simp only [if_neg hr, Nat.add_zero] at e1 e2
          have E1 := Lib.hid e1
          have E2 := Lib.hid e2
          have hrb : (r == 0) = false := beq_eq_false_iff_ne.2 hr
          clear e1 e2 hr
          go_wp2_with fail
          refine HR.out.mono ?_
          rintro e w3 ⟨rfl, hb3⟩
          have Hb3 := Lib.hid (Hb.out.trans (hb3.mono Hb.out.size))
          have N3 := Lib.hid (hN.out.below hb3)
          clear hb3
          go_wp2_with fail
          go_roundw
          case rel => exact ⟨k + 1, by omega, by go_num, by rw [E2.out], by rw [E2.out]; omega, by rw [E1.out]; omega, by rw [E1.out]; exact N3.out, Hb3.out⟩
          case measure => simp [intOf]; omega
      · obtain rfl : k = n := by omega
        have ht : l.take k = l := List.take_of_length_le (by have := HS.out.hlen; omega)
        rw [ht] at hN hc1 hs1 ⊢
        have HM := Lib.hid (mean_any l ao k cap wr (HS.out.keeps (Keeps.below hb) (fun _ _ h => h)) hn')
        have hM : Hid (meanOf l = if okCnt l = 0 then (0, 0) else (okSum l / okCnt l, okCnt l)) := rfl
        obtain ⟨mn, hmn⟩ : ∃ mn, meanOf l = mn := ⟨_, rfl⟩
        rw [hmn] at HM hM
        obtain ⟨mq, mc⟩ := mn
        dsimp only at HM
        obtain ⟨s, hs⟩ : ∃ s, okSum l = s := ⟨_, rfl⟩
        obtain ⟨cn, hcn⟩ : ∃ cn, okCnt l = cn := ⟨_, rfl⟩
        rw [hs] at hN hs1 hM
        rw [hcn] at hc1 hM ⊢
        have Hb := Lib.hid hb
        clear ht hs hcn hb hmn
        by_cases h0 : cn = 0
        · subst h0
          have HM2 := hM.out.trans (if_pos rfl)
          cases HM2
          clear hM
          go_wp2_with fail
          refine HM.out.mono ?_
          rintro e w3 ⟨rfl, hb3⟩
          have Hb3 := Lib.hid (Hb.out.trans (hb3.mono Hb.out.size))
          clear hb3
          go_wp2_with fail
          go_ret
          exact ⟨rfl, H1.out.trans (Hb3.out.mono H1.out.size)⟩
        · have HM2 := hM.out.trans (if_neg h0)
          have f1 : mq = s / cn := congrArg Prod.fst HM2
          have f2 : mc = cn := congrArg Prod.snd HM2
          rw [f1, f2] at HM
          clear HM2 f1 f2
          have h0b : ((cn : Int) == 0) = false := by rw [beq_eq_false_iff_ne]; omega
          have hql := Nat.div_le_self s cn
          have HD : Hid (∀ (u v : Value) (w3 : World), NumAt w3 u s → NumAt w3 v cn → _) := fun u v w3 hu hv => div_num u v s cn w3 hu hv (by have := blen_le (n := s) (k := 60) (by omega); omega) (by have := blen_le (n := cn) (k := 6) (by omega); omega) (by omega)
          obtain ⟨q, hq⟩ : ∃ q, s / cn = q := ⟨_, rfl⟩
          obtain ⟨r, hr⟩ : ∃ r, s % cn = r := ⟨_, rfl⟩
          rw [hq] at HM HD hql
          rw [hr] at HD
          clear hq hr h0 hM
          go_wp2_with fail
          refine HM.out.mono ?_
          rintro e w3 ⟨rfl, hb3⟩
          have Hb3 := Lib.hid (Hb.out.trans (hb3.mono Hb.out.size))
          have N3 := Lib.hid (hN.out.below hb3)
          clear hb3
          go_wp2_with fail
          refine (of_any01 cn w3 (by omega)).mono ?_
          rintro e w4 ⟨⟨v4, rfl, n4⟩, hb4⟩
          have HD2 := Lib.hid (HD.out _ _ w4 (N3.out.below hb4) n4)
          have Hb4 := Lib.hid (Hb3.out.trans (hb4.mono Hb3.out.size))
          clear hb4 n4
          go_wp2_with fail
          refine HD2.out.mono ?_
          rintro e w5 ⟨⟨vq, vr, rfl, nq, nr⟩, hb5⟩
          have HN := Lib.hid (number_num vq q w5 nq (by omega))
          have Hb5 := Lib.hid (Hb4.out.trans (hb5.mono Hb4.out.size))
          clear hb5 nq nr
          go_wp2_with fail
          refine HN.out.mono ?_
          rintro e w6 ⟨rfl, rfl⟩
          go_wp2_with fail
          go_ret
          exact ⟨by simp, H1.out.trans (Hb5.out.mono H1.out.size)⟩

theorem GaugeMeans_holds : Rows.GaugeMeansSaid := lGaugeMeans.over fun ao n cap w h0 => by
  obtain ⟨_, _, _, ls, e0, hS⟩ := SlR.of_rel h0 (fun c hc => u64R_of w c hc)
  simp [Value.cells] at e0
  obtain ⟨rfl, rfl, rfl⟩ := e0
  exact gaugeMeans_core ls _ _ _ w hS
end Go.Proofs.Ytjbmhmiaecakoaa
