/- The symmetric merge at any elements, where one side is a single element. Condition: the row lies in a block of its own. -/
import Derived.Test.YtjncoloedakpoaaDoorSortPlain2M
namespace Go.Proofs.YtjncoloedakpoaaDoor
open Go.ChangeShapes Go.WideShapes Go.ChangeAt Go.RowKit Go.Deep

set_option maxRecDepth 100000 in
set_option maxHeartbeats 1000000 in
theorem sym1_Ob (P R S : List TOb) (x : TOb) (rest : List Value) (gb n cap a m b : Nat) (w : World) (hR : SRowK tOb 44 w w gb rest (P ++ [x] ++ R ++ S)) (hn : (P ++ [x] ++ R ++ S).length = n) (hcm : n < 4611686018427387904)
    (ha : P.length = a) (hm : a + 1 = m) (hb : m + R.length = b) (hRs : R.Pairwise TOOb) (htag : ∀ y ∈ R, x.2 < y.2) :
    Calls Tryd.prog 68 #[.slice (some ⟨gb, 0, none⟩) n cap, .int .i64 a, .int .i64 m, .int .i64 b, .func (.func 49) #[] #[]] w fun e w' => e = .returned (.tuple #[]) ∧ ∃ M, MrgOK TOOb [x] R M ∧ SRowK tOb 44 w w' gb rest (P ++ M ++ S) := by
  have e0 : P ++ [x] ++ R ++ S = Shf P R x S 0 := by simp [Shf]
  rw [e0] at hR hn
  have hbn : b ≤ n := by rw [shf_len] at hn; omega
  have HR := Lib.hid hR
  have HN := Lib.hid hn
  have HB := Lib.hid hb
  have HA := Lib.hid ha
  have HM := Lib.hid (fun p (h1 : ∀ y, (R.take p).getLast? = some y → cfOb y x < 0) (h2 : ∀ y, (R.drop p).head? = some y → ¬ cfOb y x < 0) => one_left (R1 := R.take p) (R2 := R.drop p) (x := x) ordOb (by rw [List.take_append_drop]; exact hRs) (by rw [List.take_append_drop]; exact htag) h1 h2)
  have Hm := Lib.hid hm
  have hd1 : (m : Int) - (a : Int) = 1 := by omega
  have hd2 : wrap64 ((m : Int) - (a : Int)) = 1 := by rw [hd1]; exact IntWalk.wrap64_in _ (by omega)
  have han : a < n := by omega
  have ham : a < m := by omega
  have hmb : m ≤ b := by omega
  clear hR hn e0 hb ha hRs htag hm
  go_enter Tryd.func68, Tryd.ntmps68
  go_wp2_with fail
  go_loopw [10, 11, 12] (fun vi vj _ wr => ∃ (i j : Nat), vi = .int .i64 i ∧ vj = .int .i64 j ∧ m ≤ i ∧ i ≤ j ∧ j ≤ b ∧ Hid (SRowK tOb 44 w wr gb rest (Shf P R x S 0)) ∧ Hid (Sch (fun y => cfOb y x < 0) R (i - m) (j - m))) (fun vi vj _ _ => (intOf vj).toNat - (intOf vi).toNat)
  case atStart => exact ⟨m, b, rfl, rfl, Nat.le_refl _, hmb, Nat.le_refl _, HR.out, by rw [Nat.sub_self, show b - m = R.length by have := HB.out; omega]; exact sch_start _ R⟩
  case round =>
    obtain ⟨i, j, rfl, rfl, hmi, hij, hjb, hS, hC⟩ := hrel
    obtain ⟨wp, rfl⟩ : ∃ wp : World, wp = wr := ⟨_, rfl⟩
    by_cases hlt : i < j
    · obtain ⟨h, hh⟩ : ∃ h : Nat, h = (i + j) / 2 := ⟨_, rfl⟩
      have hhi : ((i : Int) + (j : Int)) / 2 = (h : Int) := by omega
      have hih : i ≤ h := by omega
      have hhj : h < j := by omega
      have hhn : h < n := by omega
      have hsR : h - m < R.length := by have := HB.out; omega
      have g1 := (shf_up (P := P) (X := R) (x := x) (Q := S) (t := 0) (k := a) (by omega) (by have := HA.out; omega)).1
      obtain ⟨y, hy⟩ : ∃ y, R[h - m] = y := ⟨_, rfl⟩
      have g3 : (Shf P R x S 0)[h]? = some y := by
        rw [← hy]
        have e : Shf P R x S 0 = (P ++ [x]) ++ (R ++ S) := by simp [Shf]
        have := HA.out
        have := Hm.out
        rw [e, List.getElem?_append_right (by simp; omega), List.getElem?_append_left (by simp; omega), List.getElem?_eq_getElem (by simp; omega)]
        congr 2
        simp
        omega
      have hl0 : (Shf P R x S 0).length = n := HN.out
      have ce := hS.out.at_ lenOb (i := h) (by omega)
      have pe := hS.out.at_ lenOb (i := a) (by omega)
      rw [List.getElem?_eq_getElem (by omega)] at g1 g3
      rw [Option.some.inj g3] at ce
      rw [Option.some.inj g1] at pe
      have hY : cfOb y x < 0 → Sch (fun y => cfOb y x < 0) R (h - m + 1) (j - m) := fun hc => sch_yes hC.out (by omega) hsR (by show cfOb R[h - m] x < 0; rw [hy]; exact hc)
      have hN : ¬ cfOb y x < 0 → Sch (fun y => cfOb y x < 0) R (i - m) (h - m) := fun hc => sch_no hC.out (by omega) hsR (by show ¬ cfOb R[h - m] x < 0; rw [hy]; exact hc)
      have HY := Lib.hid hY
      have HNo := Lib.hid hN
      have HCm := Lib.hid (fun w1 => cmpOb y x w1)
      obtain ⟨cv, hcv⟩ : ∃ c, cfOb y x = c := ⟨_, rfl⟩
      rw [hcv] at HCm HY HNo
      have hslt := hS.out.lt
      have hS' := hS
      clear g1 g3 hY hN hcv hl0 hsR hy hh
      replace ce := BW.cells ce
      replace pe := BW.cells pe
      go_upto_region 5 with fail
      refine wp_region_head_lit 10 (fun w' => ∃ p : BW wp, w' = p.w') (by kernel_rfl) (by kernel_rfl) ⟨⟨{ wp with drawn := wp.drawn + 1 }, ⟨rfl, rfl, rfl, Nat.le_refl _, fun _ _ => rfl⟩⟩, rfl⟩ ?_
      simp only [List.take_succ_cons, List.take_zero, List.drop_succ_cons, List.drop_zero]
      repeat (first | (refine wpQuiet_load aggOb rfl _ rfl _ rfl _ (lenOb _) (by rintro _ ⟨bw, rfl⟩; exact ce bw) ?_) | (refine wpQuiet_load aggOb rfl _ rfl _ rfl _ (lenOb _) (by rintro _ ⟨bw, rfl⟩; exact pe bw) ?_) | quiet_step (first | (go_at_call 49; exact BW.call _ (HCm.out _)) | exact rfl))
      refine wpQuiet_nil ?_
      intro w3 hw'
      obtain ⟨⟨_, hb3⟩, e3⟩ := hw'
      dsimp only at e3
      subst e3
      have HS3 := Lib.hid (hS'.out.next hb3)
      clear hb3 ce pe
      by_cases hcn : cv < 0
      · have hd : decide (cv < 0) = true := decide_eq_true hcn
        have HC2 := Lib.hid (HY.out (by omega))
        go_wp2_with fail
        go_roundw
        case rel => exact ⟨h + 1, j, by go_num, rfl, by omega, by omega, hjb, HS3.out, by rw [show h + 1 - m = h - m + 1 by omega]; exact HC2.out⟩
        case measure => simp [intOf]; omega
      · have hd : decide (cv < 0) = false := decide_eq_false hcn
        have HC2 := Lib.hid (HNo.out (by omega))
        go_wp2_with fail
        go_roundw
        case rel => exact ⟨i, h, rfl, rfl, hmi, by omega, by omega, HS3.out, HC2.out⟩
        case measure => simp [intOf]; omega
    · obtain rfl : i = j := by omega
      have HMr := Lib.hid (HM.out (i - m) hC.out.2.2.1 (fun y hy => by have h := hC.out.2.2.2 y hy; first | exact h | exact Int.not_lt.1 h))
      obtain ⟨p, hp⟩ : ∃ p, i - m = p := ⟨_, rfl⟩
      rw [hp, List.take_append_drop] at HMr
      have hpi : i = m + p := by omega
      have hpR : p ≤ R.length := by have := HB.out; omega
      have hi1 : (i : Int) - 1 = ((a + p : Nat) : Int) := by have := Hm.out; omega
      obtain ⟨e, he⟩ : ∃ e, a + p = e := ⟨_, rfl⟩
      rw [he] at hi1
      have hi2 : wrap64 ((i : Int) - 1) = (e : Int) := by rw [hi1]; exact IntWalk.wrap64_in _ (by omega)
      have hen : e < n := by have := Hm.out; have := HB.out; omega
      have hS' := hS
      have HE := Lib.hid he
      have hae : a ≤ e := by omega
      clear hC hlt hp hpi he
      go_wp2_with fail
      go_loopw [13] (fun vk wr => ∃ k : Nat, vk = .int .i64 k ∧ a ≤ k ∧ k ≤ e ∧ Hid (SRowK tOb 44 w wr gb rest (Shf P R x S (k - a)))) (fun vk _ => e - (intOf vk).toNat)
      case atStart => exact ⟨a, rfl, Nat.le_refl _, hae, by rw [Nat.sub_self]; exact hS'.out⟩
      case round =>
        obtain ⟨k, rfl, hak, hke, hS4⟩ := hrel
        obtain ⟨wq, rfl⟩ : ∃ wq : World, wq = wr := ⟨_, rfl⟩
        by_cases hlt : k < e
        · have hkR : k - a < R.length := by have := HE.out; omega
          obtain ⟨g1, g2, g3⟩ := shf_up (P := P) (X := R) (x := x) (Q := S) (t := k - a) (k := k) hkR (by have := HA.out; omega)
          have hl : (Shf P R x S (k - a)).length = n := by have := HN.out; rw [shf_len] at this ⊢; exact this
          obtain ⟨k1, hk1⟩ : ∃ k1, k + 1 = k1 := ⟨_, rfl⟩
          rw [hk1] at g2 g3
          have hkn : k < n := by omega
          have hk1n : k1 < n := by omega
          obtain ⟨y, hy⟩ : ∃ y, R[k - a] = y := ⟨_, rfl⟩
          rw [hy] at g2 g3
          have ce := hS4.out.at_ lenOb (i := k) (by omega)
          have pe := hS4.out.at_ lenOb (i := k1) (by omega)
          rw [List.getElem?_eq_getElem (by omega)] at g1 g2
          rw [Option.some.inj g1] at ce
          rw [Option.some.inj g2] at pe
          have G3 := Lib.hid g3
          have Hl := Lib.hid hl
          have q1 : (k : Int) + 1 = (k1 : Int) := by omega
          have hne : ¬ k = k1 := by omega
          have hne2 : ¬ k1 = k := by omega
          have mixed : Tryd.prog.follows .mixedOrders = true := by kernel_rfl
          have hS5 := hS4
          have Hk1 := Lib.hid hk1
          clear g1 g2 g3 hl hy hk1 hkR
          go_upto_region 11 with fail
          have hwrk : IntKind.i64.wrap (k : Int) = (k : Int) := IntWalk.i64_in _ (by omega)
          have hwrk1 : IntKind.i64.wrap (k1 : Int) = (k1 : Int) := IntWalk.i64_in _ (by omega)
          refine region_later mixed ?_
          refine later_phase (fun w' => w' = World.drew _) [15, 17] 0 0 18 30 (by kernel_rfl) (by kernel_rfl) rfl ?_
          repeat (first | (refine wpVal_skipR rfl ?_) | (refine wpVal_takeR rfl ?_; first | (refine wpVal_loadK aggOb rfl _ rfl _ rfl _ (lenOb _) (by rintro _ rfl; exact ce) (fun K hK => ?_); go_simp; refine hK _ ?_; clear hK K) | (refine wpVal_loadK aggOb rfl _ rfl _ rfl _ (lenOb _) (by rintro _ rfl; exact pe) (fun K hK => ?_); go_simp; refine hK _ ?_; clear hK K) | (refine wpVal_oneK rfl (fun K hK => ?_); refine ⟨_, fun w => by go_simp; rfl, ?_⟩; go_simp; refine hK _ ?_; clear hK K)))
          refine wpVal_endR ?_
          clear hwrk hwrk1
          refine wpLoud_store_el aggOb lenOb oneOb rfl rfl _ _ rfl rfl (hS5.out.drew) (by rw [Hl.out]; exact hkn) y rfl rfl ?_
          intro wa hSa
          refine ⟨fun h => absurd h (Nat.not_lt_zero _), ?_⟩
          refine wpLoud_store_el aggOb lenOb oneOb rfl rfl _ _ rfl rfl hSa (by rw [List.length_set, Hl.out]; exact hk1n) x rfl rfl ?_
          intro wb hSb
          refine ⟨fun h => absurd h (Nat.not_lt_zero _), ?_⟩
          refine wpLoud_nil ?_
          refine later_end 18 rfl ?_
          have HSb := Lib.hid hSb
          clear hSa hSb
          go_wp2_with fail
          go_roundw
          case rel =>
            have := Hk1.out
            refine ⟨k1, rfl, by omega, by omega, ?_⟩
            rw [show k1 - a = k - a + 1 by omega, ← G3.out]
            exact HSb.out
          case measure => have := Hk1.out; simp [intOf]; omega
        · obtain rfl : k = e := by omega
          have hS5 := hS4
          go_wp2_with fail
          refine bodyPost_ret (v := .tuple #[]) (by simp [results, Tryd.results68, go_sem]) rfl ?_
          refine ⟨rfl, _, HMr.out, ?_⟩
          have e1 : k - a = p := by have := HE.out; omega
          have h5 := hS5.out
          rw [e1] at h5
          exact h5
end Go.Proofs.YtjncoloedakpoaaDoor
