/- The symmetric merge at samples, where one side is a single element. Condition: the row lies in a block of its own. -/
import Derived.Test.YteolfpgdpajldaaSortU5
import Derived.Test.YteolfpgdpajldaaSortPlain2
namespace Go.Proofs.Yteolfpgdpajldaa
open Go.ChangeShapes Go.WideShapes Go.ChangeAt Go.RowKit Go.Deep

set_option maxRecDepth 100000 in
set_option maxHeartbeats 1000000 in
theorem sym1_U (hcmp : CmpU) (P R S : List TU) (x : TU) (rest : List Value) (gb n cap a m b : Nat) (w : World) (hR : SRowU w w gb rest (P ++ [x] ++ R ++ S)) (hn : (P ++ [x] ++ R ++ S).length = n) (hcm : n < 4611686018427387904)
    (ha : P.length = a) (hm : a + 1 = m) (hb : m + R.length = b) (hRs : R.Pairwise TOU) (htag : ∀ y ∈ R, x.2 < y.2) :
    Calls Try.prog 42 #[.slice (some ⟨gb, 0, none⟩) n cap, .int .i64 a, .int .i64 m, .int .i64 b, .func (.func 12) #[] #[]] w fun e w' => e = .returned (.tuple #[]) ∧ ∃ M, MrgOK TOU [x] R M ∧ SRowU w w' gb rest (P ++ M ++ S) := by
  have e0 : P ++ [x] ++ R ++ S = Shf P R x S 0 := by simp [Shf]
  rw [e0] at hR hn
  have hbn : b ≤ n := by rw [shf_len] at hn; omega
  have HR := Lib.hid hR
  have HN := Lib.hid hn
  have HB := Lib.hid hb
  have HA := Lib.hid ha
  have HM := Lib.hid (fun p (h1 : ∀ y, (R.take p).getLast? = some y → cfU y x < 0) (h2 : ∀ y, (R.drop p).head? = some y → ¬ cfU y x < 0) => one_left (R1 := R.take p) (R2 := R.drop p) (x := x) ordU (by rw [List.take_append_drop]; exact hRs) (by rw [List.take_append_drop]; exact htag) h1 h2)
  have Hm := Lib.hid hm
  have hd1 : (m : Int) - (a : Int) = 1 := by omega
  have hd2 : wrap64 ((m : Int) - (a : Int)) = 1 := by rw [hd1]; exact IntWalk.wrap64_in _ (by omega)
  have han : a < n := by omega
  have ham : a < m := by omega
  have hmb : m ≤ b := by omega
  clear hR hn e0 hb ha hRs htag hm
  go_enter Try.func42, Try.ntmps42
  go_wp2_with fail
  go_loopw [10, 11, 12] (fun vi vj _ wr => ∃ (i j : Nat), vi = .int .i64 i ∧ vj = .int .i64 j ∧ m ≤ i ∧ i ≤ j ∧ j ≤ b ∧ Hid (SRowU w wr gb rest (Shf P R x S 0)) ∧ Hid (Sch (fun y => cfU y x < 0) R (i - m) (j - m))) (fun vi vj _ _ => (intOf vj).toNat - (intOf vi).toNat)
  case atStart => exact ⟨m, b, rfl, rfl, Nat.le_refl _, hmb, Nat.le_refl _, HR.out, by rw [Nat.sub_self, show b - m = R.length by have := HB.out; omega]; exact sch_start _ R⟩
  case round =>
    obtain ⟨i, j, rfl, rfl, hmi, hij, hjb, hS, hC⟩ := hrel
    obtain ⟨wp, rfl⟩ : ∃ wp : World, wp = wr := ⟨_, rfl⟩
    by_cases hlt : i < j
    · obtain ⟨h, hh⟩ : ∃ h : Nat, h = (i + j) / 2 := ⟨_, rfl⟩
      have hhi : ((i : Int) + (j : Int)) / 2 = (h : Int) := by omega
      have hih : i ≤ h := by omega
      have hhj : h < j := by omega
      have hhn : h < n := by omega
      have hsR : h - m < R.length := by have := HB.out; omega
      have g1 := (shf_up (P := P) (X := R) (x := x) (Q := S) (t := 0) (k := a) (by omega) (by have := HA.out; omega)).1
      obtain ⟨y, hy⟩ : ∃ y, R[h - m] = y := ⟨_, rfl⟩
      have g3 : (Shf P R x S 0)[h]? = some y := by
        rw [← hy]
        have e : Shf P R x S 0 = (P ++ [x]) ++ (R ++ S) := by simp [Shf]
        have := HA.out
        have := Hm.out
        rw [e, List.getElem?_append_right (by simp; omega), List.getElem?_append_left (by simp; omega), List.getElem?_eq_getElem (by simp; omega)]
        congr 2
        simp
        omega
      have hl0 : (Shf P R x S 0).length = n := HN.out
      have c0 := hS.out.two (i := h) (by omega)
      have p0 := hS.out.two (i := a) (by omega)
      rw [List.getElem?_eq_getElem (by omega)] at g1 g3
      rw [Option.some.inj g3] at c0
      rw [Option.some.inj g1] at p0
      have hY : cfU y x < 0 → Sch (fun y => cfU y x < 0) R (h - m + 1) (j - m) := fun hc => sch_yes hC.out (by omega) hsR (by show cfU R[h - m] x < 0; rw [hy]; exact hc)
      have hN : ¬ cfU y x < 0 → Sch (fun y => cfU y x < 0) R (i - m) (h - m) := fun hc => sch_no hC.out (by omega) hsR (by show ¬ cfU R[h - m] x < 0; rw [hy]; exact hc)
      have HY := Lib.hid hY
      have HNo := Lib.hid hN
      have HCm := Lib.hid (fun w1 => hcmp y x w1)
      obtain ⟨cv, hcv⟩ : ∃ c, cfU y x = c := ⟨_, rfl⟩
      rw [hcv] at HCm HY HNo
      have hslt := hS.out.lt
      have hS' := hS
      clear g1 g3 hY hN hcv hl0 hsR hy hh
      replace c0 := BW.cell c0
      replace p0 := BW.cell p0
      go_upto_region 5 with fail
      refine wp_region_head_lit 10 (fun w' => ∃ p : BW wp, w' = p.w') (by kernel_rfl) (by kernel_rfl) ⟨⟨{ wp with drawn := wp.drawn + 1 }, ⟨rfl, rfl, rfl, Nat.le_refl _, fun _ _ => rfl⟩⟩, rfl⟩ ?_
      simp only [List.take_succ_cons, List.take_zero, List.drop_succ_cons, List.drop_zero]
      repeat (quiet_step (first | (go_at_call 12; exact BW.call _ (HCm.out _)) | exact rfl))
      refine wpQuiet_nil ?_
      intro w3 hw'
      obtain ⟨⟨_, hb3⟩, e3⟩ := hw'
      dsimp only at e3
      subst e3
      have HS3 := Lib.hid (hS'.out.next hb3)
      clear hb3 c0 p0
      by_cases hcn : cv < 0
      · have hd : decide (cv < 0) = true := decide_eq_true hcn
        have HC2 := Lib.hid (HY.out (by omega))
        go_wp2_with fail
        go_roundw
        case rel => exact ⟨h + 1, j, by go_num, rfl, by omega, by omega, hjb, HS3.out, by rw [show h + 1 - m = h - m + 1 by omega]; exact HC2.out⟩
        case measure => simp [intOf]; omega
      · have hd : decide (cv < 0) = false := decide_eq_false hcn
        have HC2 := Lib.hid (HNo.out (by omega))
        go_wp2_with fail
        go_roundw
        case rel => exact ⟨i, h, rfl, rfl, hmi, by omega, by omega, HS3.out, HC2.out⟩
        case measure => simp [intOf]; omega
    · obtain rfl : i = j := by omega
      have HMr := Lib.hid (HM.out (i - m) hC.out.2.2.1 (fun y hy => by have h := hC.out.2.2.2 y hy; first | exact h | exact Int.not_lt.1 h))
      obtain ⟨p, hp⟩ : ∃ p, i - m = p := ⟨_, rfl⟩
      rw [hp, List.take_append_drop] at HMr
      have hpi : i = m + p := by omega
      have hpR : p ≤ R.length := by have := HB.out; omega
      have hi1 : (i : Int) - 1 = ((a + p : Nat) : Int) := by have := Hm.out; omega
      obtain ⟨e, he⟩ : ∃ e, a + p = e := ⟨_, rfl⟩
      rw [he] at hi1
      have hi2 : wrap64 ((i : Int) - 1) = (e : Int) := by rw [hi1]; exact IntWalk.wrap64_in _ (by omega)
      have hen : e < n := by have := Hm.out; have := HB.out; omega
      have hS' := hS
      have HE := Lib.hid he
      have hae : a ≤ e := by omega
      clear hC hlt hp hpi he
      go_wp2_with fail
      go_loopw [13] (fun vk wr => ∃ k : Nat, vk = .int .i64 k ∧ a ≤ k ∧ k ≤ e ∧ Hid (SRowU w wr gb rest (Shf P R x S (k - a)))) (fun vk _ => e - (intOf vk).toNat)
      case atStart => exact ⟨a, rfl, Nat.le_refl _, hae, by rw [Nat.sub_self]; exact hS'.out⟩
      case round =>
        obtain ⟨k, rfl, hak, hke, hS4⟩ := hrel
        obtain ⟨wq, rfl⟩ : ∃ wq : World, wq = wr := ⟨_, rfl⟩
        by_cases hlt : k < e
        · have hkR : k - a < R.length := by have := HE.out; omega
          obtain ⟨g1, g2, g3⟩ := shf_up (P := P) (X := R) (x := x) (Q := S) (t := k - a) (k := k) hkR (by have := HA.out; omega)
          have hl : (Shf P R x S (k - a)).length = n := by have := HN.out; rw [shf_len] at this ⊢; exact this
          obtain ⟨k1, hk1⟩ : ∃ k1, k + 1 = k1 := ⟨_, rfl⟩
          rw [hk1] at g2 g3
          have hkn : k < n := by omega
          have hk1n : k1 < n := by omega
          obtain ⟨y, hy⟩ : ∃ y, R[k - a] = y := ⟨_, rfl⟩
          rw [hy] at g2 g3
          have c0 := hS4.out.two (i := k) (by omega)
          have p0 := hS4.out.two (i := k1) (by omega)
          rw [List.getElem?_eq_getElem (by omega)] at g1 g2
          rw [Option.some.inj g1] at c0
          rw [Option.some.inj g2] at p0
          have zf := hS4.out.free
          have G3 := Lib.hid g3
          have Hl := Lib.hid hl
          have q1 : (k : Int) + 1 = (k1 : Int) := by omega
          have hne : ¬ k = k1 := by omega
          have hne2 : ¬ k1 = k := by omega
          have mixed : Try.prog.follows .mixedOrders = true := by kernel_rfl
          have hS5 := hS4
          have Hk1 := Lib.hid hk1
          clear g1 g2 g3 hl hy hk1 hkR
          go_upto_region 11 with fail
          go_big_region_o
          go_wp2_with fail
          go_roundw
          case rel =>
            have := Hk1.out
            refine ⟨k1, rfl, by omega, by omega, ?_⟩
            rw [show k1 - a = k - a + 1 by omega, ← G3.out]
            exact ((hS5.out.put (by rw [Hl.out]; exact hkn) y).put (by rw [List.length_set, Hl.out]; exact hk1n) x).drew
          case measure => have := Hk1.out; simp [intOf]; omega
        · obtain rfl : k = e := by omega
          have hS5 := hS4
          go_wp2_with fail
          refine bodyPost_ret (v := .tuple #[]) (by simp [results, Try.results42, go_sem]) rfl ?_
          refine ⟨rfl, _, HMr.out, ?_⟩
          have e1 : k - a = p := by have := HE.out; omega
          have h5 := hS5.out
          rw [e1] at h5
          exact h5
end Go.Proofs.Yteolfpgdpajldaa
