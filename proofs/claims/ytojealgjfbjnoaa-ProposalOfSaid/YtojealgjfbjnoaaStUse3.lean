/- The contract of the insertion sort at any elements. Condition: the row lies in a block of its own. -/
import Derived.Test.YtojealgjfbjnoaaStUse2M
namespace Go.Proofs.Ytojealgjfbjnoaa
open Go.ChangeShapes Go.WideShapes Go.ChangeAt Go.RowKit Go.Deep

set_option maxRecDepth 100000 in
set_option maxHeartbeats 2000000 in
theorem insertion_Use (d : List TUse) (rest : List Value) (gb n cap a b : Nat) (w : World) (hR : SRowK tUse 51 w w gb rest d) (hn : d.length = n) (hcm : n < 4611686018427387904) (hab : a ≤ b) (hb : b ≤ n) (hD : (segL d a b).Pairwise fun x y => x.2 < y.2) :
    Calls Try.prog 59 #[.slice (some ⟨gb, 0, none⟩) n cap, .int .i64 a, .int .i64 b, .func (.func 28) #[] #[]] w fun e w' => e = .returned (.tuple #[]) ∧ ∃ d', SRowK tUse 51 w w' gb rest d' ∧ OutInv TOUse a b d d' := by
  have HR := Lib.hid hR
  have HD := Lib.hid hD
  have HN := Lib.hid hn
  clear hR hD hn
  go_enter Try.func59, Try.ntmps59
  go_wp2_with fail
  go_loopw [8, 9] (fun vi _ wr => ∃ (i : Nat) (d1 : List TUse), vi = .int .i64 i ∧ a < i ∧ (i ≤ b ∨ (a = b ∧ i = a + 1)) ∧ Hid (SRowK tUse 51 w wr gb rest d1) ∧ Hid (OutInv TOUse a (min i b) d d1)) (fun vi _ _ => n + 1 - (intOf vi).toNat)
  case atStart =>
    refine ⟨a + 1, d, by go_num, by omega, by omega, HR.out, ?_⟩
    by_cases h : a < b
    · rw [show min (a + 1) b = a + 1 by omega]
      exact out_start d (by rw [HN.out]; omega)
    · rw [show min (a + 1) b = a by omega]
      exact out_none d
  case round =>
    obtain ⟨i, d1, rfl, hai, hib, hS, hO⟩ := hrel
    by_cases hlt : i < b
    · have hmin : min i b = i := by omega
      rw [hmin] at hO
      have hid : i < d.length := by rw [HN.out]; omega
      have HI : Hid (InsInv TOUse a i d d1 i) := ins_start hO.out (by omega) hid
      clear hmin hO hib
      obtain ⟨wq, rfl⟩ : ∃ wq : World, wq = wr := ⟨_, rfl⟩
      go_wp2_with fail
      go_loopw [9] (fun vj wr => ∃ (j : Nat) (d2 : List TUse), vj = .int .i64 j ∧ a ≤ j ∧ j ≤ i ∧ Hid (SRowK tUse 51 w wr gb rest d2) ∧ Hid (InsInv TOUse a i d d2 j)) (fun vj _ => (intOf vj).toNat)
      case atStart => exact ⟨i, d1, rfl, by omega, Nat.le_refl _, hS.out, HI.out⟩
      case round =>
        obtain ⟨j, d2, rfl, haj, hji, hS2, hI2⟩ := hrel
        have hl2 := (hI2.out.len (by omega)).1
        rw [HN.out] at hl2
        by_cases hja : a < j
        · obtain ⟨jp, hjp⟩ : ∃ jp, j = jp + 1 := ⟨j - 1, by omega⟩
          have hj2 : j < d2.length := by omega
          have hp2 : jp < d2.length := by omega
          have hDs : (segL d a (i + 1)).Pairwise fun x y => x.2 < y.2 := by rw [segL_take d (show i + 1 ≤ b by omega)]; exact HD.out.take
          have hst := ins_step ordUse hDs hI2.out (by omega) hja hj2
          have hen := ins_end2 ordUse hDs hI2.out (by omega) hja hj2
          have e1 : d2[j - 1] = d2[jp] := by congr 1; omega
          rw [e1, show j - 1 = jp by omega] at hst
          rw [e1] at hen
          obtain ⟨x, hx⟩ : ∃ x, d2[j] = x := ⟨_, rfl⟩
          obtain ⟨y, hy⟩ : ∃ y, d2[jp] = y := ⟨_, rfl⟩
          have ce := hS2.out.at_ lenUse hj2
          have pe := hS2.out.at_ lenUse hp2
          rw [hx] at ce hst hen
          rw [hy] at pe hst hen
          have HX := Lib.hid hx
          have HY := Lib.hid hy
          have HSt := Lib.hid hst
          have HEn := Lib.hid hen
          have hw1 : IntKind.i64.wrap ((j : Int) - 1) = (jp : Int) := by rw [show (j : Int) - 1 = (jp : Int) by omega]; exact IntWalk.i64_in _ (by omega)
          have hw2 : wrap64 ((j : Int) - 1) = (jp : Int) := by rw [show (j : Int) - 1 = (jp : Int) by omega]; exact IntWalk.wrap64_in _ (by omega)
          have hjn : j < n := by omega
          have hpn : jp < n := by omega
          have HCm := Lib.hid (fun w1 => cmpUse x y w1)
          obtain ⟨cv, hcv⟩ : ∃ c, cfUse x y = c := ⟨_, rfl⟩
          rw [hcv] at HCm HSt HEn
          have Hjp := Lib.hid hjp
          have Hl2 := Lib.hid hl2
          have hslt := hS2.out.lt
          clear hst hen e1 hx hy hDs hcv hjp hl2
          obtain ⟨wp, rfl⟩ : ∃ wp : World, wp = wr := ⟨_, rfl⟩
          replace ce := BW.cells ce
          replace pe := BW.cells pe
          go_upto_region 4 with fail
          refine wp_region_head_lit 16 (fun w' => ∃ p : BW wp, w' = p.w') (by kernel_rfl) (by kernel_rfl) ⟨⟨{ wp with drawn := wp.drawn + 1 }, ⟨rfl, rfl, rfl, Nat.le_refl _, fun _ _ => rfl⟩⟩, rfl⟩ ?_
          simp only [List.take_succ_cons, List.take_zero, List.drop_succ_cons, List.drop_zero]
          repeat (first | (refine wpQuiet_load aggUse rfl _ rfl _ rfl _ (lenUse _) (by rintro _ ⟨bw, rfl⟩; exact ce bw) ?_) | (refine wpQuiet_load aggUse rfl _ rfl _ rfl _ (lenUse _) (by rintro _ ⟨bw, rfl⟩; exact pe bw) ?_) | quiet_step (first | (go_at_call 28; exact BW.call _ (HCm.out _)) | exact rfl))
          refine wpQuiet_nil ?_
          intro w3 hw'
          obtain ⟨⟨_, hb3⟩, e3⟩ := hw'
          dsimp only at e3
          subst e3
          have hS3 := hS2.out.next hb3
          clear hb3 ce pe
          by_cases hcn : cv < 0
          · have hd : decide (cv < 0) = true := decide_eq_true hcn
            have HI3 := Lib.hid (HSt.out hcn)
            have HS3 := Lib.hid hS3
            have ce := hS3.at_ lenUse (i := j) (by rw [Hl2.out]; exact hjn)
            have pe := hS3.at_ lenUse (i := jp) (by rw [Hl2.out]; exact hpn)
            have hx : d2[j]'(by rw [Hl2.out]; exact hjn) = x := HX.out
            have hy : d2[jp]'(by rw [Hl2.out]; exact hpn) = y := HY.out
            rw [hx] at ce
            rw [hy] at pe
            have hne : ¬ jp = j := by have := Hjp.out; omega
            clear hcn hS3 hx hy
            have mixed : Try.prog.follows .mixedOrders = true := by kernel_rfl
            go_upto_region 6 with fail
            refine region_val (fun w' => w' = World.drew _) [1008, 1012, 1014, 1016] 0 30 [15, 17] mixed (by kernel_rfl) (by kernel_rfl) (by kernel_rfl) rfl ?_
            repeat (first | (refine wpVal_skip rfl ?_) | (refine wpVal_take rfl ?_; first | (refine wpVal_loadK aggUse rfl _ rfl _ rfl _ (lenUse _) (by rintro _ rfl; exact ce) (fun K hK => ?_); go_simp; refine hK _ ?_; clear hK K) | (refine wpVal_loadK aggUse rfl _ rfl _ rfl _ (lenUse _) (by rintro _ rfl; exact pe) (fun K hK => ?_); go_simp; refine hK _ ?_; clear hK K) | (refine wpVal_oneK rfl (fun K hK => ?_); refine ⟨_, fun w => by go_simp; rfl, ?_⟩; go_simp; refine hK _ ?_; clear hK K)))
            refine wpVal_end ?_
            refine wpLoud_store_el aggUse lenUse oneUse rfl rfl _ _ rfl rfl (HS3.out.drew) (by rw [Hl2.out]; exact hjn) y rfl rfl ?_
            intro wa hSa
            refine ⟨fun h => absurd h (Nat.not_lt_zero _), ?_⟩
            refine wpLoud_store_el aggUse lenUse oneUse rfl rfl _ _ rfl rfl hSa (by rw [List.length_set, Hl2.out]; exact hpn) x rfl rfl ?_
            intro wb hSb
            refine ⟨fun h => absurd h (Nat.not_lt_zero _), ?_⟩
            refine wpLoud_nil ?_
            have HSb := Lib.hid hSb
            clear hSa hSb
            go_wp2_with fail
            go_roundw
            case rel =>
              refine ⟨jp, (d2.set j y).set jp x, rfl, by have := Hjp.out; omega, by have := Hjp.out; omega, ?_, HI3.out⟩
              exact HSb.out
            case measure => have := Hjp.out; simp [intOf]; omega
          · have hd : decide (cv < 0) = false := decide_eq_false hcn
            have HO3 := Lib.hid (HEn.out hcn)
            have HS3 := Lib.hid hS3
            clear hS3 hcn
            go_wp2_with fail
            go_roundw
            case rel =>
              refine ⟨i + 1, d2, by go_num, by omega, .inl (by omega), HS3.out, ?_⟩
              show OutInv TOUse a (min (i + 1) b) d d2
              rw [show min (i + 1) b = i + 1 by omega]
              exact HO3.out
            case measure => simp [intOf]; omega
        · obtain rfl : j = a := by omega
          have HO3 : Hid (OutInv TOUse j (i + 1) d d2) := ins_end1 hI2.out (by omega)
          have hd : decide ((j : Int) < (j : Int)) = false := decide_eq_false (by omega)
          have hS2' := hS2
          obtain ⟨wp, rfl⟩ : ∃ wp : World, wp = wr := ⟨_, rfl⟩
          clear hja
          go_wp2_with fail
          go_quiet (fail)
          go_wp2_with fail
          go_roundw
          case rel =>
            refine ⟨i + 1, d2, by go_num, by omega, .inl (by omega), hS2'.out.drewN _, ?_⟩
            show OutInv TOUse j (min (i + 1) b) d d2
            rw [show min (i + 1) b = i + 1 by omega]
            exact HO3.out
          case measure => simp [intOf]; omega
    · have hmin : min i b = b := by omega
      rw [hmin] at hO
      have hS' := hS
      clear hmin
      go_wp2_with fail
      refine bodyPost_end (v := .tuple #[]) (by simp [results, Try.results59, go_sem]) rfl ?_
      exact ⟨rfl, d1, hS'.out, hO.out⟩
end Go.Proofs.Ytojealgjfbjnoaa
