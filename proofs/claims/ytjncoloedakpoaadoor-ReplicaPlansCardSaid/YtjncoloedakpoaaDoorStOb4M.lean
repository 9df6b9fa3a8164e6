/- The contract of the insertion sort at any elements. Condition: the row lies in a block of its own. || The contracts of the exchange of ranges at any elements. Condition: the row lies in a block of its own. -/
import Derived.Test.YtjncoloedakpoaaDoorStOb2M
namespace Go.Proofs.YtjncoloedakpoaaDoor
open Go.ChangeShapes Go.WideShapes Go.ChangeAt Go.RowKit Go.Deep

set_option maxRecDepth 100000 in
set_option maxHeartbeats 2000000 in
theorem insertion_Ob (d : List TOb) (rest : List Value) (gb n cap a b : Nat) (w : World) (hR : SRowK tOb 44 w w gb rest d) (hn : d.length = n) (hcm : n < 4611686018427387904) (hab : a ≤ b) (hb : b ≤ n) (hD : (segL d a b).Pairwise fun x y => x.2 < y.2) :
    Calls Tryd.prog 67 #[.slice (some ⟨gb, 0, none⟩) n cap, .int .i64 a, .int .i64 b, .func (.func 49) #[] #[]] w fun e w' => e = .returned (.tuple #[]) ∧ ∃ d', SRowK tOb 44 w w' gb rest d' ∧ OutInv TOOb a b d d' := by
  have HR := Lib.hid hR
  have HD := Lib.hid hD
  have HN := Lib.hid hn
  clear hR hD hn
  go_enter Tryd.func67, Tryd.ntmps67
  go_wp2_with fail
  go_loopw [8, 9] (fun vi _ wr => ∃ (i : Nat) (d1 : List TOb), vi = .int .i64 i ∧ a < i ∧ (i ≤ b ∨ (a = b ∧ i = a + 1)) ∧ Hid (SRowK tOb 44 w wr gb rest d1) ∧ Hid (OutInv TOOb a (min i b) d d1)) (fun vi _ _ => n + 1 - (intOf vi).toNat)
  case atStart =>
    refine ⟨a + 1, d, by go_num, by omega, by omega, HR.out, ?_⟩
    by_cases h : a < b
    · rw [show min (a + 1) b = a + 1 by omega]
      exact out_start d (by rw [HN.out]; omega)
    · rw [show min (a + 1) b = a by omega]
      exact out_none d
  case round =>
    obtain ⟨i, d1, rfl, hai, hib, hS, hO⟩ := hrel
    by_cases hlt : i < b
    · have hmin : min i b = i := by omega
      rw [hmin] at hO
      have hid : i < d.length := by rw [HN.out]; omega
      have HI : Hid (InsInv TOOb a i d d1 i) := ins_start hO.out (by omega) hid
      clear hmin hO hib
      obtain ⟨wq, rfl⟩ : ∃ wq : World, wq = wr := ⟨_, rfl⟩
      go_wp2_with fail
      go_loopw [9] (fun vj wr => ∃ (j : Nat) (d2 : List TOb), vj = .int .i64 j ∧ a ≤ j ∧ j ≤ i ∧ Hid (SRowK tOb 44 w wr gb rest d2) ∧ Hid (InsInv TOOb a i d d2 j)) (fun vj _ => (intOf vj).toNat)
      case atStart => exact ⟨i, d1, rfl, by omega, Nat.le_refl _, hS.out, HI.out⟩
      case round =>
        obtain ⟨j, d2, rfl, haj, hji, hS2, hI2⟩ := hrel
        have hl2 := (hI2.out.len (by omega)).1
        rw [HN.out] at hl2
        by_cases hja : a < j
        · obtain ⟨jp, hjp⟩ : ∃ jp, j = jp + 1 := ⟨j - 1, by omega⟩
          have hj2 : j < d2.length := by omega
          have hp2 : jp < d2.length := by omega
          have hDs : (segL d a (i + 1)).Pairwise fun x y => x.2 < y.2 := by rw [segL_take d (show i + 1 ≤ b by omega)]; exact HD.out.take
          have hst := ins_step ordOb hDs hI2.out (by omega) hja hj2
          have hen := ins_end2 ordOb hDs hI2.out (by omega) hja hj2
          have e1 : d2[j - 1] = d2[jp] := by congr 1; omega
          rw [e1, show j - 1 = jp by omega] at hst
          rw [e1] at hen
          obtain ⟨x, hx⟩ : ∃ x, d2[j] = x := ⟨_, rfl⟩
          obtain ⟨y, hy⟩ : ∃ y, d2[jp] = y := ⟨_, rfl⟩
          have ce := hS2.out.at_ lenOb hj2
          have pe := hS2.out.at_ lenOb hp2
          rw [hx] at ce hst hen
          rw [hy] at pe hst hen
          have HX := Lib.hid hx
          have HY := Lib.hid hy
          have HSt := Lib.hid hst
          have HEn := Lib.hid hen
          have hw1 : IntKind.i64.wrap ((j : Int) - 1) = (jp : Int) := by rw [show (j : Int) - 1 = (jp : Int) by omega]; exact IntWalk.i64_in _ (by omega)
          have hw2 : wrap64 ((j : Int) - 1) = (jp : Int) := by rw [show (j : Int) - 1 = (jp : Int) by omega]; exact IntWalk.wrap64_in _ (by omega)
          have hjn : j < n := by omega
          have hpn : jp < n := by omega
          have HCm := Lib.hid (fun w1 => cmpOb x y w1)
          obtain ⟨cv, hcv⟩ : ∃ c, cfOb x y = c := ⟨_, rfl⟩
          rw [hcv] at HCm HSt HEn
          have Hjp := Lib.hid hjp
          have Hl2 := Lib.hid hl2
          have hslt := hS2.out.lt
          clear hst hen e1 hx hy hDs hcv hjp hl2
          obtain ⟨wp, rfl⟩ : ∃ wp : World, wp = wr := ⟨_, rfl⟩
          replace ce := BW.cells ce
          replace pe := BW.cells pe
          go_upto_region 4 with fail
          refine wp_region_head_lit 16 (fun w' => ∃ p : BW wp, w' = p.w') (by kernel_rfl) (by kernel_rfl) ⟨⟨{ wp with drawn := wp.drawn + 1 }, ⟨rfl, rfl, rfl, Nat.le_refl _, fun _ _ => rfl⟩⟩, rfl⟩ ?_
          simp only [List.take_succ_cons, List.take_zero, List.drop_succ_cons, List.drop_zero]
          repeat (first | (refine wpQuiet_load aggOb rfl _ rfl _ rfl _ (lenOb _) (by rintro _ ⟨bw, rfl⟩; exact ce bw) ?_) | (refine wpQuiet_load aggOb rfl _ rfl _ rfl _ (lenOb _) (by rintro _ ⟨bw, rfl⟩; exact pe bw) ?_) | quiet_step (first | (go_at_call 49; exact BW.call _ (HCm.out _)) | exact rfl))
          refine wpQuiet_nil ?_
          intro w3 hw'
          obtain ⟨⟨_, hb3⟩, e3⟩ := hw'
          dsimp only at e3
          subst e3
          have hS3 := hS2.out.next hb3
          clear hb3 ce pe
          by_cases hcn : cv < 0
          · have hd : decide (cv < 0) = true := decide_eq_true hcn
            have HI3 := Lib.hid (HSt.out hcn)
            have HS3 := Lib.hid hS3
            have ce := hS3.at_ lenOb (i := j) (by rw [Hl2.out]; exact hjn)
            have pe := hS3.at_ lenOb (i := jp) (by rw [Hl2.out]; exact hpn)
            have hx : d2[j]'(by rw [Hl2.out]; exact hjn) = x := HX.out
            have hy : d2[jp]'(by rw [Hl2.out]; exact hpn) = y := HY.out
            rw [hx] at ce
            rw [hy] at pe
            have hne : ¬ jp = j := by have := Hjp.out; omega
            clear hcn hS3 hx hy
            have mixed : Tryd.prog.follows .mixedOrders = true := by kernel_rfl
            go_upto_region 6 with fail
            refine region_later mixed ?_
            refine later_phase (fun w' => w' = World.drew _) [15, 17] 0 0 18 30 (by kernel_rfl) (by kernel_rfl) rfl ?_
            repeat (first | (refine wpVal_skipR rfl ?_) | (refine wpVal_takeR rfl ?_; first | (refine wpVal_loadK aggOb rfl _ rfl _ rfl _ (lenOb _) (by rintro _ rfl; exact ce) (fun K hK => ?_); go_simp; refine hK _ ?_; clear hK K) | (refine wpVal_loadK aggOb rfl _ rfl _ rfl _ (lenOb _) (by rintro _ rfl; exact pe) (fun K hK => ?_); go_simp; refine hK _ ?_; clear hK K) | (refine wpVal_oneK rfl (fun K hK => ?_); refine ⟨_, fun w => by go_simp; rfl, ?_⟩; go_simp; refine hK _ ?_; clear hK K)))
            refine wpVal_endR ?_
            refine wpLoud_store_el aggOb lenOb oneOb rfl rfl _ _ rfl rfl (HS3.out.drew) (by rw [Hl2.out]; exact hjn) y rfl rfl ?_
            intro wa hSa
            refine ⟨fun h => absurd h (Nat.not_lt_zero _), ?_⟩
            refine wpLoud_store_el aggOb lenOb oneOb rfl rfl _ _ rfl rfl hSa (by rw [List.length_set, Hl2.out]; exact hpn) x rfl rfl ?_
            intro wb hSb
            refine ⟨fun h => absurd h (Nat.not_lt_zero _), ?_⟩
            refine wpLoud_nil ?_
            refine later_end 18 rfl ?_
            have HSb := Lib.hid hSb
            clear hSa hSb
            go_wp2_with fail
            go_roundw
            case rel =>
              refine ⟨jp, (d2.set j y).set jp x, rfl, by have := Hjp.out; omega, by have := Hjp.out; omega, ?_, HI3.out⟩
              exact HSb.out
            case measure => have := Hjp.out; simp [intOf]; omega
          · have hd : decide (cv < 0) = false := decide_eq_false hcn
            have HO3 := Lib.hid (HEn.out hcn)
            have HS3 := Lib.hid hS3
            clear hS3 hcn
            go_wp2_with fail
            go_roundw
            case rel =>
              refine ⟨i + 1, d2, by go_num, by omega, .inl (by omega), HS3.out, ?_⟩
              show OutInv TOOb a (min (i + 1) b) d d2
              rw [show min (i + 1) b = i + 1 by omega]
              exact HO3.out
            case measure => simp [intOf]; omega
        · obtain rfl : j = a := by omega
          have HO3 : Hid (OutInv TOOb j (i + 1) d d2) := ins_end1 hI2.out (by omega)
          have hd : decide ((j : Int) < (j : Int)) = false := decide_eq_false (by omega)
          have hS2' := hS2
          obtain ⟨wp, rfl⟩ : ∃ wp : World, wp = wr := ⟨_, rfl⟩
          clear hja
          go_wp2_with fail
          go_quiet (fail)
          go_wp2_with fail
          go_roundw
          case rel =>
            refine ⟨i + 1, d2, by go_num, by omega, .inl (by omega), hS2'.out.drewN _, ?_⟩
            show OutInv TOOb j (min (i + 1) b) d d2
            rw [show min (i + 1) b = i + 1 by omega]
            exact HO3.out
          case measure => simp [intOf]; omega
    · have hmin : min i b = b := by omega
      rw [hmin] at hO
      have hS' := hS
      clear hmin
      go_wp2_with fail
      refine bodyPost_end (v := .tuple #[]) (by simp [results, Tryd.results67, go_sem]) rfl ?_
      exact ⟨rfl, d1, hS'.out, hO.out⟩
end Go.Proofs.YtjncoloedakpoaaDoor
namespace Go.Proofs.YtjncoloedakpoaaDoor
open Go.ChangeShapes Go.WideShapes Go.ChangeAt Go.RowKit Go.Deep


set_option maxRecDepth 100000 in
set_option maxHeartbeats 2000000 in
theorem swapRange_Ob (P X Y Z S : List TOb) (rest : List Value) (gb n cap a b m : Nat) (w : World) (hR : SRowK tOb 44 w w gb rest (P ++ X ++ Y ++ Z ++ S)) (hn : (P ++ X ++ Y ++ Z ++ S).length = n) (hcm : n < 4611686018427387904)
    (ha : P.length = a) (hb : P.length + X.length + Y.length = b) (hx : X.length = m) (hz : Z.length = m) :
    Calls Tryd.prog 81 #[.slice (some ⟨gb, 0, none⟩) n cap, .int .i64 a, .int .i64 b, .int .i64 m, .func (.func 49) #[] #[]] w fun e w' => e = .returned (.tuple #[]) ∧ SRowK tOb 44 w w' gb rest (P ++ Z ++ Y ++ X ++ S) := by
  have hbm : b + m ≤ n := by simp at hn; omega
  have ham : a + m ≤ n := by omega
  have hab : a + m ≤ b := by omega
  have HR := Lib.hid hR
  have HX := Lib.hid hx
  have HZ := Lib.hid hz
  have HN := Lib.hid hn
  have HA := Lib.hid ha
  have HB := Lib.hid hb
  clear hR hx hz hn ha hb
  go_enter Tryd.func81, Tryd.ntmps81
  go_wp2_with fail
  go_loopw [10] (fun vi wr => ∃ (i : Nat) (d : List TOb), vi = .int .i64 i ∧ i ≤ m ∧ Hid (SRowK tOb 44 w wr gb rest d) ∧ Hid (SwpInv P X Y Z S d i)) (fun vi _ => m - (intOf vi).toNat)
  case atStart => exact ⟨0, _, rfl, Nat.zero_le _, HR.out, swp_start P X Y Z S⟩
  case round =>
    obtain ⟨i, d, rfl, him, hS, hI⟩ := hrel
    by_cases hlt : i < m
    · have hix : i < X.length := by rw [HX.out]; exact hlt
      have hiz : i < Z.length := by rw [HZ.out]; exact hlt
      have hld := hI.out.len (by omega) (by omega)
      have hl2 : d.length = n := by have := HN.out; simp at this; omega
      obtain ⟨g1, g2⟩ := swp_at hI.out hix hiz
      have hst := swp_step hI.out hix hiz
      rw [HB.out] at g2 hst
      rw [HA.out] at g1 hst
      obtain ⟨ia, hia⟩ : ∃ k, a + i = k := ⟨_, rfl⟩
      obtain ⟨ib, hib⟩ : ∃ k, b + i = k := ⟨_, rfl⟩
      rw [hia] at g1 hst
      rw [hib] at g2 hst
      obtain ⟨x, hx⟩ : ∃ x, X[i] = x := ⟨_, rfl⟩
      obtain ⟨z, hz⟩ : ∃ z, Z[i] = z := ⟨_, rfl⟩
      rw [hx] at g1 hst
      rw [hz] at g2 hst
      have han : ia < n := by omega
      have hbn : ib < n := by omega
      have hne : ¬ ia = ib := by omega
      have hne2 : ¬ ib = ia := by omega
      have ce := hS.out.at_ lenOb (i := ia) (by omega)
      have pe := hS.out.at_ lenOb (i := ib) (by omega)
      rw [List.getElem?_eq_getElem (by omega)] at g1 g2
      rw [Option.some.inj g1] at ce
      rw [Option.some.inj g2] at pe
      have HSt := Lib.hid hst
      have Hl2 := Lib.hid hl2
      have w1 : wrap64 ((a : Int) + (i : Int)) = (ia : Int) := by rw [show (a : Int) + (i : Int) = (ia : Int) by omega]; exact IntWalk.wrap64_in _ (by omega)
      have w2 : wrap64 ((b : Int) + (i : Int)) = (ib : Int) := by rw [show (b : Int) + (i : Int) = (ib : Int) by omega]; exact IntWalk.wrap64_in _ (by omega)
      have w3 : (a : Int) + (i : Int) = (ia : Int) := by omega
      have w4 : (b : Int) + (i : Int) = (ib : Int) := by omega
      have mixed : Tryd.prog.follows .mixedOrders = true := by kernel_rfl
      have hS' := hS
      clear g1 g2 hst hld hl2 hx hz hix hiz hia hib
      obtain ⟨wp, rfl⟩ : ∃ wp : World, wp = wr := ⟨_, rfl⟩
      go_upto_region 3 with fail
      have hwria : IntKind.i64.wrap (ia : Int) = (ia : Int) := IntWalk.i64_in _ (by omega)
      have hwrib : IntKind.i64.wrap (ib : Int) = (ib : Int) := IntWalk.i64_in _ (by omega)
      refine region_later mixed ?_
      refine later_phase (fun w' => w' = World.drew _) [21, 23] 0 0 24 30 (by kernel_rfl) (by kernel_rfl) rfl ?_
      repeat (first | (refine wpVal_skipR rfl ?_) | (refine wpVal_takeR rfl ?_; first | (refine wpVal_loadK aggOb rfl _ rfl _ rfl _ (lenOb _) (by rintro _ rfl; exact ce) (fun K hK => ?_); go_simp; refine hK _ ?_; clear hK K) | (refine wpVal_loadK aggOb rfl _ rfl _ rfl _ (lenOb _) (by rintro _ rfl; exact pe) (fun K hK => ?_); go_simp; refine hK _ ?_; clear hK K) | (refine wpVal_oneK rfl (fun K hK => ?_); refine ⟨_, fun w => by go_simp; rfl, ?_⟩; go_simp; refine hK _ ?_; clear hK K)))
      refine wpVal_endR ?_
      clear hwria hwrib
      refine wpLoud_store_el aggOb lenOb oneOb rfl rfl _ _ rfl rfl (hS'.out.drew) (by rw [Hl2.out]; exact han) z rfl rfl ?_
      intro wa hSa
      refine ⟨fun h => absurd h (Nat.not_lt_zero _), ?_⟩
      refine wpLoud_store_el aggOb lenOb oneOb rfl rfl _ _ rfl rfl hSa (by rw [List.length_set, Hl2.out]; exact hbn) x rfl rfl ?_
      intro wb hSb
      refine ⟨fun h => absurd h (Nat.not_lt_zero _), ?_⟩
      refine wpLoud_nil ?_
      refine later_end 24 rfl ?_
      have HSb := Lib.hid hSb
      clear hSa hSb
      go_wp2_with fail
      go_roundw
      case rel =>
        refine ⟨i + 1, (d.set ia z).set ib x, by go_num, by omega, ?_, HSt.out⟩
        exact HSb.out
      case measure => simp [intOf]; omega
    · obtain rfl : i = m := by omega
      have hS' := hS
      have HE := Lib.hid (swp_end hI.out HX.out HZ.out)
      go_wp2_with fail
      refine bodyPost_end (v := .tuple #[]) (by simp [results, Tryd.results81, go_sem]) rfl ?_
      exact ⟨rfl, by rw [← HE.out]; exact hS'.out⟩

end Go.Proofs.YtjncoloedakpoaaDoor
