/- The contract of the insertion sort at any elements. Condition: the row lies in a block of its own. || The contracts of the exchange of ranges at any elements. Condition: the row lies in a block of its own. || The contract of the rotation at any elements. Condition: the row lies in a block of its own. || Plain laws of a binary search and of a shift by exchanges, for the symmetric merge. No condition. -/
import Derived.Test.YtpbppgfogepjeaaStOb2M
import Derived.Test.YtpbppgfogepjeaaSortPlain
namespace Go.Proofs.Ytpbppgfogepjeaa
open Go.ChangeShapes Go.WideShapes Go.ChangeAt Go.RowKit Go.Deep

set_option maxRecDepth 100000 in
set_option maxHeartbeats 2000000 in
theorem insertion_Ob (d : List TOb) (rest : List Value) (gb n cap a b : Nat) (w : World) (hR : SRowK tOb 44 w w gb rest d) (hn : d.length = n) (hcm : n < 4611686018427387904) (hab : a ≤ b) (hb : b ≤ n) (hD : (segL d a b).Pairwise fun x y => x.2 < y.2) :
    Calls Try.prog 132 #[.slice (some ⟨gb, 0, none⟩) n cap, .int .i64 a, .int .i64 b, .func (.func 109) #[] #[]] w fun e w' => e = .returned (.tuple #[]) ∧ ∃ d', SRowK tOb 44 w w' gb rest d' ∧ OutInv TOOb a b d d' := by
  have HR := Lib.hid hR
  have HD := Lib.hid hD
  have HN := Lib.hid hn
  clear hR hD hn
  go_enter Try.func132, Try.ntmps132
  go_wp2_with fail
  go_loopw [8, 9] (fun vi _ wr => ∃ (i : Nat) (d1 : List TOb), vi = .int .i64 i ∧ a < i ∧ (i ≤ b ∨ (a = b ∧ i = a + 1)) ∧ Hid (SRowK tOb 44 w wr gb rest d1) ∧ Hid (OutInv TOOb a (min i b) d d1)) (fun vi _ _ => n + 1 - (intOf vi).toNat)
  case atStart =>
    refine ⟨a + 1, d, by go_num, by omega, by omega, HR.out, ?_⟩
    by_cases h : a < b
    · rw [show min (a + 1) b = a + 1 by omega]
      exact out_start d (by rw [HN.out]; omega)
    · rw [show min (a + 1) b = a by omega]
      exact out_none d
  case round =>
    obtain ⟨i, d1, rfl, hai, hib, hS, hO⟩ := hrel
    by_cases hlt : i < b
    · have hmin : min i b = i := by omega
      rw [hmin] at hO
      have hid : i < d.length := by rw [HN.out]; omega
      have HI : Hid (InsInv TOOb a i d d1 i) := ins_start hO.out (by omega) hid
      clear hmin hO hib
      obtain ⟨wq, rfl⟩ : ∃ wq : World, wq = wr := ⟨_, rfl⟩
      go_wp2_with fail
      go_loopw [9] (fun vj wr => ∃ (j : Nat) (d2 : List TOb), vj = .int .i64 j ∧ a ≤ j ∧ j ≤ i ∧ Hid (SRowK tOb 44 w wr gb rest d2) ∧ Hid (InsInv TOOb a i d d2 j)) (fun vj _ => (intOf vj).toNat)
      case atStart => exact ⟨i, d1, rfl, by omega, Nat.le_refl _, hS.out, HI.out⟩
      case round =>
        obtain ⟨j, d2, rfl, haj, hji, hS2, hI2⟩ := hrel
        have hl2 := (hI2.out.len (by omega)).1
        rw [HN.out] at hl2
        by_cases hja : a < j
        · obtain ⟨jp, hjp⟩ : ∃ jp, j = jp + 1 := ⟨j - 1, by omega⟩
          have hj2 : j < d2.length := by omega
          have hp2 : jp < d2.length := by omega
          have hDs : (segL d a (i + 1)).Pairwise fun x y => x.2 < y.2 := by rw [segL_take d (show i + 1 ≤ b by omega)]; exact HD.out.take
          have hst := ins_step ordOb hDs hI2.out (by omega) hja hj2
          have hen := ins_end2 ordOb hDs hI2.out (by omega) hja hj2
          have e1 : d2[j - 1] = d2[jp] := by congr 1; omega
          rw [e1, show j - 1 = jp by omega] at hst
          rw [e1] at hen
          obtain ⟨x, hx⟩ : ∃ x, d2[j] = x := ⟨_, rfl⟩
          obtain ⟨y, hy⟩ : ∃ y, d2[jp] = y := ⟨_, rfl⟩
          have ce := hS2.out.at_ lenOb hj2
          have pe := hS2.out.at_ lenOb hp2
          rw [hx] at ce hst hen
          rw [hy] at pe hst hen
          have HX := Lib.hid hx
          have HY := Lib.hid hy
          have HSt := Lib.hid hst
          have HEn := Lib.hid hen
          have hw1 : IntKind.i64.wrap ((j : Int) - 1) = (jp : Int) := by rw [show (j : Int) - 1 = (jp : Int) by omega]; exact IntWalk.i64_in _ (by omega)
          have hw2 : wrap64 ((j : Int) - 1) = (jp : Int) := by rw [show (j : Int) - 1 = (jp : Int) by omega]; exact IntWalk.wrap64_in _ (by omega)
          have hjn : j < n := by omega
          have hpn : jp < n := by omega
          have HCm := Lib.hid (fun w1 => cmpOb x y w1)
          obtain ⟨cv, hcv⟩ : ∃ c, cfOb x y = c := ⟨_, rfl⟩
          rw [hcv] at HCm HSt HEn
          have Hjp := Lib.hid hjp
          have Hl2 := Lib.hid hl2
          have hslt := hS2.out.lt
          clear hst hen e1 hx hy hDs hcv hjp hl2
          obtain ⟨wp, rfl⟩ : ∃ wp : World, wp = wr := ⟨_, rfl⟩
          replace ce := BW.cells ce
          replace pe := BW.cells pe
          go_upto_region 4 with fail
          refine wp_region_head_lit 16 (fun w' => ∃ p : BW wp, w' = p.w') (by kernel_rfl) (by kernel_rfl) ⟨⟨{ wp with drawn := wp.drawn + 1 }, ⟨rfl, rfl, rfl, Nat.le_refl _, fun _ _ => rfl⟩⟩, rfl⟩ ?_
          simp only [List.take_succ_cons, List.take_zero, List.drop_succ_cons, List.drop_zero]
          repeat (first | (refine wpQuiet_load aggOb rfl _ rfl _ rfl _ (lenOb _) (by rintro _ ⟨bw, rfl⟩; exact ce bw) ?_) | (refine wpQuiet_load aggOb rfl _ rfl _ rfl _ (lenOb _) (by rintro _ ⟨bw, rfl⟩; exact pe bw) ?_) | quiet_step (first | (go_at_call 109; exact BW.call _ (HCm.out _)) | exact rfl))
          refine wpQuiet_nil ?_
          intro w3 hw'
          obtain ⟨⟨_, hb3⟩, e3⟩ := hw'
          dsimp only at e3
          subst e3
          have hS3 := hS2.out.next hb3
          clear hb3 ce pe
          by_cases hcn : cv < 0
          · have hd : decide (cv < 0) = true := decide_eq_true hcn
            have HI3 := Lib.hid (HSt.out hcn)
            have HS3 := Lib.hid hS3
            have ce := hS3.at_ lenOb (i := j) (by rw [Hl2.out]; exact hjn)
            have pe := hS3.at_ lenOb (i := jp) (by rw [Hl2.out]; exact hpn)
            have hx : d2[j]'(by rw [Hl2.out]; exact hjn) = x := HX.out
            have hy : d2[jp]'(by rw [Hl2.out]; exact hpn) = y := HY.out
            rw [hx] at ce
            rw [hy] at pe
            have hne : ¬ jp = j := by have := Hjp.out; omega
            clear hcn hS3 hx hy
            have mixed : Try.prog.follows .mixedOrders = true := by kernel_rfl
            go_upto_region 6 with fail
            refine region_later mixed ?_
            refine later_phase (fun w' => w' = World.drew _) [15, 17] 0 0 18 30 (by kernel_rfl) (by kernel_rfl) rfl ?_
            repeat (first | (refine wpVal_skipR rfl ?_) | (refine wpVal_takeR rfl ?_; first | (refine wpVal_loadK aggOb rfl _ rfl _ rfl _ (lenOb _) (by rintro _ rfl; exact ce) (fun K hK => ?_); go_simp; refine hK _ ?_; clear hK K) | (refine wpVal_loadK aggOb rfl _ rfl _ rfl _ (lenOb _) (by rintro _ rfl; exact pe) (fun K hK => ?_); go_simp; refine hK _ ?_; clear hK K) | (refine wpVal_oneK rfl (fun K hK => ?_); refine ⟨_, fun w => by go_simp; rfl, ?_⟩; go_simp; refine hK _ ?_; clear hK K)))
            refine wpVal_endR ?_
            refine wpLoud_store_el aggOb lenOb oneOb rfl rfl _ _ rfl rfl (HS3.out.drew) (by rw [Hl2.out]; exact hjn) y rfl rfl ?_
            intro wa hSa
            refine ⟨fun h => absurd h (Nat.not_lt_zero _), ?_⟩
            refine wpLoud_store_el aggOb lenOb oneOb rfl rfl _ _ rfl rfl hSa (by rw [List.length_set, Hl2.out]; exact hpn) x rfl rfl ?_
            intro wb hSb
            refine ⟨fun h => absurd h (Nat.not_lt_zero _), ?_⟩
            refine wpLoud_nil ?_
            refine later_end 18 rfl ?_
            have HSb := Lib.hid hSb
            clear hSa hSb
            go_wp2_with fail
            go_roundw
            case rel =>
              refine ⟨jp, (d2.set j y).set jp x, rfl, by have := Hjp.out; omega, by have := Hjp.out; omega, ?_, HI3.out⟩
              exact HSb.out
            case measure => have := Hjp.out; simp [intOf]; omega
          · have hd : decide (cv < 0) = false := decide_eq_false hcn
            have HO3 := Lib.hid (HEn.out hcn)
            have HS3 := Lib.hid hS3
            clear hS3 hcn
            go_wp2_with fail
            go_roundw
            case rel =>
              refine ⟨i + 1, d2, by go_num, by omega, .inl (by omega), HS3.out, ?_⟩
              show OutInv TOOb a (min (i + 1) b) d d2
              rw [show min (i + 1) b = i + 1 by omega]
              exact HO3.out
            case measure => simp [intOf]; omega
        · obtain rfl : j = a := by omega
          have HO3 : Hid (OutInv TOOb j (i + 1) d d2) := ins_end1 hI2.out (by omega)
          have hd : decide ((j : Int) < (j : Int)) = false := decide_eq_false (by omega)
          have hS2' := hS2
          obtain ⟨wp, rfl⟩ : ∃ wp : World, wp = wr := ⟨_, rfl⟩
          clear hja
          go_wp2_with fail
          go_quiet (fail)
          go_wp2_with fail
          go_roundw
          case rel =>
            refine ⟨i + 1, d2, by go_num, by omega, .inl (by omega), hS2'.out.drewN _, ?_⟩
            show OutInv TOOb j (min (i + 1) b) d d2
            rw [show min (i + 1) b = i + 1 by omega]
            exact HO3.out
          case measure => simp [intOf]; omega
    · have hmin : min i b = b := by omega
      rw [hmin] at hO
      have hS' := hS
      clear hmin
      go_wp2_with fail
      refine bodyPost_end (v := .tuple #[]) (by simp [results, Try.results132, go_sem]) rfl ?_
      exact ⟨rfl, d1, hS'.out, hO.out⟩
end Go.Proofs.Ytpbppgfogepjeaa
namespace Go.Proofs.Ytpbppgfogepjeaa
open Go.ChangeShapes Go.WideShapes Go.ChangeAt Go.RowKit Go.Deep


set_option maxRecDepth 100000 in
set_option maxHeartbeats 2000000 in
theorem swapRange_Ob (P X Y Z S : List TOb) (rest : List Value) (gb n cap a b m : Nat) (w : World) (hR : SRowK tOb 44 w w gb rest (P ++ X ++ Y ++ Z ++ S)) (hn : (P ++ X ++ Y ++ Z ++ S).length = n) (hcm : n < 4611686018427387904)
    (ha : P.length = a) (hb : P.length + X.length + Y.length = b) (hx : X.length = m) (hz : Z.length = m) :
    Calls Try.prog 142 #[.slice (some ⟨gb, 0, none⟩) n cap, .int .i64 a, .int .i64 b, .int .i64 m, .func (.func 109) #[] #[]] w fun e w' => e = .returned (.tuple #[]) ∧ SRowK tOb 44 w w' gb rest (P ++ Z ++ Y ++ X ++ S) := by
  have hbm : b + m ≤ n := by simp at hn; omega
  have ham : a + m ≤ n := by omega
  have hab : a + m ≤ b := by omega
  have HR := Lib.hid hR
  have HX := Lib.hid hx
  have HZ := Lib.hid hz
  have HN := Lib.hid hn
  have HA := Lib.hid ha
  have HB := Lib.hid hb
  clear hR hx hz hn ha hb
  go_enter Try.func142, Try.ntmps142
  go_wp2_with fail
  go_loopw [10] (fun vi wr => ∃ (i : Nat) (d : List TOb), vi = .int .i64 i ∧ i ≤ m ∧ Hid (SRowK tOb 44 w wr gb rest d) ∧ Hid (SwpInv P X Y Z S d i)) (fun vi _ => m - (intOf vi).toNat)
  case atStart => exact ⟨0, _, rfl, Nat.zero_le _, HR.out, swp_start P X Y Z S⟩
  case round =>
    obtain ⟨i, d, rfl, him, hS, hI⟩ := hrel
    by_cases hlt : i < m
    · have hix : i < X.length := by rw [HX.out]; exact hlt
      have hiz : i < Z.length := by rw [HZ.out]; exact hlt
      have hld := hI.out.len (by omega) (by omega)
      have hl2 : d.length = n := by have := HN.out; simp at this; omega
      obtain ⟨g1, g2⟩ := swp_at hI.out hix hiz
      have hst := swp_step hI.out hix hiz
      rw [HB.out] at g2 hst
      rw [HA.out] at g1 hst
      obtain ⟨ia, hia⟩ : ∃ k, a + i = k := ⟨_, rfl⟩
      obtain ⟨ib, hib⟩ : ∃ k, b + i = k := ⟨_, rfl⟩
      rw [hia] at g1 hst
      rw [hib] at g2 hst
      obtain ⟨x, hx⟩ : ∃ x, X[i] = x := ⟨_, rfl⟩
      obtain ⟨z, hz⟩ : ∃ z, Z[i] = z := ⟨_, rfl⟩
      rw [hx] at g1 hst
      rw [hz] at g2 hst
      have han : ia < n := by omega
      have hbn : ib < n := by omega
      have hne : ¬ ia = ib := by omega
      have hne2 : ¬ ib = ia := by omega
      have ce := hS.out.at_ lenOb (i := ia) (by omega)
      have pe := hS.out.at_ lenOb (i := ib) (by omega)
      rw [List.getElem?_eq_getElem (by omega)] at g1 g2
      rw [Option.some.inj g1] at ce
      rw [Option.some.inj g2] at pe
      have HSt := Lib.hid hst
      have Hl2 := Lib.hid hl2
      have w1 : wrap64 ((a : Int) + (i : Int)) = (ia : Int) := by rw [show (a : Int) + (i : Int) = (ia : Int) by omega]; exact IntWalk.wrap64_in _ (by omega)
      have w2 : wrap64 ((b : Int) + (i : Int)) = (ib : Int) := by rw [show (b : Int) + (i : Int) = (ib : Int) by omega]; exact IntWalk.wrap64_in _ (by omega)
      have w3 : (a : Int) + (i : Int) = (ia : Int) := by omega
      have w4 : (b : Int) + (i : Int) = (ib : Int) := by omega
      have mixed : Try.prog.follows .mixedOrders = true := by kernel_rfl
      have hS' := hS
      clear g1 g2 hst hld hl2 hx hz hix hiz hia hib
      obtain ⟨wp, rfl⟩ : ∃ wp : World, wp = wr := ⟨_, rfl⟩
      go_upto_region 3 with fail
      have hwria : IntKind.i64.wrap (ia : Int) = (ia : Int) := IntWalk.i64_in _ (by omega)
      have hwrib : IntKind.i64.wrap (ib : Int) = (ib : Int) := IntWalk.i64_in _ (by omega)
      refine region_later mixed ?_
      refine later_phase (fun w' => w' = World.drew _) [21, 23] 0 0 24 30 (by kernel_rfl) (by kernel_rfl) rfl ?_
      repeat (first | (refine wpVal_skipR rfl ?_) | (refine wpVal_takeR rfl ?_; first | (refine wpVal_loadK aggOb rfl _ rfl _ rfl _ (lenOb _) (by rintro _ rfl; exact ce) (fun K hK => ?_); go_simp; refine hK _ ?_; clear hK K) | (refine wpVal_loadK aggOb rfl _ rfl _ rfl _ (lenOb _) (by rintro _ rfl; exact pe) (fun K hK => ?_); go_simp; refine hK _ ?_; clear hK K) | (refine wpVal_oneK rfl (fun K hK => ?_); refine ⟨_, fun w => by go_simp; rfl, ?_⟩; go_simp; refine hK _ ?_; clear hK K)))
      refine wpVal_endR ?_
      clear hwria hwrib
      refine wpLoud_store_el aggOb lenOb oneOb rfl rfl _ _ rfl rfl (hS'.out.drew) (by rw [Hl2.out]; exact han) z rfl rfl ?_
      intro wa hSa
      refine ⟨fun h => absurd h (Nat.not_lt_zero _), ?_⟩
      refine wpLoud_store_el aggOb lenOb oneOb rfl rfl _ _ rfl rfl hSa (by rw [List.length_set, Hl2.out]; exact hbn) x rfl rfl ?_
      intro wb hSb
      refine ⟨fun h => absurd h (Nat.not_lt_zero _), ?_⟩
      refine wpLoud_nil ?_
      refine later_end 24 rfl ?_
      have HSb := Lib.hid hSb
      clear hSa hSb
      go_wp2_with fail
      go_roundw
      case rel =>
        refine ⟨i + 1, (d.set ia z).set ib x, by go_num, by omega, ?_, HSt.out⟩
        exact HSb.out
      case measure => simp [intOf]; omega
    · obtain rfl : i = m := by omega
      have hS' := hS
      have HE := Lib.hid (swp_end hI.out HX.out HZ.out)
      go_wp2_with fail
      refine bodyPost_end (v := .tuple #[]) (by simp [results, Try.results142, go_sem]) rfl ?_
      exact ⟨rfl, by rw [← HE.out]; exact hS'.out⟩

end Go.Proofs.Ytpbppgfogepjeaa
namespace Go.Proofs.Ytpbppgfogepjeaa
open Go.ChangeShapes Go.WideShapes Go.ChangeAt Go.RowKit Go.Deep

set_option maxRecDepth 100000 in
set_option maxHeartbeats 600000 in
theorem rotate_Ob (P U V S : List TOb) (rest : List Value) (gb n cap a m b : Nat) (w : World) (hR : SRowK tOb 44 w w gb rest (P ++ U ++ V ++ S)) (hn : (P ++ U ++ V ++ S).length = n) (hcm : n < 4611686018427387904)
    (ha : P.length = a) (hm : a + U.length = m) (hb : m + V.length = b) (hU : 0 < U.length) (hV : 0 < V.length) :
    Calls Try.prog 140 #[.slice (some ⟨gb, 0, none⟩) n cap, .int .i64 a, .int .i64 m, .int .i64 b, .func (.func 109) #[] #[]] w fun e w' => e = .returned (.tuple #[]) ∧ SRowK tOb 44 w w' gb rest (P ++ V ++ U ++ S) := by
  have hbn : b ≤ n := by simp at hn; omega
  have HR := Lib.hid hR
  have HN := Lib.hid hn
  obtain ⟨W, hW⟩ : ∃ W, W = P ++ V ++ U ++ S := ⟨_, rfl⟩
  have HWl : Hid (W.length = n) := by show _ = _; rw [hW]; simp at hn ⊢; omega
  have HI0 : Hid (RotInv m W (P ++ U ++ V ++ S) (m - a) (b - m)) := ⟨P, U, V, S, rfl, by omega, by omega, by omega, by omega, by omega, hW⟩
  rw [← hW]
  have e1 : wrap64 ((m : Int) - (a : Int)) = ((m - a : Nat) : Int) := by rw [show (m : Int) - (a : Int) = ((m - a : Nat) : Int) by omega]; exact IntWalk.wrap64_in _ (by omega)
  have e2 : wrap64 ((b : Int) - (m : Int)) = ((b - m : Nat) : Int) := by rw [show (b : Int) - (m : Int) = ((b - m : Nat) : Int) by omega]; exact IntWalk.wrap64_in _ (by omega)
  have e3 : (m : Int) - (a : Int) = ((m - a : Nat) : Int) := by omega
  have e4 : (b : Int) - (m : Int) = ((b - m : Nat) : Int) := by omega
  have hmn : m ≤ n := by omega
  obtain ⟨i0, hi0⟩ : ∃ k, m - a = k := ⟨_, rfl⟩
  obtain ⟨j0, hj0⟩ : ∃ k, b - m = k := ⟨_, rfl⟩
  rw [hi0] at HI0 e1 e3
  rw [hj0] at HI0 e2 e4
  have hij : i0 ≤ m ∧ m + j0 ≤ n := by omega
  clear hR hn hW ha hm hb hU hV hi0 hj0
  go_enter Try.func140, Try.ntmps140
  go_wp2_with fail
  go_loopw [10, 11] (fun vi vj wr => ∃ (i j : Nat) (d : List TOb), vi = .int .i64 i ∧ vj = .int .i64 j ∧ i ≤ m ∧ m + j ≤ n ∧ 0 < i ∧ 0 < j ∧ Hid (SRowK tOb 44 w wr gb rest d) ∧ Hid (RotInv m W d i j) ∧ Hid (d.length = n)) (fun vi vj _ => (intOf vi).toNat + (intOf vj).toNat)
  case atStart =>
    obtain ⟨_, _, _, _, _, _, _, _, h1, h2, _⟩ := HI0.out
    exact ⟨i0, j0, _, rfl, rfl, hij.1, hij.2, h1, h2, HR.out, HI0.out, HN.out⟩
  case round =>
    obtain ⟨i, j, d, rfl, rfl, him, hjn, hi1, hj1, hS, hI, hl⟩ := hrel
    obtain ⟨wp, rfl⟩ : ∃ wp : World, wp = wr := ⟨_, rfl⟩
    obtain ⟨mi, hmi⟩ : ∃ k, m - i = k := ⟨_, rfl⟩
    have w1 : wrap64 ((m : Int) - (i : Int)) = (mi : Int) := by rw [show (m : Int) - (i : Int) = (mi : Int) by omega]; exact IntWalk.wrap64_in _ (by omega)
    have w2 : (m : Int) - (i : Int) = (mi : Int) := by omega
    rcases Nat.lt_trichotomy i j with hij | hij | hij
    · obtain ⟨P', X, Y, Z, S', hd, hX, hZ, hP, hXY, hI2⟩ := rot_up hI.out hij
      subst hd
      have HC := Lib.hid (swapRange_Ob P' X Y Z S' rest gb n cap mi (m + j - i) i wp hS.out.self hl.out hcm (by omega) (by omega) hX hZ)
      obtain ⟨mj, hmj⟩ : ∃ k, m + j - i = k := ⟨_, rfl⟩
      obtain ⟨ji, hji⟩ : ∃ k, j - i = k := ⟨_, rfl⟩
      rw [hmj] at HC
      rw [hji] at hI2
      have w3 : (m : Int) + (j : Int) - (i : Int) = (mj : Int) := by omega
      have w5 : (j : Int) - (i : Int) = (ji : Int) := by omega
      have w6 : wrap64 ((j : Int) - (i : Int)) = (ji : Int) := by rw [w5]; exact IntWalk.wrap64_in _ (by omega)
      have hne : ((i : Int) == (j : Int)) = false := by rw [beq_eq_false_iff_ne]; omega
      have hne2 : (i != j) = true := by simp [bne]; omega
      have hnl : ¬ j < i := by omega
      have HI2 := Lib.hid hI2
      have Hl2 : Hid ((P' ++ Z ++ Y ++ X ++ S').length = n) := by have := hl.out; show _ = _; simp at this ⊢; omega
      have hS' := hS
      have Hji : Hid (ji = j - i) := hji.symm
      clear hI2 hX hZ hP hXY hmi hmj hji hl
      go_wp2_with fail
      refine HC.out.mono ?_
      rintro e w5 ⟨rfl, hS5⟩
      have HS5 := Lib.hid (hS'.out.trans hS5)
      clear hS5
      go_wp2_with fail
      go_roundw
      case rel => exact ⟨i, ji, _, rfl, rfl, him, by have := Hji.out; omega, hi1, by have := Hji.out; omega, HS5.out, HI2.out, Hl2.out⟩
      case measure => have := Hji.out; simp [intOf]; omega
    · subst hij
      obtain ⟨P', X, Z, S', hd, hX, hZ, hP, hXY, hWe⟩ := rot_last hI.out
      subst hd
      have HC := Lib.hid (swapRange_Ob P' X [] Z S' rest gb n cap mi m i wp hS.out.self hl.out hcm (by omega) hXY hX hZ)
      rw [← hWe] at HC
      have hS' := hS
      clear hX hZ hP hXY hWe hmi hl
      go_wp2_with fail
      refine HC.out.mono ?_
      rintro e w5 ⟨rfl, hS5⟩
      have HS5 := Lib.hid (hS'.out.trans hS5)
      clear hS5
      go_wp2_with fail
      refine bodyPost_end (v := .tuple #[]) (by simp [results, Try.results140, go_sem]) rfl ?_
      exact ⟨rfl, HS5.out⟩
    · obtain ⟨P', X, Y, Z, S', hd, hX, hZ, hP, hXY, hI2⟩ := rot_down hI.out hij
      subst hd
      have HC := Lib.hid (swapRange_Ob P' X Y Z S' rest gb n cap mi m j wp hS.out.self hl.out hcm (by omega) hXY hX hZ)
      obtain ⟨ij, hij2⟩ : ∃ k, i - j = k := ⟨_, rfl⟩
      rw [hij2] at hI2
      have w5 : (i : Int) - (j : Int) = (ij : Int) := by omega
      have w6 : wrap64 ((i : Int) - (j : Int)) = (ij : Int) := by rw [w5]; exact IntWalk.wrap64_in _ (by omega)
      have hne : ((i : Int) == (j : Int)) = false := by rw [beq_eq_false_iff_ne]; omega
      have hne2 : (i != j) = true := by simp [bne]; omega
      have HI2 := Lib.hid hI2
      have Hl2 : Hid ((P' ++ Z ++ Y ++ X ++ S').length = n) := by have := hl.out; show _ = _; simp at this ⊢; omega
      have hS' := hS
      have Hji : Hid (ij = i - j) := hij2.symm
      clear hI2 hX hZ hP hXY hmi hij2 hl
      go_wp2_with fail
      refine HC.out.mono ?_
      rintro e w5 ⟨rfl, hS5⟩
      have HS5 := Lib.hid (hS'.out.trans hS5)
      clear hS5
      go_wp2_with fail
      go_roundw
      case rel => exact ⟨ij, j, _, rfl, rfl, by have := Hji.out; omega, hjn, by have := Hji.out; omega, hj1, HS5.out, HI2.out, Hl2.out⟩
      case measure => have := Hji.out; simp [intOf]; omega
end Go.Proofs.Ytpbppgfogepjeaa
namespace Go.Proofs.Ytpbppgfogepjeaa
variable {α : Type} {cf : α → α → Int} {tag : α → Nat} {T : α → α → Prop}

def Shf (P X : List α) (x : α) (Q : List α) (t : Nat) : List α := P ++ (X.take t ++ x :: X.drop t) ++ Q

theorem shf_len (P X : List α) (x : α) (Q : List α) (t : Nat) : (Shf P X x Q t).length = P.length + X.length + 1 + Q.length := by
  simp only [Shf, List.length_append, List.length_cons, List.length_take, List.length_drop]
  omega

theorem shf_split {P X : List α} {x : α} {Q : List α} {t : Nat} (ht : t < X.length) :
    Shf P X x Q t = (P ++ X.take t) ++ x :: X[t] :: (X.drop (t + 1) ++ Q) ∧ Shf P X x Q (t + 1) = (P ++ X.take t) ++ X[t] :: x :: (X.drop (t + 1) ++ Q) := by
  constructor
  · have e : X.drop t = X[t] :: X.drop (t + 1) := List.drop_eq_getElem_cons ht
    unfold Shf
    rw [e]
    simp only [List.append_assoc, List.cons_append]
  · have e : X.take (t + 1) = X.take t ++ [X[t]] := List.take_succ_eq_append_getElem ht
    unfold Shf
    rw [e]
    simp only [List.append_assoc, List.cons_append, List.nil_append]

theorem two_at (A : List α) (x y : α) (B : List α) {k : Nat} (hk : A.length = k) : (A ++ x :: y :: B)[k]? = some x ∧ (A ++ x :: y :: B)[k + 1]? = some y ∧ ((A ++ x :: y :: B).set k y).set (k + 1) x = A ++ y :: x :: B ∧ ((A ++ x :: y :: B).set (k + 1) x).set k y = A ++ y :: x :: B := by
  subst hk
  refine ⟨by simp, ?_, ?_, ?_⟩
  · rw [List.getElem?_append_right (by omega)]
    simp
  · rw [set_mid A x y (y :: B) rfl, show A ++ y :: y :: B = (A ++ [y]) ++ y :: B by simp, set_mid (A ++ [y]) y x B (by simp)]
    simp
  · rw [show A ++ x :: y :: B = (A ++ [x]) ++ y :: B by simp, set_mid (A ++ [x]) y x B (by simp), show (A ++ [x]) ++ x :: B = A ++ x :: x :: B by simp, set_mid A x y (x :: B) rfl]

theorem shf_up {P X : List α} {x : α} {Q : List α} {t k : Nat} (ht : t < X.length) (hk : P.length + t = k) :
    (Shf P X x Q t)[k]? = some x ∧ (Shf P X x Q t)[k + 1]? = some X[t] ∧ ((Shf P X x Q t).set k X[t]).set (k + 1) x = Shf P X x Q (t + 1) := by
  obtain ⟨e1, e2⟩ := shf_split (P := P) (x := x) (Q := Q) ht
  have h := two_at (P ++ X.take t) x X[t] (X.drop (t + 1) ++ Q) (k := k) (by simp; omega)
  rw [e1, e2]
  exact ⟨h.1, h.2.1, h.2.2.1⟩

theorem shf_down {P X : List α} {x : α} {Q : List α} {t k : Nat} (ht : t < X.length) (hk : P.length + t = k) :
    (Shf P X x Q (t + 1))[k + 1]? = some x ∧ (Shf P X x Q (t + 1))[k]? = some X[t] ∧ ((Shf P X x Q (t + 1)).set (k + 1) X[t]).set k x = Shf P X x Q t := by
  obtain ⟨e1, e2⟩ := shf_split (P := P) (x := x) (Q := Q) ht
  have h := two_at (P ++ X.take t) X[t] x (X.drop (t + 1) ++ Q) (k := k) (by simp; omega)
  rw [e1, e2]
  exact ⟨h.2.1, h.1, h.2.2.2⟩

def Sch (yes : α → Prop) (X : List α) (p q : Nat) : Prop := p ≤ q ∧ q ≤ X.length ∧ (∀ y, (X.take p).getLast? = some y → yes y) ∧ (∀ y, (X.drop q).head? = some y → ¬ yes y)

theorem sch_start (yes : α → Prop) (X : List α) : Sch yes X 0 X.length := ⟨Nat.zero_le _, Nat.le_refl _, by simp, by simp⟩

theorem sch_yes {yes : α → Prop} {X : List α} {p q s : Nat} (h : Sch yes X p q) (hq : s < q) (hs : s < X.length) (hy : yes X[s]) : Sch yes X (s + 1) q := by
  refine ⟨hq, h.2.1, fun y hy' => ?_, h.2.2.2⟩
  rw [List.take_succ_eq_append_getElem hs, List.getLast?_concat] at hy'
  rw [← Option.some.inj hy']
  exact hy

theorem sch_no {yes : α → Prop} {X : List α} {p q s : Nat} (h : Sch yes X p q) (hp : p ≤ s) (hs : s < X.length) (hn : ¬ yes X[s]) : Sch yes X p s := by
  refine ⟨hp, by omega, h.2.2.1, fun y hy' => ?_⟩
  rw [List.drop_eq_getElem_cons hs, List.head?_cons] at hy'
  rw [← Option.some.inj hy']
  exact hn

def Sym (cf : α → α → Int) (d : List α) (a m b mid s r : Nat) : Prop :=
  (if mid < m then mid + m - b else a) ≤ s ∧ s ≤ r ∧ r ≤ (if mid < m then mid else m) ∧
  (s = (if mid < m then mid + m - b else a) ∨ ∀ x y, d[mid + m - s]? = some y → d[s - 1]? = some x → ¬ cf y x < 0) ∧
  (r = (if mid < m then mid else m) ∨ ∀ x y, d[mid + m - 1 - r]? = some y → d[r]? = some x → cf y x < 0)

theorem sym_no {d : List α} {a m b mid s r c pc : Nat} (h : Sym cf d a m b mid s r) (h1 : s ≤ c) (h2 : c < r) (hpc : mid + m - (c + 1) = pc) {x y : α} (hx : d[c]? = some x) (hy : d[pc]? = some y) (hn : ¬ cf y x < 0) : Sym cf d a m b mid (c + 1) r := by
  refine ⟨Nat.le_trans h.1 (by omega), by omega, h.2.2.1, .inr fun x' y' hy' hx' => ?_, h.2.2.2.2⟩
  rw [hpc, hy] at hy'
  rw [Nat.add_sub_cancel, hx] at hx'
  rw [← Option.some.inj hy', ← Option.some.inj hx']
  exact hn

theorem sym_yes {d : List α} {a m b mid s r c pc : Nat} (h : Sym cf d a m b mid s r) (h1 : s ≤ c) (h2 : c < r) (hpc : mid + m - 1 - c = pc) {x y : α} (hx : d[c]? = some x) (hy : d[pc]? = some y) (hn : cf y x < 0) : Sym cf d a m b mid s c := by
  refine ⟨h.1, h1, Nat.le_trans (Nat.le_of_lt h2) h.2.2.1, h.2.2.2.1, .inr fun x' y' hy' hx' => ?_⟩
  rw [hpc, hy] at hy'
  rw [hx] at hx'
  rw [← Option.some.inj hy', ← Option.some.inj hx']
  exact hn
end Go.Proofs.Ytpbppgfogepjeaa
