/- The contracts of the exchange of ranges at any elements. Condition: the row lies in a block of its own. || The contract of the rotation at any elements. Condition: the row lies in a block of its own. -/
import Derived.Test.YtojealgjfbjnoaaStUse3
namespace Go.Proofs.Ytojealgjfbjnoaa
open Go.ChangeShapes Go.WideShapes Go.ChangeAt Go.RowKit Go.Deep


set_option maxRecDepth 100000 in
set_option maxHeartbeats 2000000 in
theorem swapRange_Use (P X Y Z S : List TUse) (rest : List Value) (gb n cap a b m : Nat) (w : World) (hR : SRowK tUse 51 w w gb rest (P ++ X ++ Y ++ Z ++ S)) (hn : (P ++ X ++ Y ++ Z ++ S).length = n) (hcm : n < 4611686018427387904)
    (ha : P.length = a) (hb : P.length + X.length + Y.length = b) (hx : X.length = m) (hz : Z.length = m) :
    Calls Try.prog 72 #[.slice (some ⟨gb, 0, none⟩) n cap, .int .i64 a, .int .i64 b, .int .i64 m, .func (.func 28) #[] #[]] w fun e w' => e = .returned (.tuple #[]) ∧ SRowK tUse 51 w w' gb rest (P ++ Z ++ Y ++ X ++ S) := by
  have hbm : b + m ≤ n := by simp at hn; omega
  have ham : a + m ≤ n := by omega
  have hab : a + m ≤ b := by omega
  have HR := Lib.hid hR
  have HX := Lib.hid hx
  have HZ := Lib.hid hz
  have HN := Lib.hid hn
  have HA := Lib.hid ha
  have HB := Lib.hid hb
  clear hR hx hz hn ha hb
  go_enter Try.func72, Try.ntmps72
  go_wp2_with fail
  go_loopw [10] (fun vi wr => ∃ (i : Nat) (d : List TUse), vi = .int .i64 i ∧ i ≤ m ∧ Hid (SRowK tUse 51 w wr gb rest d) ∧ Hid (SwpInv P X Y Z S d i)) (fun vi _ => m - (intOf vi).toNat)
  case atStart => exact ⟨0, _, rfl, Nat.zero_le _, HR.out, swp_start P X Y Z S⟩
  case round =>
    obtain ⟨i, d, rfl, him, hS, hI⟩ := hrel
    by_cases hlt : i < m
    · have hix : i < X.length := by rw [HX.out]; exact hlt
      have hiz : i < Z.length := by rw [HZ.out]; exact hlt
      have hld := hI.out.len (by omega) (by omega)
      have hl2 : d.length = n := by have := HN.out; simp at this; omega
      obtain ⟨g1, g2⟩ := swp_at hI.out hix hiz
      have hst := swp_step hI.out hix hiz
      rw [HB.out] at g2 hst
      rw [HA.out] at g1 hst
      obtain ⟨ia, hia⟩ : ∃ k, a + i = k := ⟨_, rfl⟩
      obtain ⟨ib, hib⟩ : ∃ k, b + i = k := ⟨_, rfl⟩
      rw [hia] at g1 hst
      rw [hib] at g2 hst
      obtain ⟨x, hx⟩ : ∃ x, X[i] = x := ⟨_, rfl⟩
      obtain ⟨z, hz⟩ : ∃ z, Z[i] = z := ⟨_, rfl⟩
      rw [hx] at g1 hst
      rw [hz] at g2 hst
      have han : ia < n := by omega
      have hbn : ib < n := by omega
      have hne : ¬ ia = ib := by omega
      have hne2 : ¬ ib = ia := by omega
      have ce := hS.out.at_ lenUse (i := ia) (by omega)
      have pe := hS.out.at_ lenUse (i := ib) (by omega)
      rw [List.getElem?_eq_getElem (by omega)] at g1 g2
      rw [Option.some.inj g1] at ce
      rw [Option.some.inj g2] at pe
      have HSt := Lib.hid hst
      have Hl2 := Lib.hid hl2
      have w1 : wrap64 ((a : Int) + (i : Int)) = (ia : Int) := by rw [show (a : Int) + (i : Int) = (ia : Int) by omega]; exact IntWalk.wrap64_in _ (by omega)
      have w2 : wrap64 ((b : Int) + (i : Int)) = (ib : Int) := by rw [show (b : Int) + (i : Int) = (ib : Int) by omega]; exact IntWalk.wrap64_in _ (by omega)
      have w3 : (a : Int) + (i : Int) = (ia : Int) := by omega
      have w4 : (b : Int) + (i : Int) = (ib : Int) := by omega
      have mixed : Try.prog.follows .mixedOrders = true := by kernel_rfl
      have hS' := hS
      clear g1 g2 hst hld hl2 hx hz hix hiz hia hib
      obtain ⟨wp, rfl⟩ : ∃ wp : World, wp = wr := ⟨_, rfl⟩
      go_upto_region 3 with fail
      have hwria : IntKind.i64.wrap (ia : Int) = (ia : Int) := IntWalk.i64_in _ (by omega)
      have hwrib : IntKind.i64.wrap (ib : Int) = (ib : Int) := IntWalk.i64_in _ (by omega)
      refine region_val (fun w' => w' = World.drew _) [1012, 1018, 1020, 1022] 0 30 [21, 23] mixed (by kernel_rfl) (by kernel_rfl) (by kernel_rfl) rfl ?_
      repeat (first | (refine wpVal_skip rfl ?_) | (refine wpVal_take rfl ?_; first | (refine wpVal_loadK aggUse rfl _ rfl _ rfl _ (lenUse _) (by rintro _ rfl; exact ce) (fun K hK => ?_); go_simp; refine hK _ ?_; clear hK K) | (refine wpVal_loadK aggUse rfl _ rfl _ rfl _ (lenUse _) (by rintro _ rfl; exact pe) (fun K hK => ?_); go_simp; refine hK _ ?_; clear hK K) | (refine wpVal_oneK rfl (fun K hK => ?_); refine ⟨_, fun w => by go_simp; rfl, ?_⟩; go_simp; refine hK _ ?_; clear hK K)))
      refine wpVal_end ?_
      clear hwria hwrib
      refine wpLoud_store_el aggUse lenUse oneUse rfl rfl _ _ rfl rfl (hS'.out.drew) (by rw [Hl2.out]; exact han) z rfl rfl ?_
      intro wa hSa
      refine ⟨fun h => absurd h (Nat.not_lt_zero _), ?_⟩
      refine wpLoud_store_el aggUse lenUse oneUse rfl rfl _ _ rfl rfl hSa (by rw [List.length_set, Hl2.out]; exact hbn) x rfl rfl ?_
      intro wb hSb
      refine ⟨fun h => absurd h (Nat.not_lt_zero _), ?_⟩
      refine wpLoud_nil ?_
      have HSb := Lib.hid hSb
      clear hSa hSb
      go_wp2_with fail
      go_roundw
      case rel =>
        refine ⟨i + 1, (d.set ia z).set ib x, by go_num, by omega, ?_, HSt.out⟩
        exact HSb.out
      case measure => simp [intOf]; omega
    · obtain rfl : i = m := by omega
      have hS' := hS
      have HE := Lib.hid (swp_end hI.out HX.out HZ.out)
      go_wp2_with fail
      refine bodyPost_end (v := .tuple #[]) (by simp [results, Try.results72, go_sem]) rfl ?_
      exact ⟨rfl, by rw [← HE.out]; exact hS'.out⟩

end Go.Proofs.Ytojealgjfbjnoaa
namespace Go.Proofs.Ytojealgjfbjnoaa
open Go.ChangeShapes Go.WideShapes Go.ChangeAt Go.RowKit Go.Deep

set_option maxRecDepth 100000 in
set_option maxHeartbeats 600000 in
theorem rotate_Use (P U V S : List TUse) (rest : List Value) (gb n cap a m b : Nat) (w : World) (hR : SRowK tUse 51 w w gb rest (P ++ U ++ V ++ S)) (hn : (P ++ U ++ V ++ S).length = n) (hcm : n < 4611686018427387904)
    (ha : P.length = a) (hm : a + U.length = m) (hb : m + V.length = b) (hU : 0 < U.length) (hV : 0 < V.length) :
    Calls Try.prog 66 #[.slice (some ⟨gb, 0, none⟩) n cap, .int .i64 a, .int .i64 m, .int .i64 b, .func (.func 28) #[] #[]] w fun e w' => e = .returned (.tuple #[]) ∧ SRowK tUse 51 w w' gb rest (P ++ V ++ U ++ S) := by
  have hbn : b ≤ n := by simp at hn; omega
  have HR := Lib.hid hR
  have HN := Lib.hid hn
  obtain ⟨W, hW⟩ : ∃ W, W = P ++ V ++ U ++ S := ⟨_, rfl⟩
  have HWl : Hid (W.length = n) := by show _ = _; rw [hW]; simp at hn ⊢; omega
  have HI0 : Hid (RotInv m W (P ++ U ++ V ++ S) (m - a) (b - m)) := ⟨P, U, V, S, rfl, by omega, by omega, by omega, by omega, by omega, hW⟩
  rw [← hW]
  have e1 : wrap64 ((m : Int) - (a : Int)) = ((m - a : Nat) : Int) := by rw [show (m : Int) - (a : Int) = ((m - a : Nat) : Int) by omega]; exact IntWalk.wrap64_in _ (by omega)
  have e2 : wrap64 ((b : Int) - (m : Int)) = ((b - m : Nat) : Int) := by rw [show (b : Int) - (m : Int) = ((b - m : Nat) : Int) by omega]; exact IntWalk.wrap64_in _ (by omega)
  have e3 : (m : Int) - (a : Int) = ((m - a : Nat) : Int) := by omega
  have e4 : (b : Int) - (m : Int) = ((b - m : Nat) : Int) := by omega
  have hmn : m ≤ n := by omega
  obtain ⟨i0, hi0⟩ : ∃ k, m - a = k := ⟨_, rfl⟩
  obtain ⟨j0, hj0⟩ : ∃ k, b - m = k := ⟨_, rfl⟩
  rw [hi0] at HI0 e1 e3
  rw [hj0] at HI0 e2 e4
  have hij : i0 ≤ m ∧ m + j0 ≤ n := by omega
  clear hR hn hW ha hm hb hU hV hi0 hj0
  go_enter Try.func66, Try.ntmps66
  go_wp2_with fail
  go_loopw [10, 11] (fun vi vj wr => ∃ (i j : Nat) (d : List TUse), vi = .int .i64 i ∧ vj = .int .i64 j ∧ i ≤ m ∧ m + j ≤ n ∧ 0 < i ∧ 0 < j ∧ Hid (SRowK tUse 51 w wr gb rest d) ∧ Hid (RotInv m W d i j) ∧ Hid (d.length = n)) (fun vi vj _ => (intOf vi).toNat + (intOf vj).toNat)
  case atStart =>
    obtain ⟨_, _, _, _, _, _, _, _, h1, h2, _⟩ := HI0.out
    exact ⟨i0, j0, _, rfl, rfl, hij.1, hij.2, h1, h2, HR.out, HI0.out, HN.out⟩
  case round =>
    obtain ⟨i, j, d, rfl, rfl, him, hjn, hi1, hj1, hS, hI, hl⟩ := hrel
    obtain ⟨wp, rfl⟩ : ∃ wp : World, wp = wr := ⟨_, rfl⟩
    obtain ⟨mi, hmi⟩ : ∃ k, m - i = k := ⟨_, rfl⟩
    have w1 : wrap64 ((m : Int) - (i : Int)) = (mi : Int) := by rw [show (m : Int) - (i : Int) = (mi : Int) by omega]; exact IntWalk.wrap64_in _ (by omega)
    have w2 : (m : Int) - (i : Int) = (mi : Int) := by omega
    rcases Nat.lt_trichotomy i j with hij | hij | hij
    · obtain ⟨P', X, Y, Z, S', hd, hX, hZ, hP, hXY, hI2⟩ := rot_up hI.out hij
      subst hd
      have HC := Lib.hid (swapRange_Use P' X Y Z S' rest gb n cap mi (m + j - i) i wp hS.out.self hl.out hcm (by omega) (by omega) hX hZ)
      obtain ⟨mj, hmj⟩ : ∃ k, m + j - i = k := ⟨_, rfl⟩
      obtain ⟨ji, hji⟩ : ∃ k, j - i = k := ⟨_, rfl⟩
      rw [hmj] at HC
      rw [hji] at hI2
      have w3 : (m : Int) + (j : Int) - (i : Int) = (mj : Int) := by omega
      have w5 : (j : Int) - (i : Int) = (ji : Int) := by omega
      have w6 : wrap64 ((j : Int) - (i : Int)) = (ji : Int) := by rw [w5]; exact IntWalk.wrap64_in _ (by omega)
      have hne : ((i : Int) == (j : Int)) = false := by rw [beq_eq_false_iff_ne]; omega
      have hne2 : (i != j) = true := by simp [bne]; omega
      have hnl : ¬ j < i := by omega
      have HI2 := Lib.hid hI2
      have Hl2 : Hid ((P' ++ Z ++ Y ++ X ++ S').length = n) := by have := hl.out; show _ = _; simp at this ⊢; omega
      have hS' := hS
      have Hji : Hid (ji = j - i) := hji.symm
      clear hI2 hX hZ hP hXY hmi hmj hji hl
      go_wp2_with fail
      refine HC.out.mono ?_
      rintro e w5 ⟨rfl, hS5⟩
      have HS5 := Lib.hid (hS'.out.trans hS5)
      clear hS5
      go_wp2_with fail
      go_roundw
      case rel => exact ⟨i, ji, _, rfl, rfl, him, by have := Hji.out; omega, hi1, by have := Hji.out; omega, HS5.out, HI2.out, Hl2.out⟩
      case measure => have := Hji.out; simp [intOf]; omega
    · subst hij
      obtain ⟨P', X, Z, S', hd, hX, hZ, hP, hXY, hWe⟩ := rot_last hI.out
      subst hd
      have HC := Lib.hid (swapRange_Use P' X [] Z S' rest gb n cap mi m i wp hS.out.self hl.out hcm (by omega) hXY hX hZ)
      rw [← hWe] at HC
      have hS' := hS
      clear hX hZ hP hXY hWe hmi hl
      go_wp2_with fail
      refine HC.out.mono ?_
      rintro e w5 ⟨rfl, hS5⟩
      have HS5 := Lib.hid (hS'.out.trans hS5)
      clear hS5
      go_wp2_with fail
      refine bodyPost_end (v := .tuple #[]) (by simp [results, Try.results66, go_sem]) rfl ?_
      exact ⟨rfl, HS5.out⟩
    · obtain ⟨P', X, Y, Z, S', hd, hX, hZ, hP, hXY, hI2⟩ := rot_down hI.out hij
      subst hd
      have HC := Lib.hid (swapRange_Use P' X Y Z S' rest gb n cap mi m j wp hS.out.self hl.out hcm (by omega) hXY hX hZ)
      obtain ⟨ij, hij2⟩ : ∃ k, i - j = k := ⟨_, rfl⟩
      rw [hij2] at hI2
      have w5 : (i : Int) - (j : Int) = (ij : Int) := by omega
      have w6 : wrap64 ((i : Int) - (j : Int)) = (ij : Int) := by rw [w5]; exact IntWalk.wrap64_in _ (by omega)
      have hne : ((i : Int) == (j : Int)) = false := by rw [beq_eq_false_iff_ne]; omega
      have hne2 : (i != j) = true := by simp [bne]; omega
      have HI2 := Lib.hid hI2
      have Hl2 : Hid ((P' ++ Z ++ Y ++ X ++ S').length = n) := by have := hl.out; show _ = _; simp at this ⊢; omega
      have hS' := hS
      have Hji : Hid (ij = i - j) := hij2.symm
      clear hI2 hX hZ hP hXY hmi hij2 hl
      go_wp2_with fail
      refine HC.out.mono ?_
      rintro e w5 ⟨rfl, hS5⟩
      have HS5 := Lib.hid (hS'.out.trans hS5)
      clear hS5
      go_wp2_with fail
      go_roundw
      case rel => exact ⟨ij, j, _, rfl, rfl, by have := Hji.out; omega, hjn, by have := Hji.out; omega, hj1, HS5.out, HI2.out, Hl2.out⟩
      case measure => have := Hji.out; simp [intOf]; omega
end Go.Proofs.Ytojealgjfbjnoaa
