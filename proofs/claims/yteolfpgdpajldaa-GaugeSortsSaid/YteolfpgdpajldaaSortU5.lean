/- The contract of the rotation at samples. Condition: the row lies in a block of its own. -/
import Derived.Test.YteolfpgdpajldaaSortU4
namespace Go.Proofs.Yteolfpgdpajldaa
open Go.ChangeShapes Go.WideShapes Go.ChangeAt Go.RowKit Go.Deep

set_option maxRecDepth 100000 in
set_option maxHeartbeats 600000 in
theorem rotate_U (P U V S : List TU) (rest : List Value) (gb n cap a m b : Nat) (w : World) (hR : SRowU w w gb rest (P ++ U ++ V ++ S)) (hn : (P ++ U ++ V ++ S).length = n) (hcm : n < 4611686018427387904)
    (ha : P.length = a) (hm : a + U.length = m) (hb : m + V.length = b) (hU : 0 < U.length) (hV : 0 < V.length) :
    Calls Try.prog 44 #[.slice (some ⟨gb, 0, none⟩) n cap, .int .i64 a, .int .i64 m, .int .i64 b, .func (.func 12) #[] #[]] w fun e w' => e = .returned (.tuple #[]) ∧ SRowU w w' gb rest (P ++ V ++ U ++ S) := by
  have hbn : b ≤ n := by simp at hn; omega
  have HR := Lib.hid hR
  have HN := Lib.hid hn
  obtain ⟨W, hW⟩ : ∃ W, W = P ++ V ++ U ++ S := ⟨_, rfl⟩
  have HWl : Hid (W.length = n) := by show _ = _; rw [hW]; simp at hn ⊢; omega
  have HI0 : Hid (RotInv m W (P ++ U ++ V ++ S) (m - a) (b - m)) := ⟨P, U, V, S, rfl, by omega, by omega, by omega, by omega, by omega, hW⟩
  rw [← hW]
  have e1 : wrap64 ((m : Int) - (a : Int)) = ((m - a : Nat) : Int) := by rw [show (m : Int) - (a : Int) = ((m - a : Nat) : Int) by omega]; exact IntWalk.wrap64_in _ (by omega)
  have e2 : wrap64 ((b : Int) - (m : Int)) = ((b - m : Nat) : Int) := by rw [show (b : Int) - (m : Int) = ((b - m : Nat) : Int) by omega]; exact IntWalk.wrap64_in _ (by omega)
  have e3 : (m : Int) - (a : Int) = ((m - a : Nat) : Int) := by omega
  have e4 : (b : Int) - (m : Int) = ((b - m : Nat) : Int) := by omega
  have hmn : m ≤ n := by omega
  obtain ⟨i0, hi0⟩ : ∃ k, m - a = k := ⟨_, rfl⟩
  obtain ⟨j0, hj0⟩ : ∃ k, b - m = k := ⟨_, rfl⟩
  rw [hi0] at HI0 e1 e3
  rw [hj0] at HI0 e2 e4
  have hij : i0 ≤ m ∧ m + j0 ≤ n := by omega
  clear hR hn hW ha hm hb hU hV hi0 hj0
  go_enter Try.func44, Try.ntmps44
  go_wp2_with fail
  go_loopw [10, 11] (fun vi vj wr => ∃ (i j : Nat) (d : List TU), vi = .int .i64 i ∧ vj = .int .i64 j ∧ i ≤ m ∧ m + j ≤ n ∧ 0 < i ∧ 0 < j ∧ Hid (SRowU w wr gb rest d) ∧ Hid (RotInv m W d i j) ∧ Hid (d.length = n)) (fun vi vj _ => (intOf vi).toNat + (intOf vj).toNat)
  case atStart =>
    obtain ⟨_, _, _, _, _, _, _, _, h1, h2, _⟩ := HI0.out
    exact ⟨i0, j0, _, rfl, rfl, hij.1, hij.2, h1, h2, HR.out, HI0.out, HN.out⟩
  case round =>
    obtain ⟨i, j, d, rfl, rfl, him, hjn, hi1, hj1, hS, hI, hl⟩ := hrel
    obtain ⟨wp, rfl⟩ : ∃ wp : World, wp = wr := ⟨_, rfl⟩
    obtain ⟨mi, hmi⟩ : ∃ k, m - i = k := ⟨_, rfl⟩
    have w1 : wrap64 ((m : Int) - (i : Int)) = (mi : Int) := by rw [show (m : Int) - (i : Int) = (mi : Int) by omega]; exact IntWalk.wrap64_in _ (by omega)
    have w2 : (m : Int) - (i : Int) = (mi : Int) := by omega
    rcases Nat.lt_trichotomy i j with hij | hij | hij
    · obtain ⟨P', X, Y, Z, S', hd, hX, hZ, hP, hXY, hI2⟩ := rot_up hI.out hij
      subst hd
      have HC := Lib.hid (swapRange_U P' X Y Z S' rest gb n cap mi (m + j - i) i wp hS.out.self hl.out hcm (by omega) (by omega) hX hZ)
      obtain ⟨mj, hmj⟩ : ∃ k, m + j - i = k := ⟨_, rfl⟩
      obtain ⟨ji, hji⟩ : ∃ k, j - i = k := ⟨_, rfl⟩
      rw [hmj] at HC
      rw [hji] at hI2
      have w3 : (m : Int) + (j : Int) - (i : Int) = (mj : Int) := by omega
      have w5 : (j : Int) - (i : Int) = (ji : Int) := by omega
      have w6 : wrap64 ((j : Int) - (i : Int)) = (ji : Int) := by rw [w5]; exact IntWalk.wrap64_in _ (by omega)
      have hne : ((i : Int) == (j : Int)) = false := by rw [beq_eq_false_iff_ne]; omega
      have hne2 : (i != j) = true := by simp [bne]; omega
      have hnl : ¬ j < i := by omega
      have HI2 := Lib.hid hI2
      have Hl2 : Hid ((P' ++ Z ++ Y ++ X ++ S').length = n) := by have := hl.out; show _ = _; simp at this ⊢; omega
      have hS' := hS
      have Hji : Hid (ji = j - i) := hji.symm
      clear hI2 hX hZ hP hXY hmi hmj hji hl
      go_wp2_with fail
      refine HC.out.mono ?_
      rintro e w5 ⟨rfl, hS5⟩
      have HS5 := Lib.hid (hS'.out.trans hS5)
      clear hS5
      go_wp2_with fail
      go_roundw
      case rel => exact ⟨i, ji, _, rfl, rfl, him, by have := Hji.out; omega, hi1, by have := Hji.out; omega, HS5.out, HI2.out, Hl2.out⟩
      case measure => have := Hji.out; simp [intOf]; omega
    · subst hij
      obtain ⟨P', X, Z, S', hd, hX, hZ, hP, hXY, hWe⟩ := rot_last hI.out
      subst hd
      have HC := Lib.hid (swapRange_U P' X [] Z S' rest gb n cap mi m i wp hS.out.self hl.out hcm (by omega) hXY hX hZ)
      rw [← hWe] at HC
      have hS' := hS
      clear hX hZ hP hXY hWe hmi hl
      go_wp2_with fail
      refine HC.out.mono ?_
      rintro e w5 ⟨rfl, hS5⟩
      have HS5 := Lib.hid (hS'.out.trans hS5)
      clear hS5
      go_wp2_with fail
      refine bodyPost_end (v := .tuple #[]) (by simp [results, Try.results44, go_sem]) rfl ?_
      exact ⟨rfl, HS5.out⟩
    · obtain ⟨P', X, Y, Z, S', hd, hX, hZ, hP, hXY, hI2⟩ := rot_down hI.out hij
      subst hd
      have HC := Lib.hid (swapRange_U P' X Y Z S' rest gb n cap mi m j wp hS.out.self hl.out hcm (by omega) hXY hX hZ)
      obtain ⟨ij, hij2⟩ : ∃ k, i - j = k := ⟨_, rfl⟩
      rw [hij2] at hI2
      have w5 : (i : Int) - (j : Int) = (ij : Int) := by omega
      have w6 : wrap64 ((i : Int) - (j : Int)) = (ij : Int) := by rw [w5]; exact IntWalk.wrap64_in _ (by omega)
      have hne : ((i : Int) == (j : Int)) = false := by rw [beq_eq_false_iff_ne]; omega
      have hne2 : (i != j) = true := by simp [bne]; omega
      have HI2 := Lib.hid hI2
      have Hl2 : Hid ((P' ++ Z ++ Y ++ X ++ S').length = n) := by have := hl.out; show _ = _; simp at this ⊢; omega
      have hS' := hS
      have Hji : Hid (ij = i - j) := hij2.symm
      clear hI2 hX hZ hP hXY hmi hij2 hl
      go_wp2_with fail
      refine HC.out.mono ?_
      rintro e w5 ⟨rfl, hS5⟩
      have HS5 := Lib.hid (hS'.out.trans hS5)
      clear hS5
      go_wp2_with fail
      go_roundw
      case rel => exact ⟨ij, j, _, rfl, rfl, by have := Hji.out; omega, hjn, by have := Hji.out; omega, hj1, HS5.out, HI2.out, Hl2.out⟩
      case measure => have := Hji.out; simp [intOf]; omega
end Go.Proofs.Yteolfpgdpajldaa
