/- The contracts of the exchange of ranges at samples. Condition: the row lies in a block of its own. -/
import Derived.Test.YteolfpgdpajldaaSortU3
namespace Go.Proofs.Yteolfpgdpajldaa
open Go.ChangeShapes Go.WideShapes Go.ChangeAt Go.RowKit Go.Deep

theorem SRowU.trans {w0 w1 w2 : World} {gb : Nat} {rest : List Value} {d d' : List TU} (h : SRowU w0 w1 gb rest d) (k : SRowU w1 w2 gb rest d') : SRowU w0 w2 gb rest d' := ⟨k.row, h.fr.trans k.fr (fun _ hi => .inl hi)⟩
theorem SRowU.self {w0 w1 : World} {gb : Nat} {rest : List Value} {d : List TU} (h : SRowU w0 w1 gb rest d) : SRowU w1 w1 gb rest d := ⟨h.row, Fr.refl _ _⟩

set_option maxRecDepth 100000 in
set_option maxHeartbeats 2000000 in
theorem swapRange_U (P X Y Z S : List TU) (rest : List Value) (gb n cap a b m : Nat) (w : World) (hR : SRowU w w gb rest (P ++ X ++ Y ++ Z ++ S)) (hn : (P ++ X ++ Y ++ Z ++ S).length = n) (hcm : n < 4611686018427387904)
    (ha : P.length = a) (hb : P.length + X.length + Y.length = b) (hx : X.length = m) (hz : Z.length = m) :
    Calls Try.prog 45 #[.slice (some ⟨gb, 0, none⟩) n cap, .int .i64 a, .int .i64 b, .int .i64 m, .func (.func 12) #[] #[]] w fun e w' => e = .returned (.tuple #[]) ∧ SRowU w w' gb rest (P ++ Z ++ Y ++ X ++ S) := by
  have hbm : b + m ≤ n := by simp at hn; omega
  have ham : a + m ≤ n := by omega
  have hab : a + m ≤ b := by omega
  have HR := Lib.hid hR
  have HX := Lib.hid hx
  have HZ := Lib.hid hz
  have HN := Lib.hid hn
  have HA := Lib.hid ha
  have HB := Lib.hid hb
  clear hR hx hz hn ha hb
  go_enter Try.func45, Try.ntmps45
  go_wp2_with fail
  go_loopw [10] (fun vi wr => ∃ (i : Nat) (d : List TU), vi = .int .i64 i ∧ i ≤ m ∧ Hid (SRowU w wr gb rest d) ∧ Hid (SwpInv P X Y Z S d i)) (fun vi _ => m - (intOf vi).toNat)
  case atStart => exact ⟨0, _, rfl, Nat.zero_le _, HR.out, swp_start P X Y Z S⟩
  case round =>
    obtain ⟨i, d, rfl, him, hS, hI⟩ := hrel
    by_cases hlt : i < m
    · have hix : i < X.length := by rw [HX.out]; exact hlt
      have hiz : i < Z.length := by rw [HZ.out]; exact hlt
      have hld := hI.out.len (by omega) (by omega)
      have hl2 : d.length = n := by have := HN.out; simp at this; omega
      obtain ⟨g1, g2⟩ := swp_at hI.out hix hiz
      have hst := swp_step hI.out hix hiz
      rw [HB.out] at g2 hst
      rw [HA.out] at g1 hst
      obtain ⟨ia, hia⟩ : ∃ k, a + i = k := ⟨_, rfl⟩
      obtain ⟨ib, hib⟩ : ∃ k, b + i = k := ⟨_, rfl⟩
      rw [hia] at g1 hst
      rw [hib] at g2 hst
      obtain ⟨x, hx⟩ : ∃ x, X[i] = x := ⟨_, rfl⟩
      obtain ⟨z, hz⟩ : ∃ z, Z[i] = z := ⟨_, rfl⟩
      rw [hx] at g1 hst
      rw [hz] at g2 hst
      have han : ia < n := by omega
      have hbn : ib < n := by omega
      have hne : ¬ ia = ib := by omega
      have hne2 : ¬ ib = ia := by omega
      have c0 := hS.out.two (i := ia) (by omega)
      have p0 := hS.out.two (i := ib) (by omega)
      rw [List.getElem?_eq_getElem (by omega)] at g1 g2
      rw [Option.some.inj g1] at c0
      rw [Option.some.inj g2] at p0
      have zf := hS.out.free
      have HSt := Lib.hid hst
      have Hl2 := Lib.hid hl2
      have w1 : wrap64 ((a : Int) + (i : Int)) = (ia : Int) := by rw [show (a : Int) + (i : Int) = (ia : Int) by omega]; exact IntWalk.wrap64_in _ (by omega)
      have w2 : wrap64 ((b : Int) + (i : Int)) = (ib : Int) := by rw [show (b : Int) + (i : Int) = (ib : Int) by omega]; exact IntWalk.wrap64_in _ (by omega)
      have w3 : (a : Int) + (i : Int) = (ia : Int) := by omega
      have w4 : (b : Int) + (i : Int) = (ib : Int) := by omega
      have mixed : Try.prog.follows .mixedOrders = true := by kernel_rfl
      have hS' := hS
      clear g1 g2 hst hld hl2 hx hz hix hiz hia hib
      obtain ⟨wp, rfl⟩ : ∃ wp : World, wp = wr := ⟨_, rfl⟩
      go_upto_region 3 with fail
      go_big_region_o
      go_wp2_with fail
      go_roundw
      case rel =>
        refine ⟨i + 1, (d.set ia z).set ib x, by go_num, by omega, ?_, HSt.out⟩
        exact ((hS'.out.put (by rw [Hl2.out]; exact han) z).put (by rw [List.length_set, Hl2.out]; exact hbn) x).drew
      case measure => simp [intOf]; omega
    · obtain rfl : i = m := by omega
      have hS' := hS
      have HE := Lib.hid (swp_end hI.out HX.out HZ.out)
      go_wp2_with fail
      refine bodyPost_end (v := .tuple #[]) (by simp [results, Try.results45, go_sem]) rfl ?_
      exact ⟨rfl, by rw [← HE.out]; exact hS'.out⟩

end Go.Proofs.Yteolfpgdpajldaa
