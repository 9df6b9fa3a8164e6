/- Are rows of labels and asks the same? Contracts of slices.Equal and of the reference's Same. Condition: they read. -/
import Derived.Test.YtpbppgfogepjeaaRolEq0M
import Derived.Test.YtpbppgfogepjeaaFrame
namespace Go.Proofs.Ytpbppgfogepjeaa
open Go.ChangeShapes Go.WideShapes Go.ChangeAt Go.RowKit Go.Deep

set_option maxRecDepth 100000 in
set_option maxHeartbeats 1000000 in
theorem same05_any (xs ys : List Label) (ao bo : Option Addr) (n m ca cb : Nat) (w : World) (hA : SlR (Flat Label.cells) 2 w ao n ca xs) (hB : SlR (Flat Label.cells) 2 w bo m cb ys) :
    Calls Try.prog 54 #[.slice ao n ca, .slice bo m cb] w fun e w' => e = .returned (.bool (rowEq labEq xs ys)) ∧ Below w.heap.size w w' := by
  have ha := hA.hmax; have hac := hA.hcap
  have hb := hB.hmax; have hbc := hB.hcap
  have hla := hA.hlen; have hlb := hB.hlen
  unfold maxLen at ha hb
  by_cases hnm : n = m
  · subst hnm
    obtain ⟨r, hr⟩ : ∃ r, rowEq labEq xs ys = r := ⟨_, rfl⟩
    rw [hr]
    have Hr := Lib.hid hr
    have HA := Lib.hid hA
    have HB := Lib.hid hB
    have Hla := Lib.hid hla
    have Hlb := Lib.hid hlb
    clear hr hA hB hla hlb
    go_enter Try.func54, Try.ntmps54
    go_wp2_with fail
    go_loopw [5, 13] (fun _ i wr => ∃ k : Nat, k ≤ n ∧ i = .int .i64 k ∧ Hid (rowEq labEq (xs.drop k) (ys.drop k) = r) ∧ Hid (Below w.heap.size w wr)) (fun _ i _ => n - (intOf i).toNat)
    case atStart => exact ⟨0, Nat.zero_le _, rfl, Hr.out, Below.refl _ _⟩
    case round =>
      obtain ⟨k, hk, rfl, hre, hb⟩ := hrel
      by_cases hlt : k < n
      · obtain ⟨b, off, rfl⟩ := HA.out.ptr (by decide) (by omega)
        obtain ⟨b', off', rfl⟩ := HB.out.ptr (by decide) (by omega)
        have kx : k < xs.length := by have := Hla.out; omega
        have ky : k < ys.length := by have := Hlb.out; omega
        have hc := (HA.out.flatKeeps (Keeps.below hb.out)).flat kx
        have hd := (HB.out.flatKeeps (Keeps.below hb.out)).flat ky
        have hst := rowEq_drop labEq xs ys k kx ky
        have c0 := hc 0 _ rfl
        have d0 := hd 0 _ rfl
        have c1 := hc 1 _ rfl
        have d1 := hd 1 _ rfl
        rw [Nat.add_zero] at c0 d0
        obtain ⟨x, hx⟩ : ∃ x, xs[k] = x := ⟨_, rfl⟩
        obtain ⟨y, hy⟩ : ∃ x, ys[k] = x := ⟨_, rfl⟩
        rw [hx] at c0 c1 hst
        rw [hy] at d0 d1 hst
        have Hst := Lib.hid hst
        have Hb := Lib.hid hb.out
        have Hre := Lib.hid hre.out
        clear hc hd hb hx hy kx ky hst hre
        obtain ⟨wp, rfl⟩ : ∃ wp : World, wp = wr := ⟨_, rfl⟩
        obtain ⟨q, hq⟩ : ∃ q, labEq x y = q := ⟨_, rfl⟩
        have hN : ∀ w, _ := fun w => neqLab x y w
        obtain ⟨x1, x2⟩ := x
        obtain ⟨y1, y2⟩ := y
        dsimp only at c0 c1 d0 d1 hN
        rw [hq] at Hst
        unfold labEq at hq
        dsimp only at hq
        rw [hq] at hN
        have HN := Lib.hid hN
        clear hq hN
        go_upto_region 6 with fail
        refine wp_region_quiet_lit (by kernel_rfl) (by kernel_rfl) ?_
        repeat (quiet_step (fail))
        refine wpQuiet_bin rfl _ _ rfl _ _ _ rfl rfl (fun w => run_eqGuard_agg _ _ _ _ _ _ _ guardLab) HN.out ?_
        refine wpQuiet_nil ?_
        intro _ hw'
        obtain ⟨nq, hw''⟩ := hw'
        subst hw''
        cases q
        · have He : Hid (r = false) := by show r = false; rw [← Hre.out, Hst.out]; rfl
          go_wp2_with fail
          go_ret
          obtain rfl : r = false := He.out
          exact ⟨rfl, drewN_below Hb.out _⟩
        · have He : Hid (rowEq labEq (xs.drop (k + 1)) (ys.drop (k + 1)) = r) := by show _ = r; rw [← Hre.out, Hst.out]; rfl
          go_wp2_with fail
          go_roundw
          case rel => exact ⟨k + 1, by omega, by go_num, He.out, drewN_below Hb.out _⟩
          case measure => simp [intOf]; omega
      · have hb2 := hb
        have He := Lib.hid (hre.out.symm.trans (rowEq_end labEq (by have := Hla.out; omega) (by have := Hlb.out; omega)))
        clear hb hre
        go_wp2_with fail
        go_ret
        obtain rfl : r = true := He.out
        exact ⟨rfl, hb2.out⟩
  · have hne : ((n : Int) != (m : Int)) = true := by simp; omega
    rw [rowEq_len labEq xs ys (by omega)]
    clear hA hB hla hlb hnm
    go_enter Try.func54, Try.ntmps54
    go_wp2_with fail
    go_ret
    exact ⟨rfl, Below.refl _ _⟩

set_option maxRecDepth 100000 in
set_option maxHeartbeats 1000000 in
theorem equalL_any (xs ys : List Label) (ao bo : Option Addr) (n m ca cb : Nat) (w : World) (hA : SlR (Flat Label.cells) 2 w ao n ca xs) (hB : SlR (Flat Label.cells) 2 w bo m cb ys) :
    Calls Try.prog 52 #[.slice ao n ca, .slice bo m cb] w fun e w' => e = .returned (.bool (rowEq labEq xs ys)) ∧ Below w.heap.size w w' := by
  have ha := hA.hmax; have hac := hA.hcap
  have hb := hB.hmax; have hbc := hB.hcap
  have hla := hA.hlen; have hlb := hB.hlen
  unfold maxLen at ha hb
  by_cases hnm : n = m
  · subst hnm
    obtain ⟨r, hr⟩ : ∃ r, rowEq labEq xs ys = r := ⟨_, rfl⟩
    rw [hr]
    have Hr := Lib.hid hr
    have HA := Lib.hid hA
    have HB := Lib.hid hB
    have Hla := Lib.hid hla
    have Hlb := Lib.hid hlb
    clear hr hA hB hla hlb
    go_enter Try.func52, Try.ntmps52
    go_wp2_with fail
    go_loopw [5, 13] (fun _ i wr => ∃ k : Nat, k ≤ n ∧ i = .int .i64 k ∧ Hid (rowEq labEq (xs.drop k) (ys.drop k) = r) ∧ Hid (Below w.heap.size w wr)) (fun _ i _ => n - (intOf i).toNat)
    case atStart => exact ⟨0, Nat.zero_le _, rfl, Hr.out, Below.refl _ _⟩
    case round =>
      obtain ⟨k, hk, rfl, hre, hb⟩ := hrel
      by_cases hlt : k < n
      · obtain ⟨b, off, rfl⟩ := HA.out.ptr (by decide) (by omega)
        obtain ⟨b', off', rfl⟩ := HB.out.ptr (by decide) (by omega)
        have kx : k < xs.length := by have := Hla.out; omega
        have ky : k < ys.length := by have := Hlb.out; omega
        have hc := (HA.out.flatKeeps (Keeps.below hb.out)).flat kx
        have hd := (HB.out.flatKeeps (Keeps.below hb.out)).flat ky
        have hst := rowEq_drop labEq xs ys k kx ky
        have c0 := hc 0 _ rfl
        have d0 := hd 0 _ rfl
        have c1 := hc 1 _ rfl
        have d1 := hd 1 _ rfl
        rw [Nat.add_zero] at c0 d0
        obtain ⟨x, hx⟩ : ∃ x, xs[k] = x := ⟨_, rfl⟩
        obtain ⟨y, hy⟩ : ∃ x, ys[k] = x := ⟨_, rfl⟩
        rw [hx] at c0 c1 hst
        rw [hy] at d0 d1 hst
        have Hst := Lib.hid hst
        have Hb := Lib.hid hb.out
        have Hre := Lib.hid hre.out
        clear hc hd hb hx hy kx ky hst hre
        obtain ⟨wp, rfl⟩ : ∃ wp : World, wp = wr := ⟨_, rfl⟩
        obtain ⟨q, hq⟩ : ∃ q, labEq x y = q := ⟨_, rfl⟩
        have hN : ∀ w, _ := fun w => neqLab x y w
        obtain ⟨x1, x2⟩ := x
        obtain ⟨y1, y2⟩ := y
        dsimp only at c0 c1 d0 d1 hN
        rw [hq] at Hst
        unfold labEq at hq
        dsimp only at hq
        rw [hq] at hN
        have HN := Lib.hid hN
        clear hq hN
        go_upto_region 6 with fail
        refine wp_region_quiet_lit (by kernel_rfl) (by kernel_rfl) ?_
        repeat (quiet_step (fail))
        refine wpQuiet_bin rfl _ _ rfl _ _ _ rfl rfl (fun w => run_eqGuard_agg _ _ _ _ _ _ _ guardLab) HN.out ?_
        refine wpQuiet_nil ?_
        intro _ hw'
        obtain ⟨nq, hw''⟩ := hw'
        subst hw''
        cases q
        · have He : Hid (r = false) := by show r = false; rw [← Hre.out, Hst.out]; rfl
          go_wp2_with fail
          go_ret
          obtain rfl : r = false := He.out
          exact ⟨rfl, drewN_below Hb.out _⟩
        · have He : Hid (rowEq labEq (xs.drop (k + 1)) (ys.drop (k + 1)) = r) := by show _ = r; rw [← Hre.out, Hst.out]; rfl
          go_wp2_with fail
          go_roundw
          case rel => exact ⟨k + 1, by omega, by go_num, He.out, drewN_below Hb.out _⟩
          case measure => simp [intOf]; omega
      · have hb2 := hb
        have He := Lib.hid (hre.out.symm.trans (rowEq_end labEq (by have := Hla.out; omega) (by have := Hlb.out; omega)))
        clear hb hre
        go_wp2_with fail
        go_ret
        obtain rfl : r = true := He.out
        exact ⟨rfl, hb2.out⟩
  · have hne : ((n : Int) != (m : Int)) = true := by simp; omega
    rw [rowEq_len labEq xs ys (by omega)]
    clear hA hB hla hlb hnm
    go_enter Try.func52, Try.ntmps52
    go_wp2_with fail
    go_ret
    exact ⟨rfl, Below.refl _ _⟩

set_option maxRecDepth 100000 in
set_option maxHeartbeats 1000000 in
theorem equalR_any (xs ys : List Require) (ao bo : Option Addr) (n m ca cb : Nat) (w : World) (hA : SlR (Flat Require.cells) 3 w ao n ca xs) (hB : SlR (Flat Require.cells) 3 w bo m cb ys) :
    Calls Try.prog 53 #[.slice ao n ca, .slice bo m cb] w fun e w' => e = .returned (.bool (rowEq askEq xs ys)) ∧ Below w.heap.size w w' := by
  have ha := hA.hmax; have hac := hA.hcap
  have hb := hB.hmax; have hbc := hB.hcap
  have hla := hA.hlen; have hlb := hB.hlen
  unfold maxLen at ha hb
  by_cases hnm : n = m
  · subst hnm
    obtain ⟨r, hr⟩ : ∃ r, rowEq askEq xs ys = r := ⟨_, rfl⟩
    rw [hr]
    have Hr := Lib.hid hr
    have HA := Lib.hid hA
    have HB := Lib.hid hB
    have Hla := Lib.hid hla
    have Hlb := Lib.hid hlb
    clear hr hA hB hla hlb
    go_enter Try.func53, Try.ntmps53
    go_wp2_with fail
    go_loopw [5, 13] (fun _ i wr => ∃ k : Nat, k ≤ n ∧ i = .int .i64 k ∧ Hid (rowEq askEq (xs.drop k) (ys.drop k) = r) ∧ Hid (Below w.heap.size w wr)) (fun _ i _ => n - (intOf i).toNat)
    case atStart => exact ⟨0, Nat.zero_le _, rfl, Hr.out, Below.refl _ _⟩
    case round =>
      obtain ⟨k, hk, rfl, hre, hb⟩ := hrel
      by_cases hlt : k < n
      · obtain ⟨b, off, rfl⟩ := HA.out.ptr (by decide) (by omega)
        obtain ⟨b', off', rfl⟩ := HB.out.ptr (by decide) (by omega)
        have kx : k < xs.length := by have := Hla.out; omega
        have ky : k < ys.length := by have := Hlb.out; omega
        have hc := (HA.out.flatKeeps (Keeps.below hb.out)).flat kx
        have hd := (HB.out.flatKeeps (Keeps.below hb.out)).flat ky
        have hst := rowEq_drop askEq xs ys k kx ky
        have c0 := hc 0 _ rfl
        have d0 := hd 0 _ rfl
        have c1 := hc 1 _ rfl
        have d1 := hd 1 _ rfl
        have c2 := hc 2 _ rfl
        have d2 := hd 2 _ rfl
        rw [Nat.add_zero] at c0 d0
        obtain ⟨x, hx⟩ : ∃ x, xs[k] = x := ⟨_, rfl⟩
        obtain ⟨y, hy⟩ : ∃ x, ys[k] = x := ⟨_, rfl⟩
        rw [hx] at c0 c1 c2 hst
        rw [hy] at d0 d1 d2 hst
        have Hst := Lib.hid hst
        have Hb := Lib.hid hb.out
        have Hre := Lib.hid hre.out
        clear hc hd hb hx hy kx ky hst hre
        obtain ⟨wp, rfl⟩ : ∃ wp : World, wp = wr := ⟨_, rfl⟩
        obtain ⟨q, hq⟩ : ∃ q, askEq x y = q := ⟨_, rfl⟩
        have hN : ∀ w, _ := fun w => neqReq x y w
        obtain ⟨x1, x2, x3⟩ := x
        obtain ⟨y1, y2, y3⟩ := y
        dsimp only at c0 c1 c2 d0 d1 d2 hN
        rw [hq] at Hst
        unfold askEq at hq
        dsimp only at hq
        rw [hq] at hN
        have HN := Lib.hid hN
        clear hq hN
        go_upto_region 6 with fail
        refine wp_region_quiet_lit (by kernel_rfl) (by kernel_rfl) ?_
        repeat (quiet_step (fail))
        refine wpQuiet_bin rfl _ _ rfl _ _ _ rfl rfl (fun w => run_eqGuard_agg _ _ _ _ _ _ _ guardReq) HN.out ?_
        refine wpQuiet_nil ?_
        intro _ hw'
        obtain ⟨nq, hw''⟩ := hw'
        subst hw''
        cases q
        · have He : Hid (r = false) := by show r = false; rw [← Hre.out, Hst.out]; rfl
          go_wp2_with fail
          go_ret
          obtain rfl : r = false := He.out
          exact ⟨rfl, drewN_below Hb.out _⟩
        · have He : Hid (rowEq askEq (xs.drop (k + 1)) (ys.drop (k + 1)) = r) := by show _ = r; rw [← Hre.out, Hst.out]; rfl
          go_wp2_with fail
          go_roundw
          case rel => exact ⟨k + 1, by omega, by go_num, He.out, drewN_below Hb.out _⟩
          case measure => simp [intOf]; omega
      · have hb2 := hb
        have He := Lib.hid (hre.out.symm.trans (rowEq_end askEq (by have := Hla.out; omega) (by have := Hlb.out; omega)))
        clear hb hre
        go_wp2_with fail
        go_ret
        obtain rfl : r = true := He.out
        exact ⟨rfl, hb2.out⟩
  · have hne : ((n : Int) != (m : Int)) = true := by simp; omega
    rw [rowEq_len askEq xs ys (by omega)]
    clear hA hB hla hlb hnm
    go_enter Try.func53, Try.ntmps53
    go_wp2_with fail
    go_ret
    exact ⟨rfl, Below.refl _ _⟩

end Go.Proofs.Ytpbppgfogepjeaa
