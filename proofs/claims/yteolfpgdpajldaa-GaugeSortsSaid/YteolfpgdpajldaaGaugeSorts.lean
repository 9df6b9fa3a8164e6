/- GaugeSorts: of any samples those that have a quantity are told, each as often as it is there, rising, -0 ahead of 0. Conditions: none. -/
import Derived.Test.YteolfpgdpajldaaGaugeSortsLift
import Derived.Test.YteolfpgdpajldaaCount
import Derived.Test.YteolfpgdpajldaaGaugeLives
namespace Go.Proofs.Yteolfpgdpajldaa
open Go.ChangeShapes Go.WideShapes Go.ChangeAt Go.RowKit Go.Deep

/-- The two words as the law's comparison has them: each plus 2^63. -/
theorem pair_walk {z y : Nat} (o1 : ¬ ((y + 9223372036854775808) % 18446744073709551616 < (z + 9223372036854775808) % 18446744073709551616 ∧ ¬ z = 9223372036854775808)) (o2 : ¬ (y = 9223372036854775808 ∧ ¬ z = 9223372036854775808)) :
    ∃ (ay az : Int) (b1 b2 b3 : Bool), IntKind.u64.wrap ((y : Int) + 9223372036854775808) = ay ∧ IntKind.u64.wrap ((z : Int) + 9223372036854775808) = az ∧ decide (ay < az) = b1 ∧ ((z : Int) == 9223372036854775808) = b2 ∧ ((y : Int) == 9223372036854775808) = b3 ∧ (b2 = false → b1 = false ∧ b3 = false) := by
  refine ⟨_, _, _, _, _, rfl, rfl, rfl, rfl, rfl, fun h => ?_⟩
  rw [beq_eq_false_iff_ne] at h
  rw [IntKind.wrap_u64, IntKind.wrap_u64, decide_eq_false_iff_not, beq_eq_false_iff_ne]
  omega

set_option maxRecDepth 100000 in
set_option maxHeartbeats 1600000 in
theorem gaugeSorts_core (l : List W64) (ao : Option Addr) (n cap : Nat) (w : World) (hA : SlR (Flat cW) 1 w ao n cap l) :
    Calls Try.prog 3 #[.slice ao n cap] w fun e w' => e = .returned (.bool true) ∧ Below w.heap.size w w' := by
  have h1 := hA.hmax; have h2 := hA.hcap
  unfold maxLen at h1
  rcases (show 50 < n ∨ n ≤ 50 by omega) with g1 | g1
  · go_enter Try.func3, Try.ntmps3
    go_wp2_with fail
    refine (lives04 _).mono ?_
    rintro e w1 ⟨rfl, hb1⟩
    go_wp2_with fail
    refine (lives04 _).mono ?_
    rintro e w2 ⟨rfl, hb2⟩
    go_wp2
    go_ret
    exact ⟨rfl, hb1.trans (hb2.mono hb1.size)⟩
  have HLa := Lib.hid hA.hlen
  have hmm := @run_makeMap Try.prog
  go_enter Try.func3, Try.ntmps3
  go_wp2_with fail
  refine (lives04 _).mono ?_
  rintro e w1 ⟨rfl, hb1⟩
  have HA := Lib.hid (hA.flatKeeps (Keeps.below hb1))
  have Hb1 := Lib.hid hb1
  clear hb1 hA
  go_wp2_with (first
    | ((with_reducible refine at_slot 21 ?_); go_must (refine wpList_buildSlice rfl 22 0 _ rfl [] rfl _ _ zeroWs ?_))
    | ((with_reducible refine at_slot 23 ?_); go_must (refine wpList_append_slr elemW rfl _ _ rfl w1.heap.size _ 0 [] rfl (World.ownsRow_made w1 _ 0 (Nat.le_refl _) (by decide) rfl) (by rw [World.size_alloc]; omega) (fun _ => rfl) ao n cap l rfl (HA.out.flatKeeps (Keeps.below ((Below.refl w1.heap.size w1).alloc (Nat.le_refl _) (.cells #[] 26)))) w_one (by unfold maxLen; omega) (by omega) ?_; intro v2 w2 hown hgr; rw [Nat.zero_add, List.nil_append] at hown; have hb : Below w1.heap.size w1 w2 := ((Below.refl _ w1).alloc (Nat.le_refl _) _).grown hgr (by rw [World.size_alloc]; omega) (fun k hk => by cases hk; exact Nat.le_refl _); obtain ⟨xo, xc, rfl, hsl, _⟩ := SlR.of_owns hown HLa.out (fun _ => rfl); have Hx := Lib.hid hsl; have HA := Lib.hid (HA.out.flatKeeps (Keeps.below hb)); have Hb2 := Lib.hid (Hb1.out.trans (hb.mono Hb1.out.size)); clear hown hgr hb hsl)))
  refine (sort_W l _ _ _ _ Hx.out (by omega)).mono ?_
  rintro e w3 ⟨so, m, sc, ys, rfl, hs, hM, hb⟩
  have Hs := Lib.hid hs
  have HM := Lib.hid hM
  have HA := Lib.hid (HA.out.flatKeeps (Keeps.below hb))
  have Hx := Lib.hid (Hx.out.flatKeeps (Keeps.below hb))
  have Hb3 := Lib.hid (Hb2.out.trans (hb.mono Hb2.out.size))
  clear hs hM hb
  go_wp2_with fail
  go_loopw [6, 7, 8, 9, 10, 29] (fun v6 _ _ _ _ vi wr => ∃ (k c : Nat), vi = .int .i64 k ∧ v6 = .int .i64 c ∧ k ≤ n ∧ c ≤ k ∧ Hid (c = (qualW (l.take k)).length) ∧ Hid (CntIs wr w3.heap.size k (fun x => (((qualW (l.take k)).count x : Nat) : Int))) ∧ Hid (Below w3.heap.size w3 wr)) (fun _ _ _ _ _ vi _ => n - (intOf vi).toNat)
  case atStart => exact ⟨0, 0, rfl, rfl, Nat.zero_le _, Nat.le_refl _, rfl, (CntIs.made w3).same (fun x => rfl), (Below.refl _ _).alloc (Nat.le_refl _) _⟩
  case round =>
    obtain ⟨k, c, rfl, rfl, hk, hck, hc, hC, hB⟩ := hrel
    obtain ⟨wp, rfl⟩ : ∃ wp : World, wp = wr := ⟨_, rfl⟩
    by_cases hlt : k < n
    · obtain ⟨b, off, rfl⟩ := HA.out.ptr (by decide) (by omega)
      obtain ⟨b', off', rfl⟩ := Hx.out.ptr (by decide) (by omega)
      have kx : k < l.length := by rw [HLa.out]; exact hlt
      have ha := (HA.out.flatKeeps (Keeps.below hB.out)).flat kx
      have hd := (Hx.out.flatKeeps (Keeps.below hB.out)).flat kx
      have hq := fun y => qual_count l kx y
      have hlen : (qualW (l.take (k + 1))).length = (qualW (l.take k)).length + (if badW l[k] = false then 1 else 0) := by
        unfold qualW
        rw [List.take_succ_eq_append_getElem kx, List.filter_append, List.map_append, List.length_append]
        congr 1
        cases hb : badW l[k] <;> simp [hb]
      obtain ⟨x, hx⟩ : ∃ x, l[k] = x := ⟨_, rfl⟩
      rw [hx] at ha hd hlen
      simp only [hx] at hq
      have c0 := ha 0 _ rfl
      have d0 := hd 0 _ rfl
      rw [Nat.add_zero, Nat.mul_one] at c0 d0
      have HR := Lib.hid (fun w1 => ref_any x.1 w1 x.2)
      have Hq := Lib.hid hq
      have Hlen := Lib.hid hlen
      obtain ⟨⟨q, r⟩, hqr⟩ : ∃ p, refOf x.1 = p := ⟨_, rfl⟩
      have hbad : Hid (badW x = !(r == 0)) := by show _ = _; unfold badW; rw [hqr]
      rw [hqr] at HR
      clear ha hd hq hlen hx hqr kx
      by_cases hr : r = 0
      · subst hr
        have hbd : Hid (badW x = false) := by show _ = _; rw [hbad.out]; rfl
        have hC' := hC
        have hB' := hB
        have hc' := hc
        go_wp2_with fail
        refine (HR.out _).mono ?_
        rintro e w4 ⟨rfl, hb4⟩
        have Hb4 := Lib.hid (hB'.out.trans (hb4.mono hB'.out.size))
        obtain ⟨m', f, q1, q2, q3⟩ := hC'.out.below hb4
        obtain ⟨cc, hcc⟩ : ∃ cc, (qualW (l.take k)).count x.1 = cc := ⟨_, rfl⟩
        have hcb : cc ≤ 50 := by
          have h5 : (qualW (l.take k)).count x.1 ≤ (qualW (l.take k)).length := List.count_le_length
          rw [← hc'.out] at h5
          omega
        have hv : (f (.int .u64 (x.1 : Nat))).getD (.int .i64 0) = .int .i64 (cc : Nat) := by rw [q3]; dsimp only; rw [hcc]
        have Hv := Lib.hid hv
        have Q1 := Lib.hid q1
        have Q3 := Lib.hid q3
        have Hcc := Lib.hid hcc
        have HK := Lib.hid (u64_key x.1 x.2)
        have hm5 : m' ≤ 50 := by omega
        clear hb4 q1 q3 hcc hv
        go_wp2_with (first | (at_lookup; go_must (refine wpList_look _ rfl _ _ 25 rfl 26 3 u64Keyed Try.underlying25 (zeroInt _) w3.heap.size m' f rfl Q1.out _ _ rfl HK.out (.int .i64 (cc : Nat)) Hv.out ?_)) | (at_mapUpdate; go_must (refine wpList_map_store _ rfl _ _ _ 25 rfl 26 3 u64Keyed Try.underlying25 w3.heap.size m' f rfl Q1.out (by unfold maxLen; omega) _ (.int .i64 ((cc : Int) + 1)) _ rfl rfl HK.out _ rfl ?_; intro w5 hM5 hT5; have HM5 := Lib.hid hM5; have HT5 := Lib.hid (Fr.turned (fun j => j = w3.heap.size) hT5 rfl); clear hM5 hT5)))
        go_roundw
        case rel =>
          refine ⟨k + 1, c + 1, by go_num, by go_num, by omega, by omega, ?_, ⟨_, _, HM5.out, by split <;> omega, fun y => ?_⟩, Hb4.out.trans (HT5.out.below Hb4.out.size (fun j hj => by omega))⟩
          · show _ = _; rw [Hlen.out, hbd.out, ← hc'.out]; simp
          · rw [CntIs.set Q3.out]
            dsimp only
            rw [Hq.out y, hbd.out]
            congr 1
            by_cases hy : y = x.1
            · subst hy
              rw [if_pos rfl, if_pos ⟨rfl, rfl⟩, Hcc.out]
              push_cast
              rfl
            · rw [if_neg hy, if_neg (fun hh => hy hh.2.symm)]
              simp
        case measure => simp [intOf]; omega
      · have hr0 : (r == 0) = false := by rw [beq_eq_false_iff_ne]; exact hr
        have hbd : Hid (badW x = true) := by show _ = _; rw [hbad.out, hr0]; rfl
        have hC' := hC
        have hB' := hB
        have hc' := hc
        go_wp2_with fail
        refine (HR.out _).mono ?_
        rintro e w4 ⟨rfl, hb4⟩
        have Hb4 := Lib.hid hb4
        clear hb4
        go_wp2_with fail
        go_roundw
        case rel =>
          refine ⟨k + 1, c, by go_num, rfl, by omega, by omega, ?_, ?_, hB'.out.trans (Hb4.out.mono hB'.out.size)⟩
          · show _ = _; rw [Hlen.out, hbd.out, ← hc'.out]; simp
          · obtain ⟨m', f, q1, q2, q3⟩ := (hC'.out.below Hb4.out).same (c' := fun y => (((qualW (l.take (k + 1))).count y : Nat) : Int)) (fun y => by rw [Hq.out y, hbd.out]; simp)
            exact ⟨m', f, q1, by omega, q3⟩
        case measure => simp [intOf]; omega
    · obtain rfl : k = n := by omega
      have htk : l.take k = l := List.take_of_length_le (by rw [HLa.out]; exact Nat.le_refl _)
      have hC2 : Hid (CntIs wp w3.heap.size k (fun y => ((ys.count y : Nat) : Int))) := hC.out.same (fun y => by rw [htk, (sw_perm Hs.out).count_eq])
      obtain rfl : c = m := by rw [hc.out, htk, ← (sw_perm Hs.out).length_eq, HM.out.hlen]
      have hB' := hB
      have hm1 := HM.out.hmax
      have hm2 := HM.out.hcap
      unfold maxLen at hm1
      clear hC hc htk
      go_wp2_with fail
      go_loopw [11, 12, 56] (fun _ _ vi wr => ∃ i : Nat, vi = .int .i64 i ∧ i ≤ c ∧ Hid (CntIs wr w3.heap.size k (fun y => (((ys.drop i).count y : Nat) : Int))) ∧ Hid (Below w3.heap.size w3 wr)) (fun _ _ vi _ => c - (intOf vi).toNat)
      case atStart => exact ⟨0, rfl, Nat.zero_le _, hC2.out, hB'.out⟩
      case round =>
        obtain ⟨i, rfl, him, hC3, hB3⟩ := hrel
        obtain ⟨wp2, rfl⟩ : ∃ wp2 : World, wp2 = wr := ⟨_, rfl⟩
        by_cases hlt2 : i < c
        · obtain ⟨b, off, rfl⟩ := HM.out.ptr (by decide) (by omega)
          have kx : i < ys.length := by rw [HM.out.hlen]; exact hlt2
          have hM2 := HM.out.flatKeeps (Keeps.below hB3.out)
          have hgy := sw_good Hs.out ys[i] (List.getElem_mem kx)
          have hdc := fun z => drop_count ys kx z
          have ha := hM2.flat kx
          have hbl : b < w3.heap.size := World.block_lt_of_cell? w3 _ (HM.out.flat kx 0 _ rfl)
          have Hbl := Lib.hid hbl
          have hpv : ∀ p, (hp : p + 1 = i) → wp2.cell? ⟨b, off + p, none⟩ = some (.int .u64 ((ys[p]'(by omega) : Nat) : Int)) ∧ GoodW (ys[p]'(by omega)) ∧ keyN (ys[p]'(by omega)) ≤ keyN ys[i] := fun p hp => by
            subst hp
            have hh := hM2.flat (show p < ys.length by omega) 0 _ rfl
            rw [Nat.add_zero, Nat.mul_one] at hh
            exact ⟨hh, sw_good Hs.out _ (List.getElem_mem _), sw_next Hs.out kx⟩
          obtain ⟨y, hy⟩ : ∃ y, ys[i] = y := ⟨_, rfl⟩
          rw [hy] at ha hgy
          simp only [hy] at hdc hpv
          have c0 := ha 0 _ rfl
          rw [Nat.add_zero, Nat.mul_one] at c0
          obtain ⟨cc, hcc⟩ : ∃ cc, (ys.drop (i + 1)).count y = cc := ⟨_, rfl⟩
          have hcb : cc ≤ 60 := by
            have h5 : (ys.drop (i + 1)).count y ≤ (ys.drop (i + 1)).length := List.count_le_length
            rw [List.length_drop, HM.out.hlen] at h5
            omega
          obtain ⟨m', f, q1, q2, q3⟩ := hC3.out
          have hv : (f (.int .u64 (y : Nat))).getD (.int .i64 0) = .int .i64 ((cc : Int) + 1) := by rw [q3]; try dsimp only; rw [hdc y, hcc, if_pos rfl]; rfl
          have hv2 : (fset f (.int .u64 (y : Nat)) (.int .i64 (cc : Nat)) (.int .u64 (y : Nat))).getD (.int .i64 0) = .int .i64 (cc : Nat) := by rw [CntIs.set q3, if_pos rfl]
          have hset : ∀ z : Nat, (fset f (.int .u64 (y : Nat)) (.int .i64 (cc : Nat)) (.int .u64 (z : Nat))).getD (.int .i64 0) = .int .i64 (((ys.drop (i + 1)).count z : Nat) : Int) := fun z => by
            rw [CntIs.set q3]
            try dsimp only
            rw [hdc z]
            by_cases hz : z = y
            · subst hz; rw [if_pos rfl, hcc]
            · rw [if_neg hz, if_neg (fun h => hz h.symm), Nat.add_zero]
          have hsome : Hid ((f (.int .u64 (y : Nat))).isSome = true) := by
            show _ = _
            cases hh : f (.int .u64 (y : Nat))
            · rw [hh] at hv; simp at hv; omega
            · rfl
          have Hv := Lib.hid hv
          have Hv2 := Lib.hid hv2
          have Hset := Lib.hid hset
          have Q1 := Lib.hid q1
          have HK := Lib.hid (u64_key y (good_lt hgy))
          have Hpv := Lib.hid hpv
          have Hgy := Lib.hid hgy
          have HB5 := hB3
          have hm5 : m' ≤ 60 := by omega
          have hcn : ¬ (cc : Int) < 0 := by omega
          have hf1 : (cc : Int) + 1 - 1 = (cc : Int) := by omega
          clear ha hM2 hdc hpv hy hcc q1 q3 hv hv2 hset hgy hbl
          by_cases hi0 : i = 0
          · subst hi0
            rw [Nat.add_zero] at c0
            go_wp2_with (first | ((with_reducible refine at_slot 63 ?_); go_must (refine wpList_look _ rfl _ _ 25 rfl 26 3 u64Keyed Try.underlying25 (zeroInt _) w3.heap.size m' f rfl Q1.out _ _ rfl HK.out (.int .i64 ((cc : Int) + 1)) Hv.out ?_)) | ((with_reducible refine at_slot 67 ?_); go_must (refine wpList_look _ rfl _ _ 25 rfl 26 3 u64Keyed Try.underlying25 (zeroInt _) w3.heap.size _ _ rfl HM5.out _ _ rfl HK.out (.int .i64 (cc : Nat)) Hv2.out ?_)) | (at_mapUpdate; go_must (refine wpList_map_store _ rfl _ _ _ 25 rfl 26 3 u64Keyed Try.underlying25 w3.heap.size m' f rfl Q1.out (by unfold maxLen; omega) _ (.int .i64 (cc : Nat)) _ rfl rfl HK.out _ rfl ?_; intro w5 hM5 hT5; have HM5 := Lib.hid hM5; have HT5 := Lib.hid (Fr.turned (fun j => j = w3.heap.size) hT5 rfl); clear hM5 hT5)))
            go_roundw
            case rel => exact ⟨1, by first | rfl | go_num, by omega, ⟨_, _, HM5.out, by rw [if_pos hsome.out]; exact q2, Hset.out⟩, HB5.out.trans (HT5.out.below HB5.out.size (fun j hj => by omega))⟩
            case measure => simp [intOf]; omega
          · obtain ⟨p, hp⟩ : ∃ p, p + 1 = i := ⟨i - 1, by omega⟩
            obtain ⟨z0, hgz, hkz⟩ := Hpv.out p hp
            have f1 : (i : Int) - 1 = (p : Int) := by omega
            have hpl : p < ys.length := by omega
            obtain ⟨z, hz⟩ : ∃ z, ys[p]'hpl = z := ⟨_, rfl⟩
            rw [hz] at z0 hgz hkz
            obtain ⟨o1, o2⟩ := pair_ok hgz Hgy.out hkz
            have hpc : p < c := by omega
            have hip : decide ((0 : Int) < (i : Int)) = true := decide_eq_true (by omega)
            obtain ⟨ay, az, b1, b2, b3, e1, e2, e3, e4, e5, e6⟩ := pair_walk o1 o2
            have E6 := Lib.hid e6
            clear o1 o2 hkz e6 hgz hz
            have Z0 := Lib.hid z0
            clear z0
            have key : ∀ b1 b2 b3 : Bool, decide (ay < az) = b1 → ((z : Int) == 9223372036854775808) = b2 → ((y : Int) == 9223372036854775808) = b3 → True := fun _ _ _ _ _ _ => trivial
            clear key
            rcases b2 with _ | _
            · obtain ⟨rfl, rfl⟩ := E6.out rfl
              go_wp2_with (first | ((with_reducible refine at_slot 63 ?_); go_must (refine wpList_look _ rfl _ _ 25 rfl 26 3 u64Keyed Try.underlying25 (zeroInt _) w3.heap.size m' f rfl Q1.out _ _ rfl HK.out (.int .i64 ((cc : Int) + 1)) Hv.out ?_)) | ((with_reducible refine at_slot 67 ?_); go_must (refine wpList_look _ rfl _ _ 25 rfl 26 3 u64Keyed Try.underlying25 (zeroInt _) w3.heap.size _ _ rfl HM5.out _ _ rfl HK.out (.int .i64 (cc : Nat)) Hv2.out ?_)) | (at_mapUpdate; go_must (refine wpList_map_store _ rfl _ _ _ 25 rfl 26 3 u64Keyed Try.underlying25 w3.heap.size m' f rfl Q1.out (by unfold maxLen; omega) _ (.int .i64 (cc : Nat)) _ rfl rfl HK.out _ rfl ?_; intro w5 hM5 hT5; have HM5 := Lib.hid hM5; have HT5 := Lib.hid (Fr.turned (fun j => j = w3.heap.size) hT5 rfl); have Z5 := HT5.out.cell Z0.out (fun h => absurd h (Nat.ne_of_lt Hbl.out)); clear hM5 hT5)))
              go_roundw
              case rel => exact ⟨i + 1, by go_num, by omega, ⟨_, _, HM5.out, by rw [if_pos hsome.out]; exact q2, Hset.out⟩, HB5.out.trans (HT5.out.below HB5.out.size (fun j hj => by omega))⟩
              case measure => simp [intOf]; omega
            · rcases b1 with _ | _ <;> rcases b3 with _ | _
              all_goals go_wp2_with (first | ((with_reducible refine at_slot 63 ?_); go_must (refine wpList_look _ rfl _ _ 25 rfl 26 3 u64Keyed Try.underlying25 (zeroInt _) w3.heap.size m' f rfl Q1.out _ _ rfl HK.out (.int .i64 ((cc : Int) + 1)) Hv.out ?_)) | ((with_reducible refine at_slot 67 ?_); go_must (refine wpList_look _ rfl _ _ 25 rfl 26 3 u64Keyed Try.underlying25 (zeroInt _) w3.heap.size _ _ rfl HM5.out _ _ rfl HK.out (.int .i64 (cc : Nat)) Hv2.out ?_)) | (at_mapUpdate; go_must (refine wpList_map_store _ rfl _ _ _ 25 rfl 26 3 u64Keyed Try.underlying25 w3.heap.size m' f rfl Q1.out (by unfold maxLen; omega) _ (.int .i64 (cc : Nat)) _ rfl rfl HK.out _ rfl ?_; intro w5 hM5 hT5; have HM5 := Lib.hid hM5; have HT5 := Lib.hid (Fr.turned (fun j => j = w3.heap.size) hT5 rfl); have Z5 := HT5.out.cell Z0.out (fun h => absurd h (Nat.ne_of_lt Hbl.out)); clear hM5 hT5)))
              all_goals
                go_roundw
                case rel => exact ⟨i + 1, by go_num, by omega, ⟨_, _, HM5.out, by rw [if_pos hsome.out]; exact q2, Hset.out⟩, HB5.out.trans (HT5.out.below HB5.out.size (fun j hj => by omega))⟩
                case measure => simp [intOf]; omega
        · obtain rfl : i = c := by omega
          have HB3 := Lib.hid (Hb3.out.trans (hB3.out.mono Hb3.out.size))
          clear hC3 hB3
          go_wp2_with fail
          go_ret
          exact ⟨ret_bool (by simp), HB3.out⟩
theorem wR_of (w : World) (c : List Value) (h : Rel (.int .u64) w c) : ∃ x : W64, Flat cW w x c := by
  obtain ⟨n, rfl, hw⟩ := h
  simp [Lit.wf, IntKind.min, IntKind.max, IntKind.signed, IntKind.bits] at hw
  refine ⟨⟨n.toNat, by omega⟩, ?_⟩
  show _ = _
  unfold cW
  simp
  omega

theorem GaugeSorts_holds : Rows.GaugeSortsSaid := lGaugeSorts.over fun ao n cap w h0 => by
  obtain ⟨_, _, _, ls, e0, hS⟩ := SlR.of_rel h0 (fun c hc => wR_of w c hc)
  simp [Value.cells] at e0
  obtain ⟨rfl, rfl, rfl⟩ := e0
  exact gaugeSorts_core ls _ _ _ w hS
end Go.Proofs.Yteolfpgdpajldaa
