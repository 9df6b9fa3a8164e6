/- IdleTimers: whatever looks there are, a timer runs from the first one of all those, up to the last one, at which a node wasn't needed; it is ripe behind the wait; a copy goes on by itself. Conditions: none. -/
import Derived.Test.YtlokeeejemndfaaIdleTimersLift
import Derived.Test.YtlokeeejemndfaaIdleTm
namespace Go.Proofs.Ytlokeeejemndfaa
open Go.ChangeShapes Go.WideShapes Go.ChangeAt Go.RowKit Go.Deep Go.Maps Go.Sort

set_option maxRecDepth 100000 in
set_option maxHeartbeats 4000000 in
theorem idleTimers_core (l : List Lk27) (ao : Option Addr) (n cap : Nat) (wait more : Int) (w : World) (hA : SlR Lk27R 3 w ao n cap l) (hm0 : 0 ≤ more) (hm1 : more ≤ 65535) :
    Calls Try.prog 3 #[.slice ao n cap, .int .i64 wait, .int .u16 more] w fun e w' => e = .returned (.bool true) ∧ Below w.heap.size w w' := by
  have h1 := hA.hmax; have h2 := hA.hcap
  unfold maxLen at h1
  rcases (show 40 < n ∨ n ≤ 40 by omega) with g1 | g1
  · go_enter Try.func3, Try.ntmps3
    go_wp2_with fail
    refine (lives27 _).mono ?_
    rintro e w1 ⟨rfl, hb1⟩
    go_wp2_with fail
    refine (lives27 _).mono ?_
    rintro e w2 ⟨rfl, hb2⟩
    go_wp2
    go_ret
    exact ⟨rfl, hb1.trans (hb2.mono hb1.size)⟩
  have HA := Lib.hid hA
  have HL := Lib.hid hA.hlen
  have hmm := @run_makeMap Try.prog
  clear hA
  go_enter Try.func3, Try.ntmps3
  go_wp2_with fail
  refine (lives27 _).mono ?_
  rintro e w1 ⟨rfl, hb1⟩
  have HB1 := Lib.hid hb1
  clear hb1
  go_wp2_with fail
  refine (newTimers_any _).mono ?_
  rintro e w2 ⟨rfl, hw2⟩
  obtain ⟨tb, htb⟩ : ∃ tb, w1.heap.size + 1 = tb := ⟨_, rfl⟩
  have hT : TimersAt w2 tb w1.heap.size 0 Tm.zero := by rw [hw2, ← htb]; exact TimersAt.made w1
  have hb0 : Below w1.heap.size w1 w2 := by rw [hw2]; exact ((Below.refl _ _).alloc (Nat.le_refl _) _).alloc (by simp) _
  have hI0 : InvT w w2.heap.size tb (.slice none 0 0) [] 0 w1.heap.size 0 w2 := by
    refine ⟨hT, World.ownsRow_nil _ _ _ _, (fun l hl => by cases hl), (fun p hp => by cases hp), HB1.out.trans (hb0.mono HB1.out.size), Nat.le_refl _, hT.lt.1, ?_⟩
    have := HB1.out.size
    omega
  rw [htb]
  have HI0 := Lib.hid hI0
  obtain ⟨B, hB⟩ : ∃ B, w2.heap.size = B := ⟨_, rfl⟩
  rw [hB] at HI0
  clear hw2 hT hb0 hI0 htb HB1 hB
  go_wp2_with fail
  go_loopw [8, 9, 11, 12, 13, 14, 15, 16, 43] (fun v8 v9 _ _ _ _ _ _ vi wr => ∃ (k : Nat) (C : List LK) (now : Int) (tm n' : Nat), vi = .int .i64 k ∧ k ≤ n ∧ v9 = .int .i64 now ∧ 0 ≤ now ∧ now ≤ 32767 * (k : Int) ∧ n' ≤ 10 ∧ C.length ≤ k ∧ Hid (InvT w B tb v8 C now tm n' wr)) (fun _ _ _ _ _ _ _ _ vi _ => n - (intOf vi).toNat)
  case atStart => exact ⟨0, [], 0, _, 0, rfl, Nat.zero_le _, rfl, by decide, by decide, by decide, Nat.le_refl _, HI0.out⟩
  case round =>
    obtain ⟨k, C, now, tm, n', rfl, hk, rfl, hnow, hnowk, hn', hCk, hI⟩ := hrel
    obtain ⟨wp, rfl⟩ : ∃ wp : World, wp = wr := ⟨_, rfl⟩
    by_cases hlt : k < n
    · obtain ⟨b, off, rfl⟩ := HA.out.ptr (by decide) (by omega)
      have kx : k < l.length := by rw [HL.out]; exact hlt
      obtain ⟨c, hc1, hc2, hc3, hc4, hc5, hc6⟩ := HA.out.cells kx
      subst hc3
      obtain ⟨x, hx⟩ : ∃ x, l[k] = x := ⟨_, rfl⟩
      rw [hx] at hc2 hc4 hc5 hc6
      obtain ⟨tick, xo, xl, xc, names, rs⟩ := x
      dsimp only at hc2 hc4 hc5 hc6
      have x0 := Below.cell_some hI.out.below (hc2 0 _ rfl)
      have x1 := Below.cell_some hI.out.below (hc2 1 _ rfl)
      have x2 := Below.cell_some hI.out.below (hc2 2 _ rfl)
      rw [Nat.add_zero] at x0
      have HX := Lib.hid hc4
      have hxm := hc4.hmax
      have hxc := hc4.hcap
      unfold maxLen at hxm
      clear hc1 hc2 hc4 hx kx
      rcases (show 10 < xl ∨ xl ≤ 10 by omega) with hxl | hxl
      · go_wp2_with fail
        go_ret
        exact ⟨rfl, hI.out.below.alloc (by have := hI.out.below.size; omega) _⟩
      · rcases rs with _ | _
        rotate_left
        · go_wp2_with fail
          refine (reset_any tb tm n' _ _ (hI.out.tmr.below ((Below.refl _ _).alloc (Nat.le_refl _) _))).mono ?_
          rintro e w3 ⟨rfl, hT3, hF3⟩
          have HI3 := Lib.hid (InvT.reset hI.out (o := .cells #[.int .i16 tick, .slice xo xl xc, .bool true] 31) hT3 hF3)
          clear hT3 hF3
          go_wp2_with fail
          go_roundw
          case rel => exact ⟨k + 1, [], now, _, 0, by go_num, by omega, rfl, hnow, by omega, by omega, by simp, HI3.out⟩
          case measure => simp [intOf]; omega
        · obtain ⟨cl, hcl⟩ : ∃ cl, C.length = cl := ⟨_, rfl⟩
          have hv8 : ∃ lo lc, u8 = .slice lo cl lc ∧ SlR (Flat LK.cells) 2 wp lo cl lc C := by
            rw [← hcl]
            obtain ⟨lo, lc, h, hS, _⟩ := SlR.of_owns hI.out.row rfl (fun _ => rfl)
            exact ⟨lo, lc, h, hS⟩
          obtain ⟨lo, lc, rfl, hSL⟩ := hv8
          have HSL := Lib.hid hSL
          have hlook := lookOf_tm C now (now + tick) hI.out.last
          have HQ : Hid (lookOf (tmOf C.reverse) 4611686018427387904 = 0) := by
            show _ = _
            rw [lookOf_tm C now _ hI.out.last, if_neg (by omega), if_neg (fun hh => absurd hh.2 (by omega))]
          have hlm := hSL.hmax
          have hlc := hSL.hcap
          unfold maxLen at hlm
          have hcln := C_nil_or C
          rw [hcl] at hCk hcln
          have hlast := hI.out.last
          have Hcl := Lib.hid hcl
          clear hSL hcl
          rcases (show now + tick < 0 ∨ 0 ≤ now + tick by omega) with qa | qa
          · have HR : Hid (lookOf (tmOf C.reverse) (now + tick) = 1) := hlook.trans (if_pos (.inl qa))
            clear hlook hcln hlast
            have hsX := hI.out.below.size
            go_upto_region 20 with fail
            have hbX : Below wp.heap.size wp (wp.alloc (.cells #[.int .i16 tick, .slice xo xl xc, .bool false] 31)) := (Below.refl _ _).alloc (Nat.le_refl _) _
            have y1 : (wp.alloc (.cells #[.int .i16 tick, .slice xo xl xc, .bool false] 31)).cell? ⟨wp.heap.size, 1, none⟩ = some (.slice xo xl xc) := cell_new wp _ _ 1
            have hzX : (wp.alloc (.cells #[.int .i16 tick, .slice xo xl xc, .bool false] 31)).heap.size = wp.heap.size + 1 := World.size_alloc _ _
            obtain ⟨wX, hwX⟩ : ∃ wX, (wp.alloc (.cells #[.int .i16 tick, .slice xo xl xc, .bool false] 31)) = wX := ⟨_, rfl⟩
            rw [hwX] at hbX y1 hzX ⊢
            have HbX := Lib.hid hbX
            have HzX := Lib.hid hzX
            have HXX := Lib.hid (HX.out.flatKeeps (Keeps.below (hI.out.below.trans (hbX.mono hI.out.below.size))))
            have hlx : wp.heap.size < wX.heap.size := by omega
            clear hwX hbX hzX x0 x1 x2
            go_wp2_with (first
              | ((with_reducible refine at_slot 76 ?_); go_must (refine wpList_buildSlice rfl 29 0 _ rfl [] rfl _ _ zeroStrs ?_))
              | ((with_reducible refine at_slot 79 ?_); go_must (refine wpList_append_slr elemStr rfl _ _ rfl wX.heap.size _ 0 [] rfl (World.ownsRow_made wX _ 0 (Nat.le_refl _) (by decide) rfl) (by rw [World.size_alloc]; omega) (fun _ => rfl) xo xl xc names rfl (HXX.out.flatKeeps (Keeps.below ((Below.refl wX.heap.size wX).alloc (Nat.le_refl _) (.cells #[] 9)))) s_one (by unfold maxLen; omega) (by omega) ?_; intro v14 w4 hown hgr; rw [Nat.zero_add, List.nil_append] at hown; have hb4 : Below wX.heap.size wX w4 := ((Below.refl _ wX).alloc (Nat.le_refl _) _).grown hgr (by rw [World.size_alloc]; omega) (fun k hk => by cases hk; exact Nat.le_refl _); obtain ⟨oo, oc, rfl, hso, _⟩ := SlR.of_owns hown HX.out.hlen (fun _ => rfl); have HO4 := Lib.hid (OwnS.of hown); have HS4 := Lib.hid hso; have Hb4 := Lib.hid hb4; clear hown hgr hb4 hso)))
            have hT4 := hI.out.tmr.below (HbX.out.trans (Hb4.out.mono HbX.out.size))
            have HT4 := Lib.hid hT4
            clear hT4
            refine (copy_any tb tm n' _ w4 HT4.out).mono ?_
            rintro e w5 ⟨tb', tm5, rfl, hT5, hl1, hl2, hb5⟩
            have HT5 := Lib.hid hT5
            have Hb5 := Lib.hid hb5
            have Hl1 := Lib.hid hl1
            clear hT5 hb5 hl1 hl2
            go_wp2_with fail
            refine (look_any tb' tm5 n' _ 4611686018427387904 [strQ] _ 1 1 _ (HT5.out.below ((Below.refl _ _).alloc (Nat.le_refl _) _)) sl_oneQ (by decide) HQ.out).mono ?_
            rintro e w6 ⟨rfl, _, hF6⟩
            have hb46 : Below w4.heap.size w4 w6 := (Hb5.out.alloc Hb5.out.size (.cells #[.string ⟨#[63]⟩] 9)).trans (hF6.below (by have := Hb5.out.size; simp; omega) (fun q hq => by have := Hl1.out; omega))
            have HS6 := Lib.hid (HS4.out.flatKeeps (Keeps.below hb46))
            have HO6 := Lib.hid (HO4.out.fr (Fr.of_below hb46 (fun _ => False)) (fun _ _ _ h => h))
            have HT6 := Lib.hid (HT4.out.below hb46)
            have Hb6 := Lib.hid (Hb4.out.trans (hb46.mono Hb4.out.size))
            clear hF6 hb46 HS4 HO4 HT4 Hb4 HT5 Hb5 Hl1
            go_wp2_with fail
            refine (lookErr_any tb tm n' _ (now + tick) _ w6 HT6.out (by rw [HR.out]; decide)).mono ?_
            rintro e w7 ⟨he, h67⟩
            rw [HR.out] at he
            subst he
            have HF7 : Hid (Fr (fun q => q = tb) w6 w7) := by rw [← h67]; exact Fr.refl _ _
            have H67 : Hid (Below wp.heap.size w6 w7) := by rw [← h67]; exact Below.refl _ _
            clear h67
            have hO7 := HO6.out.fr HF7.out (fun g h1 h2 hs => by have := HzX.out; have := hI.out.tbB; have := hI.out.hB; omega)
            have HO7 := Lib.hid hO7
            clear hO7
            go_wp2_with fail
            go_loopw [16, 93] (fun _ vi wr' => ∃ j : Nat, vi = .int .i64 j ∧ j ≤ xl ∧ Hid (OwnS wr' wX.heap.size 9 oo xl) ∧ Hid (Fr (fun q => ∃ off, oo = some ⟨q, off, none⟩) w7 wr')) (fun _ vi _ => xl - (intOf vi).toNat)
            case atStart => exact ⟨0, rfl, Nat.zero_le _, HO7.out, Fr.refl _ _⟩
            case round =>
              obtain ⟨j, rfl, hj, hO, hF⟩ := hrel
              obtain ⟨wq, rfl⟩ : ∃ wq : World, wq = wr := ⟨_, rfl⟩
              by_cases hjl : j < xl
              · obtain ⟨g, off', rfl⟩ := HS6.out.ptr (by decide) (by omega)
                obtain ⟨q1, q2, cur, q3, q4⟩ := hO.out g off' rfl
                have z0 := cell_row q3 (show off' + j < cur.size by omega)
                have z1 := row_free q3 (off' + j)
                clear q3
                go_wp2_with fail
                go_roundw
                case rel => exact ⟨j + 1, by go_num, by omega, hO.out.set _, hF.out.setCell ⟨off', rfl⟩ _⟩
                case measure => simp [intOf]; omega
              · obtain rfl : j = xl := by omega
                have hSq : ∀ q, (∃ off, oo = some ⟨q, off, none⟩) → wp.heap.size ≤ q ∧ q < w6.heap.size := by
                  rintro q ⟨off'', hq⟩
                  have := HO6.out q off'' hq
                  have := HzX.out
                  omega
                have HSq := Lib.hid hSq
                have hb6p := HbX.out.trans (Hb6.out.mono HbX.out.size)
                have Hb6p := Lib.hid hb6p
                clear hSq hb6p
                go_wp2_with fail
                go_roundw
                case rel => exact ⟨k + 1, C, now, tm, n', by go_num, by omega, rfl, hnow, by omega, hn', by rw [Hcl.out]; omega, hI.out.keep ((Hb6p.out.trans (H67.out)).trans (hF.out.below (by have := Hb6p.out.size; have := HF7.out.size; omega) (fun q hq => (HSq.out q hq).1)))⟩
                case measure => simp [intOf]; omega
          rcases hcln with hC0 | ⟨p, hp⟩
          · subst hC0
            have HR : Hid (lookOf (tmOf ([] : List LK).reverse) (now + tick) = 0) := hlook.trans (by rw [if_neg (by omega), if_neg (fun hh => hh.1 rfl)])
            obtain rfl : cl = 0 := Hcl.out.symm
            clear hlook hlast
            have hsX := hI.out.below.size
            go_upto_region 20 with fail
            have hbX : Below wp.heap.size wp (wp.alloc (.cells #[.int .i16 tick, .slice xo xl xc, .bool false] 31)) := (Below.refl _ _).alloc (Nat.le_refl _) _
            have y1 : (wp.alloc (.cells #[.int .i16 tick, .slice xo xl xc, .bool false] 31)).cell? ⟨wp.heap.size, 1, none⟩ = some (.slice xo xl xc) := cell_new wp _ _ 1
            have hzX : (wp.alloc (.cells #[.int .i16 tick, .slice xo xl xc, .bool false] 31)).heap.size = wp.heap.size + 1 := World.size_alloc _ _
            obtain ⟨wX, hwX⟩ : ∃ wX, (wp.alloc (.cells #[.int .i16 tick, .slice xo xl xc, .bool false] 31)) = wX := ⟨_, rfl⟩
            rw [hwX] at hbX y1 hzX ⊢
            have HbX := Lib.hid hbX
            have HzX := Lib.hid hzX
            have HXX := Lib.hid (HX.out.flatKeeps (Keeps.below (hI.out.below.trans (hbX.mono hI.out.below.size))))
            have hlx : wp.heap.size < wX.heap.size := by omega
            clear hwX hbX hzX x0 x1 x2
            go_wp2_with (first
              | ((with_reducible refine at_slot 76 ?_); go_must (refine wpList_buildSlice rfl 29 0 _ rfl [] rfl _ _ zeroStrs ?_))
              | ((with_reducible refine at_slot 79 ?_); go_must (refine wpList_append_slr elemStr rfl _ _ rfl wX.heap.size _ 0 [] rfl (World.ownsRow_made wX _ 0 (Nat.le_refl _) (by decide) rfl) (by rw [World.size_alloc]; omega) (fun _ => rfl) xo xl xc names rfl (HXX.out.flatKeeps (Keeps.below ((Below.refl wX.heap.size wX).alloc (Nat.le_refl _) (.cells #[] 9)))) s_one (by unfold maxLen; omega) (by omega) ?_; intro v14 w4 hown hgr; rw [Nat.zero_add, List.nil_append] at hown; have hb4 : Below wX.heap.size wX w4 := ((Below.refl _ wX).alloc (Nat.le_refl _) _).grown hgr (by rw [World.size_alloc]; omega) (fun k hk => by cases hk; exact Nat.le_refl _); obtain ⟨oo, oc, rfl, hso, _⟩ := SlR.of_owns hown HX.out.hlen (fun _ => rfl); have HO4 := Lib.hid (OwnS.of hown); have HS4 := Lib.hid hso; have Hb4 := Lib.hid hb4; clear hown hgr hb4 hso)))
            have hT4 := hI.out.tmr.below (HbX.out.trans (Hb4.out.mono HbX.out.size))
            have HT4 := Lib.hid hT4
            clear hT4
            refine (copy_any tb tm n' _ w4 HT4.out).mono ?_
            rintro e w5 ⟨tb', tm5, rfl, hT5, hl1, hl2, hb5⟩
            have HT5 := Lib.hid hT5
            have Hb5 := Lib.hid hb5
            have Hl1 := Lib.hid hl1
            clear hT5 hb5 hl1 hl2
            go_wp2_with fail
            refine (look_any tb' tm5 n' _ 4611686018427387904 [strQ] _ 1 1 _ (HT5.out.below ((Below.refl _ _).alloc (Nat.le_refl _) _)) sl_oneQ (by decide) HQ.out).mono ?_
            rintro e w6 ⟨rfl, _, hF6⟩
            have hb46 : Below w4.heap.size w4 w6 := (Hb5.out.alloc Hb5.out.size (.cells #[.string ⟨#[63]⟩] 9)).trans (hF6.below (by have := Hb5.out.size; simp; omega) (fun q hq => by have := Hl1.out; omega))
            have HS6 := Lib.hid (HS4.out.flatKeeps (Keeps.below hb46))
            have HO6 := Lib.hid (HO4.out.fr (Fr.of_below hb46 (fun _ => False)) (fun _ _ _ h => h))
            have HT6 := Lib.hid (HT4.out.below hb46)
            have Hb6 := Lib.hid (Hb4.out.trans (hb46.mono Hb4.out.size))
            clear hF6 hb46 HS4 HO4 HT4 Hb4 HT5 Hb5 Hl1
            go_wp2_with fail
            refine (look_any tb tm n' _ (now + tick) names oo xl oc w6 HT6.out HS6.out (by omega) HR.out).mono ?_
            rintro e w7 ⟨rfl, ⟨tm7, n7, hn7, hl7, hT7⟩, hF7⟩
            have HT7 := Lib.hid hT7
            have HF7 := Lib.hid hF7
            have Hl7 := Lib.hid hl7
            rw [HX.out.hlen] at hn7
            clear hT7 hF7 hl7
            have hO7 := HO6.out.fr HF7.out (fun g h1 h2 hs => by have := HzX.out; have := hI.out.tbB; have := hI.out.hB; omega)
            have HO7 := Lib.hid hO7
            clear hO7
            go_wp2_with fail
            go_loopw [16, 93] (fun _ vi wr' => ∃ j : Nat, vi = .int .i64 j ∧ j ≤ xl ∧ Hid (OwnS wr' wX.heap.size 9 oo xl) ∧ Hid (Fr (fun q => ∃ off, oo = some ⟨q, off, none⟩) w7 wr')) (fun _ vi _ => xl - (intOf vi).toNat)
            case atStart => exact ⟨0, rfl, Nat.zero_le _, HO7.out, Fr.refl _ _⟩
            case round =>
              obtain ⟨j, rfl, hj, hO, hF⟩ := hrel
              obtain ⟨wq, rfl⟩ : ∃ wq : World, wq = wr := ⟨_, rfl⟩
              by_cases hjl : j < xl
              · obtain ⟨g, off', rfl⟩ := HS6.out.ptr (by decide) (by omega)
                obtain ⟨q1, q2, cur, q3, q4⟩ := hO.out g off' rfl
                have z0 := cell_row q3 (show off' + j < cur.size by omega)
                have z1 := row_free q3 (off' + j)
                clear q3
                go_wp2_with fail
                go_roundw
                case rel => exact ⟨j + 1, by go_num, by omega, hO.out.set _, hF.out.setCell ⟨off', rfl⟩ _⟩
                case measure => simp [intOf]; omega
              · obtain rfl : j = xl := by omega
                have hSq : ∀ q, (∃ off, oo = some ⟨q, off, none⟩) → wp.heap.size ≤ q ∧ q < w6.heap.size := by
                  rintro q ⟨off'', hq⟩
                  have := HO6.out q off'' hq
                  have := HzX.out
                  omega
                have HSq := Lib.hid hSq
                have hb6p := HbX.out.trans (Hb6.out.mono HbX.out.size)
                have Hb6p := Lib.hid hb6p
                clear hSq hb6p
                have y1q : wq.cell? ⟨wp.heap.size, 1, none⟩ = some (.slice xo j xc) := hF.out.cell (HF7.out.cell (Below.cell_some Hb6.out y1) (fun h => by have := hI.out.tbB; have := hI.out.hB; dsimp only at h; omega)) (by rintro ⟨off'', hq⟩; have h9 : wX.heap.size ≤ wp.heap.size := (HO6.out _ _ hq).1; have := HzX.out; omega)
                obtain ⟨hrow8, hB8⟩ := hI.out.row8 Hb6p.out HF7.out hF.out HSq.out
                rw [Hcl.out] at hrow8
                have Hrow8 := Lib.hid hrow8
                clear hrow8 y1
                go_wp2_with (first
                  | ((with_reducible refine at_slot 108 ?_); go_must (refine wpList_append_slr elemLook rfl _ _ rfl B (.slice lo 0 lc) 0 (([]:List LK).flatMap LK.cells) rfl (Hrow8.out.alloc _) (by rw [World.size_alloc]; omega) (fun _ => rfl) (some ⟨wq.heap.size, 0, none⟩) 1 1 [⟨now + tick, xo, j, xc, names⟩] rfl (sl_oneL (w := wq) (x := ⟨now + tick, xo, j, xc, names⟩)) look_one (by unfold maxLen; omega) (by omega) ?_; intro v9 w9 hrow9 hgr9; have Hrow9 := Lib.hid hrow9; have Hgr9 := Lib.hid hgr9; clear hrow9 hgr9)))
                go_roundw
                case rel => exact ⟨k + 1, ([]:List LK) ++ [⟨now + tick, xo, j, xc, names⟩], now + tick, tm7, n7, by go_num, by omega, rfl, by omega, by omega, by omega, by simp only [List.length_append, List.length_singleton]; have := Hcl.out; omega, by have h := InvT.look (x := ⟨now + tick, xo, j, xc, names⟩) hI.out Hb6p.out HF7.out HT7.out Hl7.out hF.out HSq.out (by rw [Hcl.out]; exact Hrow9.out) Hgr9.out (.inr rfl) (by dsimp only; omega) hxl HX.out; exact h⟩
                case measure => simp [intOf]; omega
          · have hpl : p < C.length := by rw [Hcl.out]; omega
            have hat : C[p].at0 = now := hlast p (by rw [Hcl.out]; exact hp)
            obtain ⟨lb, lf, rfl⟩ := HSL.out.ptr (by decide) (by omega)
            have z0 := HSL.out.flat hpl 0 _ rfl
            rw [hat, Nat.add_zero] at z0
            have hcm1 : (cl : Int) - 1 = (p : Int) := by omega
            have hpcl : p < cl := by omega
            have hlb : lb < wp.heap.size := blk z0
            clear hat hlast
            rcases (show now + tick < now ∨ now ≤ now + tick by omega) with qb | qb
            · have HR : Hid (lookOf (tmOf C.reverse) (now + tick) = 13) := hlook.trans (by rw [if_neg (by omega), if_pos ⟨fun hh => by subst hh; simp at hpl, qb⟩])
              clear hlook
              have hsX := hI.out.below.size
              go_upto_region 20 with fail
              have hbX : Below wp.heap.size wp (wp.alloc (.cells #[.int .i16 tick, .slice xo xl xc, .bool false] 31)) := (Below.refl _ _).alloc (Nat.le_refl _) _
              have y1 : (wp.alloc (.cells #[.int .i16 tick, .slice xo xl xc, .bool false] 31)).cell? ⟨wp.heap.size, 1, none⟩ = some (.slice xo xl xc) := cell_new wp _ _ 1
              have hzX : (wp.alloc (.cells #[.int .i16 tick, .slice xo xl xc, .bool false] 31)).heap.size = wp.heap.size + 1 := World.size_alloc _ _
              obtain ⟨wX, hwX⟩ : ∃ wX, (wp.alloc (.cells #[.int .i16 tick, .slice xo xl xc, .bool false] 31)) = wX := ⟨_, rfl⟩
              rw [hwX] at hbX y1 hzX ⊢
              have HbX := Lib.hid hbX
              have HzX := Lib.hid hzX
              have HXX := Lib.hid (HX.out.flatKeeps (Keeps.below (hI.out.below.trans (hbX.mono hI.out.below.size))))
              have hlx : wp.heap.size < wX.heap.size := by omega
              clear hwX hbX hzX x0 x1 x2
              go_wp2_with (first
                | ((with_reducible refine at_slot 76 ?_); go_must (refine wpList_buildSlice rfl 29 0 _ rfl [] rfl _ _ zeroStrs ?_))
                | ((with_reducible refine at_slot 79 ?_); go_must (refine wpList_append_slr elemStr rfl _ _ rfl wX.heap.size _ 0 [] rfl (World.ownsRow_made wX _ 0 (Nat.le_refl _) (by decide) rfl) (by rw [World.size_alloc]; omega) (fun _ => rfl) xo xl xc names rfl (HXX.out.flatKeeps (Keeps.below ((Below.refl wX.heap.size wX).alloc (Nat.le_refl _) (.cells #[] 9)))) s_one (by unfold maxLen; omega) (by omega) ?_; intro v14 w4 hown hgr; rw [Nat.zero_add, List.nil_append] at hown; have hb4 : Below wX.heap.size wX w4 := ((Below.refl _ wX).alloc (Nat.le_refl _) _).grown hgr (by rw [World.size_alloc]; omega) (fun k hk => by cases hk; exact Nat.le_refl _); obtain ⟨oo, oc, rfl, hso, _⟩ := SlR.of_owns hown HX.out.hlen (fun _ => rfl); have HO4 := Lib.hid (OwnS.of hown); have HS4 := Lib.hid hso; have Hb4 := Lib.hid hb4; clear hown hgr hb4 hso)))
              have hT4 := hI.out.tmr.below (HbX.out.trans (Hb4.out.mono HbX.out.size))
              have HT4 := Lib.hid hT4
              clear hT4
              refine (copy_any tb tm n' _ w4 HT4.out).mono ?_
              rintro e w5 ⟨tb', tm5, rfl, hT5, hl1, hl2, hb5⟩
              have HT5 := Lib.hid hT5
              have Hb5 := Lib.hid hb5
              have Hl1 := Lib.hid hl1
              clear hT5 hb5 hl1 hl2
              go_wp2_with fail
              refine (look_any tb' tm5 n' _ 4611686018427387904 [strQ] _ 1 1 _ (HT5.out.below ((Below.refl _ _).alloc (Nat.le_refl _) _)) sl_oneQ (by decide) HQ.out).mono ?_
              rintro e w6 ⟨rfl, _, hF6⟩
              have hb46 : Below w4.heap.size w4 w6 := (Hb5.out.alloc Hb5.out.size (.cells #[.string ⟨#[63]⟩] 9)).trans (hF6.below (by have := Hb5.out.size; simp; omega) (fun q hq => by have := Hl1.out; omega))
              have HS6 := Lib.hid (HS4.out.flatKeeps (Keeps.below hb46))
              have HO6 := Lib.hid (HO4.out.fr (Fr.of_below hb46 (fun _ => False)) (fun _ _ _ h => h))
              have HT6 := Lib.hid (HT4.out.below hb46)
              have Hb6 := Lib.hid (Hb4.out.trans (hb46.mono Hb4.out.size))
              clear hF6 hb46 HS4 HO4 HT4 Hb4 HT5 Hb5 Hl1
              go_wp2_with fail
              refine (lookErr_any tb tm n' _ (now + tick) _ w6 HT6.out (by rw [HR.out]; decide)).mono ?_
              rintro e w7 ⟨he, h67⟩
              rw [HR.out] at he
              subst he
              have HF7 : Hid (Fr (fun q => q = tb) w6 w7) := by rw [← h67]; exact Fr.refl _ _
              have H67 : Hid (Below wp.heap.size w6 w7) := by rw [← h67]; exact Below.refl _ _
              clear h67
              have hO7 := HO6.out.fr HF7.out (fun g h1 h2 hs => by have := HzX.out; have := hI.out.tbB; have := hI.out.hB; omega)
              have HO7 := Lib.hid hO7
              clear hO7
              go_wp2_with fail
              go_loopw [16, 93] (fun _ vi wr' => ∃ j : Nat, vi = .int .i64 j ∧ j ≤ xl ∧ Hid (OwnS wr' wX.heap.size 9 oo xl) ∧ Hid (Fr (fun q => ∃ off, oo = some ⟨q, off, none⟩) w7 wr')) (fun _ vi _ => xl - (intOf vi).toNat)
              case atStart => exact ⟨0, rfl, Nat.zero_le _, HO7.out, Fr.refl _ _⟩
              case round =>
                obtain ⟨j, rfl, hj, hO, hF⟩ := hrel
                obtain ⟨wq, rfl⟩ : ∃ wq : World, wq = wr := ⟨_, rfl⟩
                by_cases hjl : j < xl
                · obtain ⟨g, off', rfl⟩ := HS6.out.ptr (by decide) (by omega)
                  obtain ⟨q1, q2, cur, q3, q4⟩ := hO.out g off' rfl
                  have z0 := cell_row q3 (show off' + j < cur.size by omega)
                  have z1 := row_free q3 (off' + j)
                  clear q3
                  go_wp2_with fail
                  go_roundw
                  case rel => exact ⟨j + 1, by go_num, by omega, hO.out.set _, hF.out.setCell ⟨off', rfl⟩ _⟩
                  case measure => simp [intOf]; omega
                · obtain rfl : j = xl := by omega
                  have hSq : ∀ q, (∃ off, oo = some ⟨q, off, none⟩) → wp.heap.size ≤ q ∧ q < w6.heap.size := by
                    rintro q ⟨off'', hq⟩
                    have := HO6.out q off'' hq
                    have := HzX.out
                    omega
                  have HSq := Lib.hid hSq
                  have hb6p := HbX.out.trans (Hb6.out.mono HbX.out.size)
                  have Hb6p := Lib.hid hb6p
                  clear hSq hb6p
                  go_wp2_with fail
                  go_roundw
                  case rel => exact ⟨k + 1, C, now, tm, n', by go_num, by omega, rfl, hnow, by omega, hn', by rw [Hcl.out]; omega, hI.out.keep ((Hb6p.out.trans (H67.out)).trans (hF.out.below (by have := Hb6p.out.size; have := HF7.out.size; omega) (fun q hq => (HSq.out q hq).1)))⟩
                  case measure => simp [intOf]; omega
            · have HR : Hid (lookOf (tmOf C.reverse) (now + tick) = 0) := hlook.trans (by rw [if_neg (by omega), if_neg (fun hh => by omega)])
              clear hlook
              have hsX := hI.out.below.size
              go_upto_region 20 with fail
              have hbX : Below wp.heap.size wp (wp.alloc (.cells #[.int .i16 tick, .slice xo xl xc, .bool false] 31)) := (Below.refl _ _).alloc (Nat.le_refl _) _
              have y1 : (wp.alloc (.cells #[.int .i16 tick, .slice xo xl xc, .bool false] 31)).cell? ⟨wp.heap.size, 1, none⟩ = some (.slice xo xl xc) := cell_new wp _ _ 1
              have hzX : (wp.alloc (.cells #[.int .i16 tick, .slice xo xl xc, .bool false] 31)).heap.size = wp.heap.size + 1 := World.size_alloc _ _
              obtain ⟨wX, hwX⟩ : ∃ wX, (wp.alloc (.cells #[.int .i16 tick, .slice xo xl xc, .bool false] 31)) = wX := ⟨_, rfl⟩
              rw [hwX] at hbX y1 hzX ⊢
              have HbX := Lib.hid hbX
              have HzX := Lib.hid hzX
              have HXX := Lib.hid (HX.out.flatKeeps (Keeps.below (hI.out.below.trans (hbX.mono hI.out.below.size))))
              have hlx : wp.heap.size < wX.heap.size := by omega
              clear hwX hbX hzX x0 x1 x2
              go_wp2_with (first
                | ((with_reducible refine at_slot 76 ?_); go_must (refine wpList_buildSlice rfl 29 0 _ rfl [] rfl _ _ zeroStrs ?_))
                | ((with_reducible refine at_slot 79 ?_); go_must (refine wpList_append_slr elemStr rfl _ _ rfl wX.heap.size _ 0 [] rfl (World.ownsRow_made wX _ 0 (Nat.le_refl _) (by decide) rfl) (by rw [World.size_alloc]; omega) (fun _ => rfl) xo xl xc names rfl (HXX.out.flatKeeps (Keeps.below ((Below.refl wX.heap.size wX).alloc (Nat.le_refl _) (.cells #[] 9)))) s_one (by unfold maxLen; omega) (by omega) ?_; intro v14 w4 hown hgr; rw [Nat.zero_add, List.nil_append] at hown; have hb4 : Below wX.heap.size wX w4 := ((Below.refl _ wX).alloc (Nat.le_refl _) _).grown hgr (by rw [World.size_alloc]; omega) (fun k hk => by cases hk; exact Nat.le_refl _); obtain ⟨oo, oc, rfl, hso, _⟩ := SlR.of_owns hown HX.out.hlen (fun _ => rfl); have HO4 := Lib.hid (OwnS.of hown); have HS4 := Lib.hid hso; have Hb4 := Lib.hid hb4; clear hown hgr hb4 hso)))
              have hT4 := hI.out.tmr.below (HbX.out.trans (Hb4.out.mono HbX.out.size))
              have HT4 := Lib.hid hT4
              clear hT4
              refine (copy_any tb tm n' _ w4 HT4.out).mono ?_
              rintro e w5 ⟨tb', tm5, rfl, hT5, hl1, hl2, hb5⟩
              have HT5 := Lib.hid hT5
              have Hb5 := Lib.hid hb5
              have Hl1 := Lib.hid hl1
              clear hT5 hb5 hl1 hl2
              go_wp2_with fail
              refine (look_any tb' tm5 n' _ 4611686018427387904 [strQ] _ 1 1 _ (HT5.out.below ((Below.refl _ _).alloc (Nat.le_refl _) _)) sl_oneQ (by decide) HQ.out).mono ?_
              rintro e w6 ⟨rfl, _, hF6⟩
              have hb46 : Below w4.heap.size w4 w6 := (Hb5.out.alloc Hb5.out.size (.cells #[.string ⟨#[63]⟩] 9)).trans (hF6.below (by have := Hb5.out.size; simp; omega) (fun q hq => by have := Hl1.out; omega))
              have HS6 := Lib.hid (HS4.out.flatKeeps (Keeps.below hb46))
              have HO6 := Lib.hid (HO4.out.fr (Fr.of_below hb46 (fun _ => False)) (fun _ _ _ h => h))
              have HT6 := Lib.hid (HT4.out.below hb46)
              have Hb6 := Lib.hid (Hb4.out.trans (hb46.mono Hb4.out.size))
              clear hF6 hb46 HS4 HO4 HT4 Hb4 HT5 Hb5 Hl1
              go_wp2_with fail
              refine (look_any tb tm n' _ (now + tick) names oo xl oc w6 HT6.out HS6.out (by omega) HR.out).mono ?_
              rintro e w7 ⟨rfl, ⟨tm7, n7, hn7, hl7, hT7⟩, hF7⟩
              have HT7 := Lib.hid hT7
              have HF7 := Lib.hid hF7
              have Hl7 := Lib.hid hl7
              rw [HX.out.hlen] at hn7
              clear hT7 hF7 hl7
              have hO7 := HO6.out.fr HF7.out (fun g h1 h2 hs => by have := HzX.out; have := hI.out.tbB; have := hI.out.hB; omega)
              have HO7 := Lib.hid hO7
              clear hO7
              go_wp2_with fail
              go_loopw [16, 93] (fun _ vi wr' => ∃ j : Nat, vi = .int .i64 j ∧ j ≤ xl ∧ Hid (OwnS wr' wX.heap.size 9 oo xl) ∧ Hid (Fr (fun q => ∃ off, oo = some ⟨q, off, none⟩) w7 wr')) (fun _ vi _ => xl - (intOf vi).toNat)
              case atStart => exact ⟨0, rfl, Nat.zero_le _, HO7.out, Fr.refl _ _⟩
              case round =>
                obtain ⟨j, rfl, hj, hO, hF⟩ := hrel
                obtain ⟨wq, rfl⟩ : ∃ wq : World, wq = wr := ⟨_, rfl⟩
                by_cases hjl : j < xl
                · obtain ⟨g, off', rfl⟩ := HS6.out.ptr (by decide) (by omega)
                  obtain ⟨q1, q2, cur, q3, q4⟩ := hO.out g off' rfl
                  have z0 := cell_row q3 (show off' + j < cur.size by omega)
                  have z1 := row_free q3 (off' + j)
                  clear q3
                  go_wp2_with fail
                  go_roundw
                  case rel => exact ⟨j + 1, by go_num, by omega, hO.out.set _, hF.out.setCell ⟨off', rfl⟩ _⟩
                  case measure => simp [intOf]; omega
                · obtain rfl : j = xl := by omega
                  have hSq : ∀ q, (∃ off, oo = some ⟨q, off, none⟩) → wp.heap.size ≤ q ∧ q < w6.heap.size := by
                    rintro q ⟨off'', hq⟩
                    have := HO6.out q off'' hq
                    have := HzX.out
                    omega
                  have HSq := Lib.hid hSq
                  have hb6p := HbX.out.trans (Hb6.out.mono HbX.out.size)
                  have Hb6p := Lib.hid hb6p
                  clear hSq hb6p
                  have y1q : wq.cell? ⟨wp.heap.size, 1, none⟩ = some (.slice xo j xc) := hF.out.cell (HF7.out.cell (Below.cell_some Hb6.out y1) (fun h => by have := hI.out.tbB; have := hI.out.hB; dsimp only at h; omega)) (by rintro ⟨off'', hq⟩; have h9 : wX.heap.size ≤ wp.heap.size := (HO6.out _ _ hq).1; have := HzX.out; omega)
                  obtain ⟨hrow8, hB8⟩ := hI.out.row8 Hb6p.out HF7.out hF.out HSq.out
                  rw [Hcl.out] at hrow8
                  have Hrow8 := Lib.hid hrow8
                  clear hrow8 y1
                  go_wp2_with (first
                    | ((with_reducible refine at_slot 108 ?_); go_must (refine wpList_append_slr elemLook rfl _ _ rfl B (.slice (some ⟨lb, lf, none⟩) cl lc) cl (C.flatMap LK.cells) rfl (Hrow8.out.alloc _) (by rw [World.size_alloc]; omega) (fun _ => rfl) (some ⟨wq.heap.size, 0, none⟩) 1 1 [⟨now + tick, xo, j, xc, names⟩] rfl (sl_oneL (w := wq) (x := ⟨now + tick, xo, j, xc, names⟩)) look_one (by unfold maxLen; omega) (by omega) ?_; intro v9 w9 hrow9 hgr9; have Hrow9 := Lib.hid hrow9; have Hgr9 := Lib.hid hgr9; clear hrow9 hgr9)))
                  go_roundw
                  case rel => exact ⟨k + 1, C ++ [⟨now + tick, xo, j, xc, names⟩], now + tick, tm7, n7, by go_num, by omega, rfl, by omega, by omega, by omega, by simp only [List.length_append, List.length_singleton]; have := Hcl.out; omega, by have h := InvT.look (x := ⟨now + tick, xo, j, xc, names⟩) hI.out Hb6p.out HF7.out HT7.out Hl7.out hF.out HSq.out (by rw [Hcl.out]; exact Hrow9.out) Hgr9.out (.inl ⟨qa, qb⟩) (by dsimp only; omega) hxl HX.out; exact h⟩
                  case measure => simp [intOf]; omega
    · obtain rfl : k = n := by omega
      obtain ⟨cl, hcl⟩ : ∃ cl, C.length = cl := ⟨_, rfl⟩
      have hv8 : ∃ lo lc, u8 = .slice lo cl lc ∧ SlR (Flat LK.cells) 2 wp lo cl lc C := by
        rw [← hcl]
        obtain ⟨lo, lc, h, hS, _⟩ := SlR.of_owns hI.out.row rfl (fun _ => rfl)
        exact ⟨lo, lc, h, hS⟩
      obtain ⟨lo, lc, rfl, hSL⟩ := hv8
      have HSL := Lib.hid hSL
      have hlm := hSL.hmax
      have hlc := hSL.hcap
      unfold maxLen at hlm
      have hcln := C_nil_or C
      rw [hcl] at hCk hcln
      have Hcl := Lib.hid hcl
      clear hSL hcl
      rcases hcln with hC0 | ⟨p, hp⟩
      · subst hC0
        obtain rfl : cl = 0 := Hcl.out.symm
        go_wp2_with fail
        refine (ripe_any tb tm n' Tm.zero 4611686018427387904 0 wp hI.out.tmr (by omega) (fun s v h => by cases h) (by omega)).mono ?_
        rintro e w5 ⟨v, xs, rfl, hK, hxl, hown, hb⟩
        have hx0 : xs = [] := List.map_eq_nil_iff.1 (sorted_none hK (fun s => rfl))
        subst hx0
        obtain ⟨so, sc, rfl, hS, _⟩ := SlR.of_owns (n := 0) hown rfl (fun _ => rfl)
        have Hb := Lib.hid hb
        clear hown hb hK hxl hS
        go_wp2_with fail
        go_ret
        exact ⟨rfl, hI.out.below.trans (Hb.out.mono hI.out.below.size)⟩
      have hpl : p < C.length := by rw [Hcl.out]; omega
      obtain ⟨lb, lf, rfl⟩ := HSL.out.ptr (by decide) (by omega)
      have hat : C[p].at0 = now := hI.out.last p (by rw [Hcl.out]; exact hp)
      have hne : C ≠ [] := fun hh => by subst hh; simp at hpl
      have hgl : C.getLast hne = C[p] := by rw [List.getLast_eq_getElem]; congr 1; have := Hcl.out; omega
      have hgood := hI.out.good C[p] (List.getElem_mem hpl)
      have hsome := sinceR_some hne
      rw [hgl] at hsome
      have hbd := sinceR_bd (L := C.reverse) (a := 0) (b := now) (fun l hl => let h := hI.out.good l (List.mem_reverse.1 hl); ⟨h.1, h.2.1⟩)
      have z1 := HSL.out.flat hpl 1 _ rfl
      obtain ⟨x, hx⟩ : ∃ x, C[p] = x := ⟨_, rfl⟩
      rw [hx] at hat hgood hsome z1
      obtain ⟨xat, xo, xl, xc, names⟩ := x
      dsimp only at hat hgood hsome z1
      obtain ⟨-, -, hxl, hxS⟩ := hgood
      have hxS2 := hxS.flatKeeps (Keeps.below hI.out.below)
      have hxm := hxS.hmax
      have hxc := hxS.hcap
      unfold maxLen at hxm
      have Hsome := Lib.hid hsome
      have Hbd := Lib.hid hbd
      have HxS := Lib.hid hxS2
      have HxL := Lib.hid hxS.hlen
      have Hx := Lib.hid hx
      have hcm1 : (cl : Int) - 1 = (p : Int) := by omega
      have hpcl : p < cl := by omega
      have hmore : now + more ≤ 9223372036854775807 := by omega
      clear hsome hbd hxS hxS2 hat hne hgl hx
      go_wp2_with fail
      refine (ripe_any tb tm n' _ (now + more) wait wp hI.out.tmr (by omega) (fun s v h => by rw [tmOf_f] at h; exact (Hbd.out s v h).1) hmore).mono ?_
      obtain ⟨fin, hfin⟩ : ∃ fin, now + more = fin := ⟨_, rfl⟩
      rw [hfin]
      rintro e w5 ⟨v, xs, rfl, hK, hxsl, hown, hb⟩
      rw [tmOf_f] at hK hown
      obtain ⟨ys, hys⟩ : ∃ ys, xs.filter (ripeB (sinceR C.reverse) fin wait) = ys := ⟨_, rfl⟩
      rw [hys] at hown
      obtain ⟨yl, hyl⟩ : ∃ yl, ys.length = yl := ⟨_, rfl⟩
      rw [hyl] at hown
      obtain ⟨yo, yc, rfl, hSy, _⟩ := SlR.of_owns hown hyl (fun _ => rfl)
      have hym := hSy.hmax
      have hyc := hSy.hcap
      unfold maxLen at hym
      have HK := Lib.hid hK
      have HSy := Lib.hid hSy
      have Hys := Lib.hid hys
      have Hyl := Lib.hid hyl
      have HT5 := Lib.hid (hI.out.tmr.below hb)
      have HSL5 := Lib.hid (HSL.out.flatKeeps (Keeps.below hb))
      have HxS5 := Lib.hid (HxS.out.flatKeeps (Keeps.below hb))
      have HB5 := Lib.hid (hI.out.below.trans (hb.mono hI.out.below.size))
      have zz1 := Below.cell_some hb z1
      have hlb5 : lb < w5.heap.size := blk zz1
      have hfn : now ≤ fin := by omega
      have hfm : fin ≤ 9223372036854775807 := by omega
      have Hfin := Lib.hid hfin
      clear hK hown hb hxsl hSy hys hyl z1 hfin HSL HxS hmore
      go_wp2_with fail
      go_loopw [20, 23, 24, 25, 26, 27, 28, 135] (fun v20 _ _ _ _ _ _ vi wr => ∃ (k cn k' : Nat), vi = .int .i64 k ∧ k ≤ xl ∧ v20 = .int .i64 cn ∧ cn ≤ k ∧ k' ≤ k ∧ Hid (cn = cntR (ripeB (sinceR C.reverse) fin wait) xs ((names.take k).map SStr.key)) ∧ Hid (StrMap Value.bool wr Try.prog 9 w5.heap.size k' (seenF ((names.take k).map SStr.key))) ∧ Hid (Below w5.heap.size w5 wr)) (fun _ _ _ _ _ _ _ vi _ => xl - (intOf vi).toNat)
      case atStart => exact ⟨0, 0, 0, rfl, Nat.zero_le _, rfl, Nat.le_refl _, Nat.le_refl _, (cntR_nil _ _).symm, by rw [List.take_zero, List.map_nil, seenF_nil]; exact StrMap.made _ _ _ _, (Below.refl _ _).alloc (Nat.le_refl _) _⟩
      case round =>
        obtain ⟨k, cn, k', rfl, hk, rfl, hcn, hk', hCn, hMq, hB⟩ := hrel
        obtain ⟨wq, rfl⟩ : ∃ wq : World, wq = wr := ⟨_, rfl⟩
        have Hb5q := hB
        by_cases hkl : k < xl
        · obtain ⟨nb, nf, rfl⟩ := HxS5.out.ptr (by decide) (by omega)
          have kx : k < names.length := by rw [HxL.out]; exact hkl
          have ha := (HxS5.out.flatKeeps (Keeps.below hB.out)).flat kx
          have htk : (names.take (k + 1)).map SStr.key = (names.take k).map SStr.key ++ [names[k].key] := by
            rw [List.take_succ_eq_append_getElem kx, List.map_append]; rfl
          have hin : names[k].key ∈ names.map SStr.key := List.mem_map_of_mem (List.getElem_mem kx)
          obtain ⟨s, hs⟩ : ∃ s, names[k] = s := ⟨_, rfl⟩
          rw [hs] at ha htk hin
          have s0 := ha 0 _ rfl
          rw [Nat.add_zero, Nat.mul_one] at s0
          have HKy := Lib.hid (strKey s.2)
          obtain ⟨A, hA⟩ : ∃ A, (names.take k).map SStr.key = A := ⟨_, rfl⟩
          rw [hA] at htk hCn hMq
          have Htk := Lib.hid htk
          have Hin := Lib.hid hin
          have HV := Lib.hid (seenF_get A s.key)
          have HCn := hCn
          have HMq := hMq
          clear ha htk hin hs hA hCn hMq kx
          by_cases hsn : s.key ∈ A
          · have HV1 : Hid ((byStr Value.bool (seenF A) (.string s.key)).getD (.bool false) = .bool true) := by show _ = _; rw [HV.out, decide_eq_true hsn]
            have Hsn := Lib.hid hsn
            have hfs : Hid (seenF (A ++ [s.key]) = seenF A) := by
              show _ = _
              funext q
              unfold seenF
              by_cases hq : q ∈ A
              · rw [if_pos hq, if_pos (List.mem_append_left _ hq)]
              · rw [if_neg hq, if_neg]
                intro hh
                rcases List.mem_append.1 hh with h1 | h1
                · exact hq h1
                · rw [List.mem_singleton.1 h1] at hq; exact hq Hsn.out
            clear hsn
            go_wp2_with (at_lookup; go_must (refine wpList_look _ rfl _ _ 38 rfl 9 4 strKeyed Try.underlying38 (zeroBool _) w5.heap.size k' _ rfl HMq.out _ _ rfl HKy.out (.bool true) HV1.out ?_))
            go_roundw
            case rel => exact ⟨k + 1, cn, k', by go_num, by omega, rfl, by omega, by omega, by rw [Htk.out, cntR_seen _ _ Hsn.out]; exact HCn.out, by rw [Htk.out, hfs.out]; exact HMq.out, Hb5q.out⟩
            case measure => simp [intOf]; omega
          · have HV0 : Hid ((byStr Value.bool (seenF A) (.string s.key)).getD (.bool false) = .bool false) := by show _ = _; rw [HV.out, decide_eq_false hsn]
            have Hsn := Lib.hid hsn
            have hiss : (sinceR C.reverse s.key).isSome = true := by rw [Hsome.out]; exact decide_eq_true Hin.out
            obtain ⟨T, hTs⟩ := Option.isSome_iff_exists.1 hiss
            obtain ⟨hT0, hT1⟩ := Hbd.out _ _ hTs
            have HTs := Lib.hid hTs
            clear hsn hiss hTs
            go_wp2_with (first
              | (at_lookup; go_must (refine wpList_look _ rfl _ _ 38 rfl 9 4 strKeyed Try.underlying38 (zeroBool _) w5.heap.size k' _ rfl HMq.out _ _ rfl HKy.out (.bool false) HV0.out ?_))
              | (at_mapUpdate; go_must (refine wpList_map_store _ rfl _ _ _ 38 rfl 9 4 strKeyed Try.underlying38 w5.heap.size k' _ rfl HMq.out (by unfold maxLen; omega) _ (.bool true) _ rfl rfl HKy.out _ rfl ?_; intro w7 hM7 hT7; have HM7 := Lib.hid hM7; have HT7 := Lib.hid (Fr.turned (fun j => j = w5.heap.size) hT7 rfl); clear hM7 hT7)))
            have hB7 : Below w5.heap.size w5 w7 := Hb5q.out.trans (HT7.out.below Hb5q.out.size (fun j hj => by have : j = w5.heap.size := hj; omega))
            have HB7 := Lib.hid hB7
            have HSL7 := Lib.hid (HSL5.out.flatKeeps (Keeps.below hB7))
            have hlb7 : lb < w7.heap.size := Nat.lt_of_lt_of_le hlb5 hB7.size
            have hinx : s.key ∈ xs.map SStr.key := (HK.out.2 _).2 (show (sinceR C.reverse s.key).isSome = true by rw [HTs.out]; rfl)
            have hrs : ripeB (sinceR C.reverse) fin wait s = decide (max wait 0 ≤ fin - T) := by
              unfold ripeB
              rw [HTs.out]
              dsimp only [Option.getD]
              rw [decide_eq_true (show T ≤ fin by omega), Bool.true_and]
            have hhas : hasB ys s = decide (max wait 0 ≤ fin - T) := by
              rw [← Hys.out, hasB_filter _ (ripe_key _ _ _), hrs]
              unfold hasB
              rw [decide_eq_true hinx, Bool.true_and]
            have hcnt := cntR_new (ripeB (sinceR C.reverse) fin wait) (ripe_key _ _ _) s A Hsn.out xs (sk_nodup HK.out) hinx
            rw [hrs] at hcnt
            have Hhas := Lib.hid hhas
            have Hcnt := Lib.hid hcnt
            have hM8 := HM7.out
            rw [fset_byStr Value.bool, seenF_snoc] at hM8
            have HM8 := Lib.hid hM8
            clear hB7 hinx hrs hhas hcnt hM8 HM7 HT7 HMq HV0 HV Hb5q
            go_loopw [24, 25] (fun v24 vi wr => ∃ (j : Nat) (i f : Int), vi = .int .i64 i ∧ i + 1 = (j : Int) ∧ j ≤ cl ∧ v24 = .int .i64 f ∧ Hid ((sinceR (C.take j).reverse s.key).getD f = T) ∧ w7 = wr) (fun _ vi _ => (intOf vi + 1).toNat)
            case atStart => exact ⟨cl, _, now, rfl, by omega, Nat.le_refl _, rfl, by rw [List.take_of_length_le (by rw [Hcl.out]; exact Nat.le_refl _), HTs.out]; exact rfl, rfl⟩
            case round =>
              obtain ⟨j, i, f, rfl, hij, hj, rfl, hf, rfl⟩ := hrel
              rcases (show j = 0 ∨ ∃ q, j = q + 1 by cases j with | zero => exact .inl rfl | succ q => exact .inr ⟨q, rfl⟩) with rfl | ⟨q, rfl⟩
              · obtain rfl : i = -1 := by omega
                obtain rfl : f = T := by
                  have := hf.out
                  rw [List.take_zero] at this
                  exact this
                clear hf
                go_wp2_with fail
                refine (since_any tb tm n' _ s _ (HT5.out.below HB7.out)).mono ?_
                rintro e w8 ⟨he, rfl⟩
                rw [tmOf_f, HTs.out] at he
                dsimp only [Option.getD, Option.isSome] at he
                subst he
                have HSy7 := Lib.hid (HSy.out.flatKeeps (Keeps.below HB7.out))
                rcases (show max wait 0 ≤ fin - f ∨ ¬ max wait 0 ≤ fin - f from Decidable.em _) with hr | hr
                · have hd := decide_eq_true hr
                  rw [hd] at Hhas Hcnt
                  clear hr
                  go_wp2_with fail
                  refine (has_any ys _ _ _ s _ HSy7.out).mono ?_
                  rintro e w9 ⟨he, rfl⟩
                  rw [Hhas.out] at he
                  subst he
                  go_wp2_with fail
                  go_roundw
                  case rel =>
                    refine ⟨k + 1, cn + 1, _, by go_num, by omega, by first | rfl | go_num, by omega, ?_, ?_, by rw [Htk.out]; exact HM8.out, HB7.out⟩
                    · split <;> omega
                    · show _ = _
                      rw [Htk.out, Hcnt.out, ← HCn.out]
                      rfl
                  case measure => simp [intOf]; omega
                · have hd := decide_eq_false hr
                  rw [hd] at Hhas Hcnt
                  clear hr
                  go_wp2_with fail
                  refine (has_any ys _ _ _ s _ HSy7.out).mono ?_
                  rintro e w9 ⟨he, rfl⟩
                  rw [Hhas.out] at he
                  subst he
                  go_wp2_with fail
                  go_roundw
                  case rel =>
                    refine ⟨k + 1, cn, _, by go_num, by omega, by first | rfl | go_num, by omega, ?_, ?_, by rw [Htk.out]; exact HM8.out, HB7.out⟩
                    · split <;> omega
                    · show _ = _
                      rw [Htk.out, Hcnt.out, ← HCn.out]
                      rfl
                  case measure => simp [intOf]; omega
              · obtain rfl : i = (q : Int) := by omega
                have hq : q < C.length := by rw [Hcl.out]; omega
                have e0 := HSL7.out.flat hq 0 _ rfl
                have e1 := HSL7.out.flat hq 1 _ rfl
                have hgd := (hI.out.good _ (List.getElem_mem hq)).2.2.2
                have hbk := sinceR_back C hq s.key f
                rw [hf.out] at hbk
                obtain ⟨y, hy⟩ : ∃ y, C[q] = y := ⟨_, rfl⟩
                rw [hy] at e0 e1 hgd hbk
                obtain ⟨yat, yao, yln, ycap, ynames⟩ := y
                dsimp only at e0 e1 hgd hbk
                rw [Nat.add_zero] at e0
                have hqc : q < cl := by omega
                have HG := Lib.hid (hgd.flatKeeps (Keeps.below (HB5.out.trans (HB7.out.mono HB5.out.size))))
                have Hbk := Lib.hid hbk
                have hhy : hasB ynames s = decide (s.key ∈ (⟨yat, yao, yln, ycap, ynames⟩ : LK).keys) := rfl
                have Hhy := Lib.hid hhy
                clear hgd hbk hy hq hhy
                by_cases hm : s.key ∈ (⟨yat, yao, yln, ycap, ynames⟩ : LK).keys
                · have hb1 := Hbk.out.1 hm
                  rw [decide_eq_true hm] at Hhy
                  have Hb1 := Lib.hid hb1
                  clear hm hb1 Hbk hf
                  go_wp2_with fail
                  refine (has_any ynames _ _ _ s _ HG.out).mono ?_
                  rintro e w8 ⟨he, rfl⟩
                  rw [Hhy.out] at he
                  subst he
                  go_wp2_with fail
                  go_roundw
                  case rel => exact ⟨q, (q : Int) - 1, yat, by first | rfl | go_num, by omega, by omega, rfl, Hb1.out.symm, by first | exact rfl | trivial⟩
                  case measure => simp [intOf]
                · have hb1 := Hbk.out.2 hm
                  rw [decide_eq_false hm] at Hhy
                  obtain rfl : f = T := hb1.symm
                  clear hm hb1 Hbk hf
                  go_wp2_with fail
                  refine (has_any ynames _ _ _ s _ HG.out).mono ?_
                  rintro e w8 ⟨he, rfl⟩
                  rw [Hhy.out] at he
                  subst he
                  go_wp2_with fail
                  refine (since_any tb tm n' _ s _ (HT5.out.below HB7.out)).mono ?_
                  rintro e w8 ⟨he, rfl⟩
                  rw [tmOf_f, HTs.out] at he
                  dsimp only [Option.getD, Option.isSome] at he
                  subst he
                  have HSy7 := Lib.hid (HSy.out.flatKeeps (Keeps.below HB7.out))
                  rcases (show max wait 0 ≤ fin - f ∨ ¬ max wait 0 ≤ fin - f from Decidable.em _) with hr | hr
                  · have hd := decide_eq_true hr
                    rw [hd] at Hhas Hcnt
                    clear hr
                    go_wp2_with fail
                    refine (has_any ys _ _ _ s _ HSy7.out).mono ?_
                    rintro e w9 ⟨he, rfl⟩
                    rw [Hhas.out] at he
                    subst he
                    go_wp2_with fail
                    go_roundw
                    case rel =>
                      refine ⟨k + 1, cn + 1, _, by go_num, by omega, by first | rfl | go_num, by omega, ?_, ?_, by rw [Htk.out]; exact HM8.out, HB7.out⟩
                      · split <;> omega
                      · show _ = _
                        rw [Htk.out, Hcnt.out, ← HCn.out]
                        rfl
                    case measure => simp [intOf]; omega
                  · have hd := decide_eq_false hr
                    rw [hd] at Hhas Hcnt
                    clear hr
                    go_wp2_with fail
                    refine (has_any ys _ _ _ s _ HSy7.out).mono ?_
                    rintro e w9 ⟨he, rfl⟩
                    rw [Hhas.out] at he
                    subst he
                    go_wp2_with fail
                    go_roundw
                    case rel =>
                      refine ⟨k + 1, cn, _, by go_num, by omega, by first | rfl | go_num, by omega, ?_, ?_, by rw [Htk.out]; exact HM8.out, HB7.out⟩
                      · split <;> omega
                      · show _ = _
                        rw [Htk.out, Hcnt.out, ← HCn.out]
                        rfl
                    case measure => simp [intOf]; omega
        · obtain rfl : k = xl := by omega
          have htk : names.take k = names := List.take_of_length_le (by rw [HxL.out]; exact Nat.le_refl _)
          have hC2 := hCn.out
          have hM2 := hMq.out
          rw [htk] at hC2 hM2
          have hall : ∀ y ∈ xs, y.key ∈ names.map SStr.key := fun y hy => of_decide_eq_true ((Hsome.out y.key).symm.trans ((HK.out.2 _).1 (List.mem_map_of_mem hy)))
          rw [cntR_all _ _ _ hall, Hys.out, Hyl.out] at hC2
          clear hall
          subst hC2
          have HM2 := Lib.hid hM2
          clear htk hM2 hCn hMq
          go_wp2_with fail
          go_loopw [29] (fun vi wr => ∃ i : Nat, vi = .int .i64 i ∧ 1 ≤ i ∧ i ≤ cn + 1 ∧ Hid (wr.heap = wq.heap ∧ Below w5.heap.size w5 wr)) (fun vi _ => cn + 1 - (intOf vi).toNat)
          case atStart => exact ⟨1, rfl, by omega, by omega, ⟨rfl, Hb5q.out⟩⟩
          case round =>
            obtain ⟨i, rfl, hi1, hi2, hD⟩ := hrel
            obtain ⟨hm, hbD⟩ := hD.out
            have HbD := Lib.hid hbD
            by_cases hil : i < cn
            · obtain ⟨q, rfl⟩ : ∃ q, i = q + 1 := ⟨i - 1, by omega⟩
              obtain ⟨yb, yf, rfl⟩ := HSy.out.ptr (by decide) (by omega)
              have hk5 : Keeps w5 wr := Keeps.below hbD
              have hfl := (HSy.out.flatKeeps hk5)
              have q1 : q < ys.length := by rw [Hyl.out]; omega
              have q2 : q + 1 < ys.length := by rw [Hyl.out]; omega
              have e0 := hfl.flat q1 0 _ rfl
              have e1 := hfl.flat q2 0 _ rfl
              have hls := sk_less HK.out (ripeB (sinceR C.reverse) fin wait) (Nat.lt_succ_self q) (by rw [Hys.out]; exact q2)
              simp only [Hys.out] at hls
              obtain ⟨y0, hy0⟩ : ∃ y, ys[q] = y := ⟨_, rfl⟩
              obtain ⟨y1, hy1⟩ : ∃ y, ys[q + 1] = y := ⟨_, rfl⟩
              rw [hy0] at e0 hls
              rw [hy1] at e1 hls
              rw [Nat.add_zero, Nat.mul_one] at e0 e1
              have f1 : IntKind.i64.wrap (((q + 1 : Nat) : Int) - 1) = (q : Int) := by rw [IntWalk.i64_in _ (by omega)]; omega
              have f2 : q < cn := by omega
              have HDm := Lib.hid hm
              clear hy0 hy1 hfl hk5 q1 q2 hm hbD
              go_wp2_with fail
              go_quiet (fail)
              go_wp2_with fail
              go_roundw
              case rel => exact ⟨q + 2, by go_num, by omega, by omega, ⟨HDm.out, drewN_below HbD.out _⟩⟩
              case measure => simp [intOf]; omega
            · have HM3 := Lib.hid (MapIs.same HM2.out (w' := wr) (by rw [hm]))
              have hsn := Hsome.out strNT.key
              have hget := seenF_get (names.map SStr.key) strNT.key
              obtain ⟨q, hq⟩ : ∃ q, (sinceR C.reverse strNT.key) = q := ⟨_, rfl⟩
              rw [hq] at hsn
              have hsn2 : q.isSome = decide (strNT.key ∈ names.map SStr.key) := hsn
              obtain ⟨bq, hbq⟩ : ∃ bq, decide (strNT.key ∈ names.map SStr.key) = bq := ⟨_, rfl⟩
              rw [hbq] at hsn2 hget
              have Hsn := Lib.hid hsn2
              have Hget := Lib.hid hget
              have Hq := Lib.hid hq
              have HKn := Lib.hid (strKey strNT.2)
              clear hsn hget hq hbq hsn2 hm hbD
              go_wp2_with fail
              refine (since_any tb tm n' _ strNT _ (HT5.out.below HbD.out)).mono ?_
              rintro e w8 ⟨he, rfl⟩
              rw [tmOf_f, Hq.out, Hsn.out] at he
              subst he
              go_wp2_with ((with_reducible refine at_slot 224 ?_); go_must (refine wpList_look_g _ rfl _ _ 38 rfl 9 4 strKeyed Try.underlying38 (zeroBool _) w5.heap.size k' _ rfl HM3.out _ _ rfl HKn.out (.bool bq) Hget.out ?_))
              go_ret
              exact ⟨ret_bool (by simp), HB5.out.trans (HbD.out.mono HB5.out.size)⟩

theorem IdleTimers_holds : Rows.IdleTimersSaid := lIdleTimers.over fun ao n cap wait more w h0 _ h2 => by
  obtain ⟨_, _, _, ls, e0, hS⟩ := SlR.of_rel h0 (fun c hc => lk27_of w c hc)
  simp [Value.cells] at e0
  obtain ⟨rfl, rfl, rfl⟩ := e0
  obtain ⟨m, hm, hw⟩ := h2
  simp [Value.cells] at hm
  subst hm
  simp [Lit.wf, IntKind.min, IntKind.max, IntKind.signed, IntKind.bits] at hw
  exact idleTimers_core ls _ _ _ wait more w hS (by omega) (by omega)
end Go.Proofs.Ytlokeeejemndfaa
