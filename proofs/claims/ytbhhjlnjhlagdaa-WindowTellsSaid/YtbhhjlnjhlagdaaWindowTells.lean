/- WindowTells holds: for every input the law returns true. No condition. -/
import Derived.Test.YtbhhjlnjhlagdaaWindowTellsLift
import Derived.Test.YtbhhjlnjhlagdaaWindowHolds
import Derived.Test.YtbhhjlnjhlagdaaWindowTicks
import Derived.WalkArith
namespace Go.Proofs.Ytbhhjlnjhlagdaa
open Go.ChangeShapes Go.WideShapes Go.ChangeAt Go.RowKit Go.Deep Go.Maps

theorem tickKeyed : Keyed Try.prog 2 := int_keyed Try.underlying2

set_option maxRecDepth 100000 in
set_option maxHeartbeats 4000000 in
theorem windowTells_core (ls : List LNote) (ao : Option Addr) (n cap : Nat) (now there up down : Int) (w : World) (hnw : now ≤ 9223372036854775807) (hS : SlR (Flat LNote.cells) 2 w ao n cap ls) :
    Calls Try.prog 10 #[.slice ao n cap, .int .i64 now, .int .i64 there, .int .i64 up, .int .i64 down] w fun e w' => e = .returned (.bool true) ∧ Below w.heap.size w w' := by
  have hmm := @run_makeMap Try.prog
  go_enter Try.func10, Try.ntmps10
  go_wp2_with fail
  refine (lives21 w).mono ?_
  rintro e w1 ⟨rfl, hb1⟩
  by_cases hn : 100 < n
  · have hd : decide ((100 : Int) < (n : Int)) = true := decide_eq_true (by omega)
    have H1 := Lib.hid hb1
    clear hb1
    go_wp2_with fail
    refine (lives21 _).mono ?_
    rintro e w2 ⟨rfl, hb2⟩
    have H2 := Lib.hid (H1.out.trans (hb2.mono H1.out.size))
    clear hb2
    go_wp2_with fail
    go_ret
    exact ⟨rfl, H2.out⟩
  · have hd : decide ((100 : Int) < (n : Int)) = false := decide_eq_false (by omega)
    have hn' : n ≤ 100 := by omega
    clear hn
    have hS := hS.flatKeeps (Keeps.below hb1)
    have H1 := Lib.hid hb1
    clear hb1
    go_wp2_with fail
    refine (new_any w1).mono ?_
    rintro e w2 ⟨rfl, rfl⟩
    have hb2 : Below w1.heap.size w1 (w1.alloc (.cells #[.slice none 0 0] 138)) := (Below.refl _ _).alloc (Nat.le_refl _) _
    have HK := Lib.hid (kept_any w1.heap.size (.slice none 0 0) ls ao n cap w1 _ hS hb2 hn' (memAt_new w1))
    clear hS hb2
    go_wp2_with fail
    refine HK.out.mono ?_
    rintro e w3 ⟨al, nl, cl, v', xs, rfl, hM, hAt, hxl, hSL, hb3⟩
    obtain ⟨out, ho⟩ : ∃ out, ls.foldl accept [] = out := ⟨_, rfl⟩
    rw [ho] at hM hSL
    have H3 := Lib.hid (H1.out.trans (hb3.mono H1.out.size))
    have HM := Lib.hid hM
    clear ho hb3 HK
    have HC := Lib.hid (copy_any w1.heap.size w1.heap.size v' xs w3 hAt (by omega))
    go_wp2_with fail
    refine HC.out.mono ?_
    rintro e w4 ⟨mb', v2, rfl, hAt2, hb4⟩
    have HN := Lib.hid (note_any w3.heap.size mb' v2 xs 4611686018427387904 9 w4 hAt2 hb4.size (by omega))
    clear HC
    go_wp2_with fail
    refine HN.out.mono ?_
    rintro e w5 ⟨rfl, v3, _, hF, _⟩
    have hb5 : Below w3.heap.size w3 w5 := hb4.trans (hF.below hb4.size (fun k hk => (hAt2.lt hk).2))
    have H5 := Lib.hid hb5
    have hSL5 := hSL.flatKeeps (Keeps.below hb5)
    have hAt5 := Lib.hid (hAt.fr (Fr.of_below hb5 (fun _ => False)) (fun _ _ h => h))
    have HM2 := Lib.hid hM
    clear HN hF hAt2 hb4 hb5 hAt hSL hM HM
    have hnl := Lib.hid hSL5.hlen
    have hcm := hSL5.hmax
    have hlc := hSL5.hcap
    unfold maxLen at hcm
    go_wp2_with fail
    go_loopw [53] (fun i wr => ∃ (k : Nat) (D : DataW Unit), k ≤ nl ∧ i = .int .i64 k ∧ Hid (Ticks D ((leftOf out).take k) ∧ wr.ownsMap Try.prog 2 (plainElem (H := Unit) Try.prog 4) w5.heap.size k D) ∧ Below w5.heap.size w5 wr) (fun i _ => nl - (intOf i).toNat)
    case atStart => exact ⟨0, .map [], Nat.zero_le _, rfl, ⟨Ticks.nil, World.ownsMap_made _ _ _ _⟩, (Below.refl _ _).alloc (Nat.le_refl _) _⟩
    case round =>
      obtain ⟨k, D, hk, rfl, hI, hb6⟩ := hrel
      by_cases hlt : k < nl
      · obtain ⟨b, off, rfl⟩ := hSL5.ptr (by decide) (by omega)
        have kx : k < (leftOf out).length := by rw [hnl.out]; exact hlt
        have hc := (hSL5.flatKeeps (Keeps.below hb6)).flat kx
        have c1 := hc 0 _ rfl
        have c2 := hc 1 _ rfl
        rw [Nat.add_zero] at c1
        have hg := HM2.out.good _ (List.mem_filter.1 (List.getElem_mem kx)).1
        have hT := Lib.hid (hI.out.1.put (leftOf out)[k] (.lit (.bool true)))
        have hts := Lib.hid (List.take_succ_eq_append_getElem kx)
        rw [← hts.out] at hT
        obtain ⟨x, hx⟩ : ∃ x, (leftOf out)[k] = x := ⟨_, rfl⟩
        rw [hx] at c1 c2 hg hT
        obtain ⟨a, q⟩ := x
        dsimp only at c1 c2 hg hT
        have Hb := Lib.hid hb6
        have hsz := hb6.size
        obtain ⟨wp, rfl⟩ : ∃ wp : World, wp = wr := ⟨_, rfl⟩
        have hkey : keyOf Try.prog 2 (.int .i64 a) = some (.int .i64 a) := keyOf_int_mk Try.underlying2 (WalkArith.wf_i64 (by omega))
        clear hc hx hb6 hts
        go_wp2_with (at_mapUpdate; go_must (refine wpList_mapUpdate_own _ rfl _ _ _ 67 rfl 2 4 tickKeyed Try.underlying67 _ w5.heap.size k _ rfl (by exact hI.out.2.alloc _) (by unfold maxLen; omega) _ _ _ rfl rfl hkey _ [] (plainElem_bool Try.underlying4 true) ?_; intro w6 hown6 hgrow6))
        go_roundw
        case rel => exact ⟨k + 1, _, by omega, by go_num, ⟨hT.out, hown6⟩, (Hb.out.alloc Hb.out.size _).grown hgrow6 (by rw [World.size_alloc]; omega) (fun j hj => by cases hj; exact Nat.le_refl _)⟩
        case measure => simp [intOf]; omega
      · have hkn : k = nl := by omega
        have ht : (leftOf out).take k = leftOf out := List.take_of_length_le (by rw [hnl.out]; omega)
        have hTk := hI.out.1
        rw [ht] at hTk
        have hsz := hTk.size HM2.out
        obtain ⟨m, hm⟩ : ∃ m, xs.length = m := ⟨_, rfl⟩
        have HAt := Lib.hid (hAt5.out.fr (Fr.of_below hb6 (fun _ => False)) (fun _ _ h => h))
        have HL := Lib.hid (len_any w1.heap.size w1.heap.size v' xs wr HAt.out)
        have Hown := Lib.hid hI.out.2
        rw [hm] at HL hsz
        have Hsz := Lib.hid hsz
        have Hb6 := Lib.hid hb6
        have hmm2 : (((m : Nat) : Int) == (m : Int)) = true := by simp
        clear hm hsz hTk ht hkn hb6 hI
        obtain ⟨wq, rfl⟩ : ∃ wq : World, wq = wr := ⟨_, rfl⟩
        go_wp2_with fail
        refine HL.out.mono ?_
        rintro e w7 ⟨rfl, rfl⟩
        go_upto_region 17 with (at_len; go_must (refine wpList_len_own _ rfl _ 67 rfl 2 4 Try.underlying67 (plainElem (H := Unit) Try.prog 4) w5.heap.size k D rfl Hown.out ?_; rw [Hsz.out]))
        have H7 := Lib.hid (H3.out.trans ((H5.out.trans (Hb6.out.mono H5.out.size)).mono H3.out.size))
        by_cases hneg : now < 0
        · go_wp2_with fail
          go_ret
          exact ⟨rfl, H7.out⟩
        · have h0 : ∀ x ∈ xs, 0 ≤ x.at_ := fun x hx => by obtain ⟨y, hy, e, _⟩ := (HM2.out.stays hx).1; have := HM2.out.good y (List.mem_filter.1 hy).1; omega
          have h0' : ∀ x ∈ leftOf out, 0 ≤ x.at_ := fun x hx => (HM2.out.good x (List.mem_filter.1 hx).1).1
          have HW : Hid (∀ wx win, Below w7.heap.size w7 wx → _) := fun wx win hb => within3_any (leftOf out) _ nl cl now win wx ((hSL5.flatKeeps (Keeps.below Hb6.out)).flatKeeps (Keeps.below hb)) hnw h0'
          have HLe : Hid (∀ wx, Below w7.heap.size w7 wx → _) := fun wx hb => least_any w1.heap.size w1.heap.size v' xs now up wx (HAt.out.fr (Fr.of_below hb (fun _ => False)) (fun _ _ h => h)) (by omega) hnw h0
          have HGr : Hid (∀ wx, Below w7.heap.size w7 wx → _) := fun wx hb => greatest_any w1.heap.size w1.heap.size v' xs now down wx (HAt.out.fr (Fr.of_below hb (fun _ => False)) (fun _ _ h => h)) (by omega) hnw h0
          have HX : Hid (∀ wx, Below w7.heap.size w7 wx → _) := fun wx hb => stable_any w1.heap.size w1.heap.size v' xs now there up down wx (HAt.out.fr (Fr.of_below hb (fun _ => False)) (fun _ _ h => h)) (by omega) hnw h0
          have HL1 := Lib.hid (least_same HM2.out now (spanOf up))
          have HG1 := Lib.hid (greatest_same HM2.out now (spanOf down))
          have HST := Lib.hid (stable_same HM2.out now there up down)
          have Hz1 : Hid (_ → _) := within_none (now := now) (wv := spanOf up) (l := leftOf out)
          have Hz2 : Hid (_ → _) := within_none (now := now) (wv := spanOf down) (l := leftOf out)
          obtain ⟨p1, hp1⟩ : ∃ p, withinOf now (spanOf up) (leftOf out) = p := ⟨_, rfl⟩
          obtain ⟨p2, hp2⟩ : ∃ p, withinOf now (spanOf down) (leftOf out) = p := ⟨_, rfl⟩
          have Hp1 := Lib.hid hp1
          have Hp2 := Lib.hid hp2
          rw [hp1] at HL1 HST Hz1
          rw [hp2] at HG1 HST Hz2
          obtain ⟨lo1, hi1, s1⟩ := p1
          obtain ⟨lo2, hi2, s2⟩ := p2
          dsimp only at HL1 HG1 HST Hz1 Hz2
          obtain ⟨st, hst⟩ : ∃ st, stableOf xs now there up down = st := ⟨_, rfl⟩
          rw [hst] at HST HX
          clear hp1 hp2 hst h0 h0'
          go_wp2_with fail
          refine (HW.out w7 up (Below.refl _ _)).mono ?_
          rintro e w8 ⟨rfl, hb8⟩
          rw [Hp1.out]
          have H8 := Lib.hid hb8
          clear hb8
          go_wp2_with fail
          refine (HW.out w8 down H8.out).mono ?_
          rintro e w9 ⟨rfl, hb9⟩
          rw [Hp2.out]
          have H9 := Lib.hid (H8.out.trans (hb9.mono H8.out.size))
          clear hb9
          go_wp2_with fail
          refine (HLe.out w9 H9.out).mono ?_
          rintro e wa ⟨rfl, hba⟩
          rw [HL1.out]
          have Ha := Lib.hid (H9.out.trans (hba.mono H9.out.size))
          clear hba
          go_wp2_with fail
          refine (HGr.out wa Ha.out).mono ?_
          rintro e wb ⟨rfl, hbb⟩
          rw [HG1.out]
          have Hb := Lib.hid (Ha.out.trans (hbb.mono Ha.out.size))
          clear hbb
          have hz1 := Hz1.out
          have hz2 := Hz2.out
          have hst := HST.out
          clear Hz1 Hz2 HST HL1 HG1 Hp1 Hp2
          by_cases ht : there < lo1 <;> by_cases hr : hi2 < there <;> cases s1 <;> cases s2
          all_goals
            try (have e1 := (hz1 rfl).1; subst e1)
            try (have e2 := (hz2 rfl).2; subst e2)
            clear hz1 hz2
            simp only [stV, ht, hr, and_self, and_true, and_false, if_true, if_false, Bool.false_eq_true] at hst
            subst hst
            go_wp2_with fail
            refine (HX.out wb Hb.out).mono ?_
            rintro e wd ⟨rfl, hbd⟩
            have Hd := Lib.hid (H7.out.trans ((Hb.out.trans (hbd.mono Hb.out.size)).mono H7.out.size))
            clear hbd
            go_wp2_with fail
            go_ret
            exact ⟨ret_bool (by simp), Hd.out⟩

theorem WindowTells_holds : Rows.WindowTellsSaid := lWindowTells.over fun ao n cap now there up down w h0 h1 _ _ _ => by
  obtain ⟨_, _, _, ls, e0, hS⟩ := SlR.of_rel h0 (fun c hc => lnote_of w c hc)
  simp [Value.cells] at e0
  obtain ⟨rfl, rfl, rfl⟩ := e0
  obtain ⟨_, hr, h1⟩ := h1
  simp [Value.cells] at hr
  subst hr
  refine windowTells_core ls _ _ _ now there up down w ?_ hS
  simp [Lit.wf, IntKind.min, IntKind.max, IntKind.signed, IntKind.bits] at h1
  omega
end Go.Proofs.Ytbhhjlnjhlagdaa
