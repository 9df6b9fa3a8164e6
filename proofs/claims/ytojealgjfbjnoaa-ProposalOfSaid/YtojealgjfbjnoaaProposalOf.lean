/- ProposalOf: by what was scraped a metric of each kind asks for what its values ask for. Conditions: none. -/
import Derived.Test.YtojealgjfbjnoaaProposalOfLift
import Derived.Test.YtojealgjfbjnoaaPropOf
import Derived.Test.YtojealgjfbjnoaaLives20M
namespace Go.Proofs.Ytojealgjfbjnoaa
open Go.ChangeShapes Go.WideShapes Go.ChangeAt Go.RowKit Go.Deep Go.Maps

set_option maxRecDepth 100000 in
set_option maxHeartbeats 4000000 in
theorem proposalOf_core (most age now kind target rep tol : Int) (met thing : ByteArray) (l : List SmQ) (ao : Option Addr) (n cap : Nat) (ps : List OQ) (bo : Option Addr) (m capb : Nat) (w : World) (hS : SlR (Flat SmQ.cells) 4 w ao n cap l) (hP : SlR (Flat OQ.cells) 47 w bo m capb ps)
    (hnow : now ≤ 9223372036854775807) (hmet : met.size ≤ maxLen) (hth : thing.size ≤ maxLen) :
    Calls Try.prog 3 #[.agg #[.int .i64 most, .int .i64 age], .slice ao n cap, .int .i64 now, .agg #[.int .i64 kind, .string met, .int .i64 target], .string thing, .slice bo m capb, .int .i64 rep, .int .i64 tol] w fun e w' => e = .returned (.bool true) ∧ Below w.heap.size w w' := by
  obtain ⟨w1, hw1⟩ : ∃ w1, w.alloc (.cells #[.int .i64 most, .int .i64 age] 23) = w1 := ⟨_, rfl⟩
  obtain ⟨w2, hw2⟩ : ∃ w2, w1.alloc (.cells #[.int .i64 kind, .string met, .int .i64 target] 27) = w2 := ⟨_, rfl⟩
  have hb1 : Below w.heap.size w w1 := by rw [← hw1]; exact (Below.refl _ _).alloc (Nat.le_refl _) _
  have hb12 : Below w1.heap.size w1 w2 := by rw [← hw2]; exact (Below.refl _ _).alloc (Nat.le_refl _) _
  have hb2 : Below w.heap.size w w2 := hb1.trans (hb12.mono hb1.size)
  have d0 : w2.cell? ⟨w.heap.size, 0, none⟩ = some (.int .i64 most) := Below.cell_some hb12 (by rw [← hw1]; exact cell_new w _ _ 0)
  have d1 : w2.cell? ⟨w.heap.size, 1, none⟩ = some (.int .i64 age) := Below.cell_some hb12 (by rw [← hw1]; exact cell_new w _ _ 1)
  have hcc : ∀ j u, [Value.int .i64 kind, .string met, .int .i64 target][j]? = some u → w2.cell? ((⟨w1.heap.size, 0, none⟩ : Addr).add j) = some u := fun j u hu => by
    rw [← hw2]
    exact (cell_new w1 _ _ j).trans (by simpa using hu)
  obtain ⟨q0, hq0⟩ : ∃ q, w.heap.size = q := ⟨_, rfl⟩
  obtain ⟨q1, hq1⟩ : ∃ q, w1.heap.size = q := ⟨_, rfl⟩
  have HK := Lib.hid (book_any most age l ao n cap w2 (hS.flatKeeps (Keeps.below hb2)))
  have HP := Lib.hid hP
  have H2 := Lib.hid hb2
  have HCC := Lib.hid hcc
  rw [hq0] at d0 d1
  rw [hq1] at HCC
  clear hS hP hb1 hb12 hb2 hcc
  go_enter Try.func3, Try.ntmps3
  go_wp2_with fail
  refine HK.out.mono ?_
  rintro e w3 ⟨hb3, hK⟩
  have HC3 : Hid (∀ j u, [Value.int .i64 kind, .string met, .int .i64 target][j]? = some u → w3.cell? ((⟨q1, 0, none⟩ : Addr).add j) = some u) := fun j u hu => Below.cell_some hb3 (HCC.out j u hu)
  have H3 := Lib.hid (H2.out.trans (hb3.mono H2.out.size))
  have hz2 := H2.out.size
  clear hb3 HK HCC d0 d1
  rcases hK with rfl | ⟨bb, bm, mo, E, rfl, hB, hA, ha1, ha2⟩
  · go_wp2_with fail
    refine (lives20 w3).mono ?_
    rintro e w4 ⟨rfl, hb4⟩
    have H4 := Lib.hid (H3.out.trans (hb4.mono H3.out.size))
    clear hb4
    go_wp2_with fail
    refine (lives20 w4).mono ?_
    rintro e w5 ⟨rfl, hb5⟩
    have H5 := Lib.hid (H4.out.trans (hb5.mono H4.out.size))
    clear hb5
    go_wp2_with fail
    go_ret
    exact ⟨rfl, H5.out⟩
  · have HB := Lib.hid hB
    have Ha := Lib.hid (And.intro ha1 ha2)
    have Hm := Lib.hid (And.intro hnow (And.intro hmet hth))
    have hne : ∀ w, ((binOp .eql 29 (.pointer (some ⟨bb, 0, none⟩)) (.pointer none) : Sem Value)).run Try.prog w = .ok (.bool false) w := fun w => by kernel_rfl
    have hPl := HP.out.hlen
    clear hB hA ha1 ha2 hnow hmet hth
    go_wp2_with fail
    refine (lives20 w3).mono ?_
    rintro e w4 ⟨rfl, hb4⟩
    have HB4 := Lib.hid (HB.out.keep hb4)
    have H4 := Lib.hid (H3.out.trans (hb4.mono H3.out.size))
    have HC4 : Hid (∀ j u, [Value.int .i64 kind, .string met, .int .i64 target][j]? = some u → w4.cell? ((⟨q1, 0, none⟩ : Addr).add j) = some u) := fun j u hu => Below.cell_some hb4 (HC3.out j u hu)
    clear hb4 HB HC3
    by_cases h40 : 40 < m
    · have hd : decide ((40 : Int) < (m : Int)) = true := decide_eq_true (by omega)
      clear hPl
      go_wp2_with fail
      refine (lives20 w4).mono ?_
      rintro e w5 ⟨rfl, hb5⟩
      have H5 := Lib.hid (H4.out.trans (hb5.mono H4.out.size))
      clear hb5
      go_wp2_with fail
      go_ret
      exact ⟨rfl, H5.out⟩
    · have hd : decide ((40 : Int) < (m : Int)) = false := decide_eq_false (by omega)
      have hm : m ≤ 40 := by omega
      have HO := Lib.hid (of_any w2.heap.size bb bm mo age now E kind target rep tol met thing ps bo m capb w4 (HP.out.flatKeeps (Keeps.below H4.out)) (by omega) HB4.out Hm.out.2.1 Hm.out.2.2 Hm.out.1 Ha.out.1 Ha.out.2)
      have HUx : Hid (∀ wx : World, Below w4.heap.size w4 wx → _) := fun wx hb => useRow_any w2.heap.size bb bm mo age now E met ps bo m capb wx (HP.out.flatKeeps (Keeps.below (H4.out.trans (hb.mono H4.out.size)))) (by omega) (HB4.out.keep hb) Hm.out.2.1 Hm.out.1 Ha.out.1 Ha.out.2
      have HFx : Hid (∀ (sub : ByteArray), sub.size ≤ maxLen → ∀ wx : World, Below w4.heap.size w4 wx → Calls Try.prog 9 #[.pointer (some ⟨bb, 0, none⟩), .int .i64 now, .agg #[.string sub, .string met]] wx fun e w' =>
          e = .returned (.tuple #[.int .i64 (freshQ age now E sub met).1, .int .i64 (freshQ age now E sub met).2]) ∧ Below wx.heap.size wx w') :=
        fun sub hs wx hb => fresh_book w2.heap.size bb bm mo age now E sub met wx (HB4.out.keep hb) hs Hm.out.2.1 Hm.out.1 Ha.out.1 Ha.out.2
      obtain ⟨f, hf⟩ : ∃ f : ByteArray → Int × Int, (fun s => freshQ age now E s met) = f := ⟨_, rfl⟩
      have hf' : ∀ s, freshQ age now E s met = f s := fun s => congrFun hf s
      simp only [hf'] at HFx
      rw [hf] at HUx HO
      have hF : ofF kind target rep tol f met thing ps = if kind = 0 ∨ kind = 1 then rowF kind target (sortU (usesQ f met ps)) rep tol
        else if kind = 2 then (if (f thing).2 = 0 then oneF target (f thing).1 rep tol else (0, (f thing).2))
        else if kind = 3 then (if (f extName).2 = 0 then avgF target (f extName).1 rep tol else (0, (f extName).2)) else (0, 17) := rfl
      obtain ⟨R, hR⟩ : ∃ R, ofF kind target rep tol f met thing ps = R := ⟨_, rfl⟩
      rw [hR] at hF HO
      obtain ⟨ra, re⟩ := R
      have HF := Lib.hid hF
      have hcc4 := HC4.out
      clear hF hR hf hf' h40 hPl HB4
      go_wp2_with (first | ((with_reducible refine at_slot 43 ?_); go_must (refine wpList_load_at aggMet rfl _ rfl ⟨q1, 0, none⟩ rfl _ rfl hcc4 ?_)))
      refine HO.out.mono ?_
      rintro e w5 ⟨rfl, hb5⟩
      have hcc : ∀ j u, [Value.int .i64 kind, .string met, .int .i64 target][j]? = some u → w5.cell? ((⟨q1, 0, none⟩ : Addr).add j) = some u := fun j u hu => Below.cell_some hb5 (HC4.out j u hu)
      have H5 := Lib.hid (H4.out.trans (hb5.mono H4.out.size))
      have HU : Hid (∀ wx : World, Below w5.heap.size w5 wx → _) := fun wx hb => HUx.out wx (hb5.trans (hb.mono hb5.size))
      have HFr : Hid (∀ (sub : ByteArray), sub.size ≤ maxLen → ∀ wx : World, Below w5.heap.size w5 wx → _) := fun sub hs wx hb => HFx.out sub hs wx (hb5.trans (hb.mono hb5.size))
      have c0 := hcc 0 _ rfl
      have c1 := hcc 1 _ rfl
      have c2 := hcc 2 _ rfl
      rw [Addr.add_lit] at c0 c1 c2
      have Hth : Hid (thing.size ≤ maxLen) := Hm.out.2.2
      have mixed : Try.prog.follows .mixedOrders = true := by kernel_rfl
      clear hcc4 hb5 HC4 HUx HFx HO H4 H3 H2
      by_cases hk : kind = 0 ∨ kind = 1
      · rcases hk with rfl | rfl
        · have HE := Lib.hid (HF.out.trans (if_pos (.inl rfl)))
          clear HF HFr
          go_upto_region 9 with fail
          replace c1 := BW.cell c1
          replace hcc := BW.cells hcc
          clear c0 c2
          refine region_later mixed ?_
          refine later_phase (fun w' => ∃ p : BW w5, w' = p.w') [6, 9] 7 0 10 30 (by kernel_rfl) (by kernel_rfl) ⟨⟨{ w5 with drawn := w5.drawn + 1 }, ⟨rfl, rfl, rfl, Nat.le_refl _, fun _ _ => rfl⟩⟩, rfl⟩ ?_
          repeat (first | (refine wpVal_skipR rfl ?_) | (refine wpVal_takeR rfl ?_; first | (refine wpVal_loadK aggMet rfl _ rfl _ rfl _ rfl (by rintro _ ⟨bw, rfl⟩; exact hcc bw) (fun K hK => ?_); go_simp; refine hK _ ?_; clear hK K) | (refine wpVal_oneK rfl (fun K hK => ?_); refine ⟨_, fun w => by go_simp; rfl, ?_⟩; go_simp; refine hK _ ?_; clear hK K) | (refine wpVal_mem rfl rfl (fun K hK => ?_); refine ⟨_, by rintro _ ⟨bw, rfl⟩; go_simp; rfl, ?_⟩; go_simp; refine hK _ ?_; clear hK K)))
          refine wpVal_endR ?_
          refine wpLoud_call rfl rfl 8 [.tmp 59, .tmp 60, .tmp 62, .tmp 63] _ rfl Try.func8 (by kernel_rfl) rfl [.pointer (some ⟨bb, 0, none⟩), .int .i64 now, .string met, .slice bo m capb] (by as_aux_lemma => kernel_rfl) ((HU.out { w5 with drawn := w5.drawn + 1 } ⟨rfl, rfl, rfl, Nat.le_refl _, fun _ _ => rfl⟩).mono ?_)
          rintro e w6 ⟨ao', m', cap', ys, rfl, hys, hmn, hS6, hb6⟩
          have hb6' : Below w5.heap.size w5 w6 := (⟨rfl, rfl, rfl, Nat.le_refl _, fun _ _ => rfl⟩ : Below w5.heap.size w5 { w5 with drawn := w5.drawn + 1 }).trans hb6
          have H6 := Lib.hid (H5.out.trans (hb6'.mono H5.out.size))
          have HE' : Hid ((ra, re) = rowF 0 target ys rep tol) := by rw [← sortU_eq hys]; exact HE.out
          have HR := Lib.hid (row_any 0 target rep tol met ys ao' m' cap' w6 hS6 (by omega))
          refine ⟨_, rfl, fun _ => ⟨⟨w6, hb6'⟩, rfl⟩, ?_⟩
          rw [← HE'.out] at HR
          clear hys hmn hS6 hb6 hb6' HU HE HE' hcc c1
          refine wpLoud_call rfl rfl 7 [.tmp 58, .tmp 64, .tmp 65, .tmp 66] _ rfl Try.func7 (by kernel_rfl) rfl [.agg #[.int .i64 0, .string met, .int .i64 target], .slice ao' m' cap', .int .i64 rep, .int .i64 tol] (by as_aux_lemma => kernel_rfl) (HR.out.mono ?_)
          rintro e w7 ⟨rfl, hb7⟩
          have H7 := Lib.hid (H6.out.trans (hb7.mono H6.out.size))
          clear hb7 H6 HR
          refine ⟨_, rfl, fun h => absurd h (by decide), ?_⟩
          refine wpLoud_nil ?_
          refine later_phase (fun _ => True) [] 0 10 15 30 (by kernel_rfl) (by kernel_rfl) trivial ?_
          repeat (first | (refine wpVal_skipR rfl ?_) | (refine wpVal_takeR rfl ?_; refine wpVal_oneK rfl (fun K hK => ?_); refine ⟨_, fun w => by go_simp; rfl, ?_⟩; go_simp; refine hK _ ?_; clear hK K))
          refine wpVal_endR ?_
          refine wpLoud_nil ?_
          refine later_end 15 rfl ?_
          go_simp
          go_wp2_with fail
          go_ret
          exact ⟨rfl, H7.out⟩
        · have HE := Lib.hid (HF.out.trans (if_pos (.inr rfl)))
          clear HF HFr
          go_upto_region 9 with fail
          replace c1 := BW.cell c1
          replace hcc := BW.cells hcc
          clear c0 c2
          refine region_later mixed ?_
          refine later_phase (fun w' => ∃ p : BW w5, w' = p.w') [6, 9] 7 0 10 30 (by kernel_rfl) (by kernel_rfl) ⟨⟨{ w5 with drawn := w5.drawn + 1 }, ⟨rfl, rfl, rfl, Nat.le_refl _, fun _ _ => rfl⟩⟩, rfl⟩ ?_
          repeat (first | (refine wpVal_skipR rfl ?_) | (refine wpVal_takeR rfl ?_; first | (refine wpVal_loadK aggMet rfl _ rfl _ rfl _ rfl (by rintro _ ⟨bw, rfl⟩; exact hcc bw) (fun K hK => ?_); go_simp; refine hK _ ?_; clear hK K) | (refine wpVal_oneK rfl (fun K hK => ?_); refine ⟨_, fun w => by go_simp; rfl, ?_⟩; go_simp; refine hK _ ?_; clear hK K) | (refine wpVal_mem rfl rfl (fun K hK => ?_); refine ⟨_, by rintro _ ⟨bw, rfl⟩; go_simp; rfl, ?_⟩; go_simp; refine hK _ ?_; clear hK K)))
          refine wpVal_endR ?_
          refine wpLoud_call rfl rfl 8 [.tmp 59, .tmp 60, .tmp 62, .tmp 63] _ rfl Try.func8 (by kernel_rfl) rfl [.pointer (some ⟨bb, 0, none⟩), .int .i64 now, .string met, .slice bo m capb] (by as_aux_lemma => kernel_rfl) ((HU.out { w5 with drawn := w5.drawn + 1 } ⟨rfl, rfl, rfl, Nat.le_refl _, fun _ _ => rfl⟩).mono ?_)
          rintro e w6 ⟨ao', m', cap', ys, rfl, hys, hmn, hS6, hb6⟩
          have hb6' : Below w5.heap.size w5 w6 := (⟨rfl, rfl, rfl, Nat.le_refl _, fun _ _ => rfl⟩ : Below w5.heap.size w5 { w5 with drawn := w5.drawn + 1 }).trans hb6
          have H6 := Lib.hid (H5.out.trans (hb6'.mono H5.out.size))
          have HE' : Hid ((ra, re) = rowF 1 target ys rep tol) := by rw [← sortU_eq hys]; exact HE.out
          have HR := Lib.hid (row_any 1 target rep tol met ys ao' m' cap' w6 hS6 (by omega))
          refine ⟨_, rfl, fun _ => ⟨⟨w6, hb6'⟩, rfl⟩, ?_⟩
          rw [← HE'.out] at HR
          clear hys hmn hS6 hb6 hb6' HU HE HE' hcc c1
          refine wpLoud_call rfl rfl 7 [.tmp 58, .tmp 64, .tmp 65, .tmp 66] _ rfl Try.func7 (by kernel_rfl) rfl [.agg #[.int .i64 1, .string met, .int .i64 target], .slice ao' m' cap', .int .i64 rep, .int .i64 tol] (by as_aux_lemma => kernel_rfl) (HR.out.mono ?_)
          rintro e w7 ⟨rfl, hb7⟩
          have H7 := Lib.hid (H6.out.trans (hb7.mono H6.out.size))
          clear hb7 H6 HR
          refine ⟨_, rfl, fun h => absurd h (by decide), ?_⟩
          refine wpLoud_nil ?_
          refine later_phase (fun _ => True) [] 0 10 15 30 (by kernel_rfl) (by kernel_rfl) trivial ?_
          repeat (first | (refine wpVal_skipR rfl ?_) | (refine wpVal_takeR rfl ?_; refine wpVal_oneK rfl (fun K hK => ?_); refine ⟨_, fun w => by go_simp; rfl, ?_⟩; go_simp; refine hK _ ?_; clear hK K))
          refine wpVal_endR ?_
          refine wpLoud_nil ?_
          refine later_end 15 rfl ?_
          go_simp
          go_wp2_with fail
          go_ret
          exact ⟨rfl, H7.out⟩
      · have H00 := Lib.hid (HF.out.trans (if_neg hk))
        clear HF HU
        by_cases hk2 : kind = 2
        · subst hk2
          have HE := Lib.hid (H00.out.trans (if_pos rfl))
          clear H00
          obtain ⟨fx, hfx⟩ : ∃ x, (f thing).1 = x := ⟨_, rfl⟩
          obtain ⟨fe, hfe⟩ : ∃ x, (f thing).2 = x := ⟨_, rfl⟩
          have HQ2 := Lib.hid (HFr.out thing Hth.out)
          rw [hfx, hfe] at HQ2 HE
          clear hfx hfe HFr
          have HO := Lib.hid (fun wx => pone_any 2 target fx rep tol met wx)
          obtain ⟨oa, hoa⟩ : ∃ x, (oneF target fx rep tol) = x := ⟨_, rfl⟩
          rw [hoa] at HO HE
          obtain ⟨o1, o2⟩ := oa
          clear hoa
          go_wp2_with fail
          refine (HQ2.out _ (Below.refl _ _)).mono ?_
          rintro e w6 ⟨rfl, hb6⟩
          replace hcc := fun j u hu => Below.cell_some hb6 (hcc j u hu)
          have H6 := Lib.hid (H5.out.trans (hb6.mono H5.out.size))
          clear hb6 c0 c1 c2 HQ2
          go_wp2_with (first | ((with_reducible refine at_slot 83 ?_); go_must (refine wpList_load_at aggMet rfl _ rfl ⟨q1, 0, none⟩ rfl _ rfl hcc ?_)))
          refine (HO.out w6).mono ?_
          rintro e w7 ⟨rfl, hb7⟩
          have H7 := Lib.hid (H6.out.trans (hb7.mono H6.out.size))
          clear hb7
          by_cases he : fe = 0
          · subst he
            have HV := HE.out.trans (if_pos rfl)
            simp only [Prod.mk.injEq] at HV
            obtain ⟨rfl, rfl⟩ := HV
            go_wp2_with fail
            go_ret
            exact ⟨rfl, H7.out⟩
          · have HV := HE.out.trans (if_neg he)
            simp only [Prod.mk.injEq] at HV
            obtain ⟨rfl, rfl⟩ := HV
            have hne : (re != 0) = true := by simpa using he
            clear he
            go_wp2_with fail
            go_ret
            exact ⟨rfl, H7.out⟩
        · have H01 := Lib.hid (H00.out.trans (if_neg hk2))
          clear H00
          by_cases hk3 : kind = 3
          · subst hk3
            have HE := Lib.hid (H01.out.trans (if_pos rfl))
            clear H01
            obtain ⟨fx, hfx⟩ : ∃ x, (f extName).1 = x := ⟨_, rfl⟩
            obtain ⟨fe, hfe⟩ : ∃ x, (f extName).2 = x := ⟨_, rfl⟩
            have HQ2 := Lib.hid (HFr.out extName (by unfold maxLen; decide))
            rw [hfx, hfe] at HQ2 HE
            clear hfx hfe HFr
            have HO := Lib.hid (fun wx => pavg_any 3 target fx rep tol met wx)
            obtain ⟨oa, hoa⟩ : ∃ x, (avgF target fx rep tol) = x := ⟨_, rfl⟩
            rw [hoa] at HO HE
            obtain ⟨o1, o2⟩ := oa
            clear hoa
            go_wp2_with fail
            refine (HQ2.out _ (Below.refl _ _)).mono ?_
            rintro e w6 ⟨rfl, hb6⟩
            replace hcc := fun j u hu => Below.cell_some hb6 (hcc j u hu)
            have H6 := Lib.hid (H5.out.trans (hb6.mono H5.out.size))
            clear hb6 c0 c1 c2 HQ2
            go_wp2_with (first | ((with_reducible refine at_slot 105 ?_); go_must (refine wpList_load_at aggMet rfl _ rfl ⟨q1, 0, none⟩ rfl _ rfl hcc ?_)))
            refine (HO.out w6).mono ?_
            rintro e w7 ⟨rfl, hb7⟩
            have H7 := Lib.hid (H6.out.trans (hb7.mono H6.out.size))
            clear hb7
            by_cases he : fe = 0
            · subst he
              have HV := HE.out.trans (if_pos rfl)
              simp only [Prod.mk.injEq] at HV
              obtain ⟨rfl, rfl⟩ := HV
              go_wp2_with fail
              go_ret
              exact ⟨rfl, H7.out⟩
            · have HV := HE.out.trans (if_neg he)
              simp only [Prod.mk.injEq] at HV
              obtain ⟨rfl, rfl⟩ := HV
              have hne : (re != 0) = true := by simpa using he
              clear he
              go_wp2_with fail
              go_ret
              exact ⟨rfl, H7.out⟩
          · have HV := H01.out.trans (if_neg hk3)
            simp only [Prod.mk.injEq] at HV
            obtain ⟨rfl, rfl⟩ := HV
            have e0 : (kind == 0) = false := beq_eq_false_iff_ne.2 (fun h => hk (.inl h))
            have e1 : (kind == 1) = false := beq_eq_false_iff_ne.2 (fun h => hk (.inr h))
            have e2 : (kind == 2) = false := beq_eq_false_iff_ne.2 hk2
            have e3 : (kind == 3) = false := beq_eq_false_iff_ne.2 hk3
            clear hk hk2 hk3 H01 HFr
            go_wp2_with fail
            go_ret
            exact ⟨rfl, H5.out⟩

theorem smQ_of (w : World) (c : List Value) (h : Rel (.pair (.int .i64) (.pair (.pair (.str) (.pair (.str) (.unit))) (.pair (.int .u64) (.unit)))) w c) : ∃ m, Flat SmQ.cells w m c := by
  obtain ⟨_, _, rfl, _, ⟨n1, rfl, _⟩, _, _, rfl, _, ⟨_, _, rfl, _, ⟨s1, rfl, h1⟩, _, _, rfl, _, ⟨s2, rfl, h2⟩, rfl⟩, _, _, rfl, _, ⟨n2, rfl, hw⟩, rfl⟩ := h
  simp [Lit.wf, IntKind.min, IntKind.max, IntKind.signed, IntKind.bits] at hw
  obtain ⟨k, rfl⟩ : ∃ k : Nat, n2 = k := ⟨n2.toNat, by omega⟩
  exact ⟨⟨n1, s1, s2, k, by omega, h1, h2⟩, rfl⟩


theorem rel_oneQ : ∀ (s : Sh) {w : World} {cs : List Value}, Rel s w cs → cs.all (fun u => u.oneCell') = true
  | .bool, _, _, ⟨_, h⟩ => by rw [h]; rfl
  | .int _, _, _, ⟨_, h, _⟩ => by rw [h]; rfl
  | .str, _, _, ⟨_, h, _⟩ => by rw [h]; rfl
  | .slice _, _, _, ⟨_, _, _, h, _⟩ => by rw [h]; rfl
  | .pair a b, _, _, ⟨_, _, h, _, h1, h2⟩ => by rw [h, List.all_append, rel_oneQ a h1, rel_oneQ b h2]; rfl
  | .unit, _, _, h => by rw [show _ = [] from h]; rfl
instance : Inhabited OQ := ⟨⟨.int .i64 0 :: .string ⟨#[]⟩ :: (List.replicate 45 (.int .i64 0)), 0, ⟨#[]⟩, 0, 0, 0, rfl, rfl, rfl, rfl, rfl, rfl, by decide, rfl⟩⟩
theorem objQ_of (W T R : Sh) (hw7 : W.size = 7) (w : World) (c : List Value) (h : Rel (.pair (.int .i64) (.pair .str (.pair (.int .u64) (.pair W (.pair (.pair .str (.pair .str (.pair (.int .i64) (.pair (.int .i64) (.pair (.pair (.int .i64) (.pair (.int .i64) .unit)) T))))) R))))) w c) (hl : c.length = 47) : ∃ x : OQ, Flat OQ.cells w x c := by
  have h1 := rel_oneQ _ h
  obtain ⟨c1, c2, rfl, _, ⟨kind, rfl, _⟩, c3, c4, rfl, _, ⟨name, rfl, hnm⟩, c5, c6, rfl, _, ⟨ver, rfl, _⟩, cw, c8, rfl, hlw, _, cp, cr, rfl, _, ⟨p1, p2, rfl, _, ⟨owner, rfl, _⟩, p3, p4, rfl, _, ⟨node, rfl, _⟩, p5, p6, rfl, _, ⟨phase, rfl, _⟩, p7, p8, rfl, _, ⟨since, rfl, _⟩, p9, p10, rfl, _, ⟨p11, p12, rfl, _, ⟨cpu, rfl, _⟩, p13, p14, rfl, _, ⟨mem, rfl, _⟩, rfl⟩, _⟩, _⟩ := h
  rw [hw7] at hlw
  match cw, hlw, hl, h1 with
  | [a0, a1, a2, a3, a4, a5, a6], _, hl, h1 => exact ⟨⟨_, kind, name, phase, cpu, mem, hl, rfl, rfl, rfl, rfl, rfl, hnm, h1⟩, rfl⟩

theorem ProposalOf_holds : Rows.ProposalOfSaid := lProposalOf.over fun a b c d n2 c3 s4 a5 l5 k5 n6 n7 w h0 h1 h2 h3 h4 h5 h6 h7 => by
  obtain ⟨_, _, _, l, e1, hS⟩ := SlR.of_rel h1 (fun c hc => smQ_of w c hc)
  simp [Value.cells] at e1
  obtain ⟨rfl, rfl, rfl⟩ := e1
  obtain ⟨_, _, _, ps, e5, hP⟩ := SlR.of_rel h5 (fun c hc => objQ_of _ _ _ rfl w c hc (Rel.length _ hc))
  simp [Value.cells] at e5
  obtain ⟨rfl, rfl, rfl⟩ := e5
  obtain ⟨_, _, e0, _, ⟨m0, rfl, _⟩, _, _, rfl, _, ⟨m1, rfl, _⟩, rfl⟩ := h0
  have e0 : a = #[.int .i64 m0, .int .i64 m1] := by
    have : a.toList = [.int .i64 m0, .int .i64 m1] := e0
    rw [← Array.toArray_toList (xs := a), this]
  subst e0
  obtain ⟨_, _, e3, _, ⟨kd, rfl, _⟩, _, _, rfl, _, ⟨nm, rfl, hnm⟩, _, _, rfl, _, ⟨tg, rfl, _⟩, rfl⟩ := h3
  have e3 : c3 = #[.int .i64 kd, .string nm, .int .i64 tg] := by
    have : c3.toList = [.int .i64 kd, .string nm, .int .i64 tg] := e3
    rw [← Array.toArray_toList (xs := c3), this]
  subst e3
  obtain ⟨n, e2, hw⟩ := h2
  simp [Value.cells] at e2
  subst e2
  simp [Lit.wf, IntKind.min, IntKind.max, IntKind.signed, IntKind.bits] at hw
  obtain ⟨t4, e4, h4⟩ := h4
  simp [Value.cells] at e4
  subst e4
  exact proposalOf_core m0 m1 _ kd tg _ _ nm _ l _ _ _ ps _ _ _ w hS hP (by omega) hnm h4
end Go.Proofs.Ytojealgjfbjnoaa
