/- The contract of proposal.Of at a book. Condition: at most 1000 objects; the book lies in blocks of the call's own. -/
import Derived.Test.YtojealgjfbjnoaaUseRow
import Derived.Test.YtojealgjfbjnoaaPhase2
import Derived.Test.YtojealgjfbjnoaaQOneM
namespace Go.Proofs.Ytojealgjfbjnoaa
open Go.ChangeShapes Go.WideShapes Go.ChangeAt Go.RowKit Go.Deep Go.Maps

theorem SortedU.unique {xs ys zs : List UseI} (h : SortedU xs ys) (k : SortedU xs zs) : ys = zs := by
  obtain ⟨d, h1, h2, rfl⟩ := h
  obtain ⟨d', k1, k2, rfl⟩ := k
  have : d = d' := List.Perm.eq_of_pairwise (le := TOUse) (fun a b _ _ h1 h2 => by
    rcases h1 with h1 | ⟨h1, h1'⟩
    · rcases h2 with h2 | ⟨h2, _⟩
      · have := less_trS h1 h2
        rw [bytesLess_eq, decide_eq_true_iff] at this
        exact absurd this (List.lt_irrefl _)
      · rw [h2, bytesLess_eq, decide_eq_true_iff] at h1
        exact absurd h1 (List.lt_irrefl _)
    · rcases h2 with h2 | ⟨_, h2'⟩
      · rw [h1, bytesLess_eq, decide_eq_true_iff] at h2
        exact absurd h2 (List.lt_irrefl _)
      · omega) h2 k2 (h1.trans k1.symm)
  rw [this]
open Classical in
noncomputable def sortU (xs : List UseI) : List UseI := if h : ∃ ys, SortedU xs ys then Classical.choose h else []
theorem sortU_eq {xs ys : List UseI} (h : SortedU xs ys) : sortU xs = ys := by
  have he : ∃ ys, SortedU xs ys := ⟨ys, h⟩
  unfold sortU
  rw [dif_pos he]
  exact (Classical.choose_spec he).unique h

theorem aggMet : AggOK Try.prog 27 3 := .mk' (by kernel_rfl) (by kernel_rfl)
def extName : ByteArray := ⟨#[101, 120, 116, 101, 114, 110, 97, 108]⟩
/-- What a metric asks for. -/
noncomputable def ofF (kind target rep tol : Int) (f : ByteArray → Int × Int) (met thing : ByteArray) (l : List OQ) : Int × Int :=
  if kind = 0 ∨ kind = 1 then rowF kind target (sortU (usesQ f met l)) rep tol
  else if kind = 2 then (if (f thing).2 = 0 then oneF target (f thing).1 rep tol else (0, (f thing).2))
  else if kind = 3 then (if (f extName).2 = 0 then avgF target (f extName).1 rep tol else (0, (f extName).2))
  else (0, 17)

set_option maxRecDepth 100000 in
set_option maxHeartbeats 4000000 in
theorem of_any (B bb bm most : Nat) (age now : Int) (E : List En) (kind target rep tol : Int) (met thing : ByteArray) (l : List OQ) (ao : Option Addr) (n cap : Nat) (w : World) (hS : SlR (Flat OQ.cells) 47 w ao n cap l) (hn : n ≤ 1000)
    (hB : BookAt w B bb bm most age E) (hmet : met.size ≤ maxLen) (hth : thing.size ≤ maxLen) (hnow2 : now ≤ 9223372036854775807) (ha1 : 1 ≤ age) (ha2 : age ≤ 1800) :
    Calls Try.prog 6 #[.pointer (some ⟨bb, 0, none⟩), .agg #[.int .i64 kind, .string met, .int .i64 target], .int .i64 now, .string thing, .slice ao n cap, .int .i64 rep, .int .i64 tol] w fun e w' =>
      e = .returned (.tuple #[.int .i64 (ofF kind target rep tol (fun s => freshQ age now E s met) met thing l).1, .int .i64 (ofF kind target rep tol (fun s => freshQ age now E s met) met thing l).2]) ∧ Below w.heap.size w w' := by
  obtain ⟨w1, hw1⟩ : ∃ w1, w.alloc (.cells #[.int .i64 kind, .string met, .int .i64 target] 27) = w1 := ⟨_, rfl⟩
  have hb1 : Below w.heap.size w w1 := by rw [← hw1]; exact (Below.refl _ _).alloc (Nat.le_refl _) _
  have hlt : w.heap.size < w1.heap.size := by rw [← hw1]; simp
  have hcc : ∀ j u, [Value.int .i64 kind, .string met, .int .i64 target][j]? = some u → w1.cell? ((⟨w.heap.size, 0, none⟩ : Addr).add j) = some u := fun j u hu => by
    rw [← hw1]
    exact (cell_new w _ _ j).trans (by simpa using hu)
  have c0 := hcc 0 _ rfl
  have c1 := hcc 1 _ rfl
  have c2 := hcc 2 _ rfl
  rw [Addr.add_lit] at c0 c1 c2
  obtain ⟨q, hq⟩ : ∃ q, w.heap.size = q := ⟨_, rfl⟩
  have HU : Hid (∀ wx : World, Below w.heap.size w wx → _) := fun wx hb => useRow_any B bb bm most age now E met l ao n cap wx (hS.flatKeeps (Keeps.below hb)) hn (hB.keep hb) hmet hnow2 ha1 ha2
  have HQ : Hid (∀ (sub : ByteArray), sub.size ≤ maxLen → Calls Try.prog 14 #[.pointer (some ⟨bb, 0, none⟩), .int .i64 now, .string sub, .string met] w1 fun e w' =>
      e = .returned (.tuple #[.int .i64 (freshQ age now E sub met).1, .int .i64 (freshQ age now E sub met).2]) ∧ Below w1.heap.size w1 w') :=
    fun sub hs => qone_any (fresh_book B bb bm most age now E sub met w1 (hB.keep hb1) hs hmet hnow2 ha1 ha2)
  obtain ⟨f, hf⟩ : ∃ f : ByteArray → Int × Int, (fun s => freshQ age now E s met) = f := ⟨_, rfl⟩
  have hf' : ∀ s, freshQ age now E s met = f s := fun s => congrFun hf s
  simp only [hf'] at HQ
  rw [hf] at HU ⊢
  have H1 := Lib.hid hb1
  have Hth := Lib.hid hth
  have hF : ofF kind target rep tol f met thing l = if kind = 0 ∨ kind = 1 then rowF kind target (sortU (usesQ f met l)) rep tol
    else if kind = 2 then (if (f thing).2 = 0 then oneF target (f thing).1 rep tol else (0, (f thing).2))
    else if kind = 3 then (if (f extName).2 = 0 then avgF target (f extName).1 rep tol else (0, (f extName).2)) else (0, 17) := rfl
  obtain ⟨R, hR⟩ : ∃ R, ofF kind target rep tol f met thing l = R := ⟨_, rfl⟩
  rw [hR] at hF ⊢
  obtain ⟨ra, re⟩ := R
  have HF := Lib.hid hF
  clear hS hB hf hf' hb1 hth hF hR hmet
  rw [hq] at c0 c1 c2 hcc hlt
  go_enter Try.func6, Try.ntmps6
  by_cases hk : kind = 0 ∨ kind = 1
  · have H0 := Lib.hid (HF.out.trans (if_pos hk))
    clear HF HQ
    rcases hk with rfl | rfl
    · have mixed : Try.prog.follows .mixedOrders = true := by kernel_rfl
      go_upto_region 4 with fail
      replace c1 := BW.cell c1
      replace hcc := BW.cells hcc
      clear c0 c2
      refine region_later mixed ?_
      refine later_phase (fun w' => ∃ p : BW w1, w' = p.w') [6, 9] 7 0 10 30 (by kernel_rfl) (by kernel_rfl) ⟨⟨{ w1 with drawn := w1.drawn + 1 }, ⟨rfl, rfl, rfl, Nat.le_refl _, fun _ _ => rfl⟩⟩, rfl⟩ ?_
      repeat (first | (refine wpVal_skipR rfl ?_) | (refine wpVal_takeR rfl ?_; first | (refine wpVal_loadK aggMet rfl _ rfl _ rfl _ rfl (by rintro _ ⟨bw, rfl⟩; exact hcc bw) (fun K hK => ?_); go_simp; refine hK _ ?_; clear hK K) | (refine wpVal_oneK rfl (fun K hK => ?_); refine ⟨_, fun w => by go_simp; rfl, ?_⟩; go_simp; refine hK _ ?_; clear hK K) | (refine wpVal_mem rfl rfl (fun K hK => ?_); refine ⟨_, by rintro _ ⟨bw, rfl⟩; go_simp; rfl, ?_⟩; go_simp; refine hK _ ?_; clear hK K)))
      refine wpVal_endR ?_
      refine wpLoud_call rfl rfl 8 [.tmp 26, .tmp 27, .tmp 29, .tmp 30] _ rfl Try.func8 (by kernel_rfl) rfl [.pointer (some ⟨bb, 0, none⟩), .int .i64 now, .string met, .slice ao n cap] (by as_aux_lemma => kernel_rfl) ((HU.out { w1 with drawn := w1.drawn + 1 } (H1.out.trans ⟨rfl, rfl, rfl, Nat.le_refl _, fun _ _ => rfl⟩)).mono ?_)
      rintro e w2 ⟨ao', m, cap', ys, rfl, hys, hmn, hS2, hb2⟩
      have H2 := Lib.hid (H1.out.trans ((⟨rfl, rfl, rfl, Nat.le_refl _, fun _ _ => rfl⟩ : Below w.heap.size w1 { w1 with drawn := w1.drawn + 1 }).trans (hb2.mono H1.out.size)))
      have hb2' : Below w1.heap.size w1 w2 := (⟨rfl, rfl, rfl, Nat.le_refl _, fun _ _ => rfl⟩ : Below w1.heap.size w1 { w1 with drawn := w1.drawn + 1 }).trans hb2
      have H0' : Hid ((ra, re) = rowF 0 target ys rep tol) := by rw [← sortU_eq hys]; exact H0.out
      have HR := Lib.hid (row_any 0 target rep tol met ys ao' m cap' w2 hS2 (by omega))
      refine ⟨_, rfl, fun _ => ⟨⟨w2, hb2'⟩, rfl⟩, ?_⟩
      rw [← H0'.out] at HR
      clear hys hmn hS2 hb2 hb2' HU H0 H0' hcc c1
      refine wpLoud_call rfl rfl 7 [.tmp 25, .tmp 31, .tmp 32, .tmp 33] _ rfl Try.func7 (by kernel_rfl) rfl [.agg #[.int .i64 0, .string met, .int .i64 target], .slice ao' m cap', .int .i64 rep, .int .i64 tol] (by as_aux_lemma => kernel_rfl) (HR.out.mono ?_)
      rintro e w3 ⟨rfl, hb3⟩
      have H3 := Lib.hid (H2.out.trans (hb3.mono H2.out.size))
      clear hb3 H2 HR
      refine ⟨_, rfl, fun h => absurd h (by decide), ?_⟩
      refine wpLoud_nil ?_
      refine later_phase (fun _ => True) [] 0 10 14 30 (by kernel_rfl) (by kernel_rfl) trivial ?_
      repeat (first | (refine wpVal_skipR rfl ?_) | (refine wpVal_takeR rfl ?_; refine wpVal_oneK rfl (fun K hK => ?_); refine ⟨_, fun w => by go_simp; rfl, ?_⟩; go_simp; refine hK _ ?_; clear hK K))
      refine wpVal_endR ?_
      refine wpLoud_nil ?_
      refine later_end 14 rfl ?_
      go_simp
      go_wp2_with fail
      go_ret2
      exact ⟨rfl, H3.out⟩
    · have mixed : Try.prog.follows .mixedOrders = true := by kernel_rfl
      go_upto_region 4 with fail
      replace c1 := BW.cell c1
      replace hcc := BW.cells hcc
      clear c0 c2
      refine region_later mixed ?_
      refine later_phase (fun w' => ∃ p : BW w1, w' = p.w') [6, 9] 7 0 10 30 (by kernel_rfl) (by kernel_rfl) ⟨⟨{ w1 with drawn := w1.drawn + 1 }, ⟨rfl, rfl, rfl, Nat.le_refl _, fun _ _ => rfl⟩⟩, rfl⟩ ?_
      repeat (first | (refine wpVal_skipR rfl ?_) | (refine wpVal_takeR rfl ?_; first | (refine wpVal_loadK aggMet rfl _ rfl _ rfl _ rfl (by rintro _ ⟨bw, rfl⟩; exact hcc bw) (fun K hK => ?_); go_simp; refine hK _ ?_; clear hK K) | (refine wpVal_oneK rfl (fun K hK => ?_); refine ⟨_, fun w => by go_simp; rfl, ?_⟩; go_simp; refine hK _ ?_; clear hK K) | (refine wpVal_mem rfl rfl (fun K hK => ?_); refine ⟨_, by rintro _ ⟨bw, rfl⟩; go_simp; rfl, ?_⟩; go_simp; refine hK _ ?_; clear hK K)))
      refine wpVal_endR ?_
      refine wpLoud_call rfl rfl 8 [.tmp 26, .tmp 27, .tmp 29, .tmp 30] _ rfl Try.func8 (by kernel_rfl) rfl [.pointer (some ⟨bb, 0, none⟩), .int .i64 now, .string met, .slice ao n cap] (by as_aux_lemma => kernel_rfl) ((HU.out { w1 with drawn := w1.drawn + 1 } (H1.out.trans ⟨rfl, rfl, rfl, Nat.le_refl _, fun _ _ => rfl⟩)).mono ?_)
      rintro e w2 ⟨ao', m, cap', ys, rfl, hys, hmn, hS2, hb2⟩
      have H2 := Lib.hid (H1.out.trans ((⟨rfl, rfl, rfl, Nat.le_refl _, fun _ _ => rfl⟩ : Below w.heap.size w1 { w1 with drawn := w1.drawn + 1 }).trans (hb2.mono H1.out.size)))
      have hb2' : Below w1.heap.size w1 w2 := (⟨rfl, rfl, rfl, Nat.le_refl _, fun _ _ => rfl⟩ : Below w1.heap.size w1 { w1 with drawn := w1.drawn + 1 }).trans hb2
      have H0' : Hid ((ra, re) = rowF 1 target ys rep tol) := by rw [← sortU_eq hys]; exact H0.out
      have HR := Lib.hid (row_any 1 target rep tol met ys ao' m cap' w2 hS2 (by omega))
      refine ⟨_, rfl, fun _ => ⟨⟨w2, hb2'⟩, rfl⟩, ?_⟩
      rw [← H0'.out] at HR
      clear hys hmn hS2 hb2 hb2' HU H0 H0' hcc c1
      refine wpLoud_call rfl rfl 7 [.tmp 25, .tmp 31, .tmp 32, .tmp 33] _ rfl Try.func7 (by kernel_rfl) rfl [.agg #[.int .i64 1, .string met, .int .i64 target], .slice ao' m cap', .int .i64 rep, .int .i64 tol] (by as_aux_lemma => kernel_rfl) (HR.out.mono ?_)
      rintro e w3 ⟨rfl, hb3⟩
      have H3 := Lib.hid (H2.out.trans (hb3.mono H2.out.size))
      clear hb3 H2 HR
      refine ⟨_, rfl, fun h => absurd h (by decide), ?_⟩
      refine wpLoud_nil ?_
      refine later_phase (fun _ => True) [] 0 10 14 30 (by kernel_rfl) (by kernel_rfl) trivial ?_
      repeat (first | (refine wpVal_skipR rfl ?_) | (refine wpVal_takeR rfl ?_; refine wpVal_oneK rfl (fun K hK => ?_); refine ⟨_, fun w => by go_simp; rfl, ?_⟩; go_simp; refine hK _ ?_; clear hK K))
      refine wpVal_endR ?_
      refine wpLoud_nil ?_
      refine later_end 14 rfl ?_
      go_simp
      go_wp2_with fail
      go_ret2
      exact ⟨rfl, H3.out⟩
  · have H00 := Lib.hid (HF.out.trans (if_neg hk))
    clear HF HU
    by_cases hk2 : kind = 2
    · subst hk2
      have H0 := Lib.hid (H00.out.trans (if_pos rfl))
      clear H00
      obtain ⟨fx, hfx⟩ : ∃ x, (f thing).1 = x := ⟨_, rfl⟩
      obtain ⟨fe, hfe⟩ : ∃ x, (f thing).2 = x := ⟨_, rfl⟩
      have HQ2 := Lib.hid (HQ.out thing Hth.out)
      rw [hfx, hfe] at HQ2 H0
      clear hfx hfe HQ
      by_cases he : fe = 0
      · subst he
        have HV := Lib.hid (H0.out.trans (if_pos rfl))
        have HO := Lib.hid (fun wx => pone_any 2 target fx rep tol met wx)
        rw [← HV.out] at HO
        clear H0 HV
        go_wp2_with fail
        refine HQ2.out.mono ?_
        rintro e w2 ⟨rfl, hb2⟩
        replace hcc := fun j u hu => Below.cell_some hb2 (hcc j u hu)
        have H2 := Lib.hid (H1.out.trans (hb2.mono H1.out.size))
        clear hb2 c0 c1 c2
        go_wp2_with (first | ((with_reducible refine at_slot 51 ?_); go_must (refine wpList_load_at aggMet rfl _ rfl ⟨q, 0, none⟩ rfl _ rfl hcc ?_)))
        refine (HO.out w2).mono ?_
        rintro e w3 ⟨rfl, hb3⟩
        have H3 := Lib.hid (H2.out.trans (hb3.mono H2.out.size))
        clear hb3
        go_wp2_with fail
        go_ret2
        exact ⟨rfl, H3.out⟩
      · have HV := H0.out.trans (if_neg he)
        simp only [Prod.mk.injEq] at HV
        obtain ⟨rfl, rfl⟩ := HV
        have hne : (re != 0) = true := by simpa using he
        clear H0 he
        go_wp2_with fail
        refine HQ2.out.mono ?_
        rintro e w2 ⟨rfl, hb2⟩
        have H2 := Lib.hid (H1.out.trans (hb2.mono H1.out.size))
        clear hb2
        go_wp2_with fail
        go_ret2
        exact ⟨rfl, H2.out⟩
    · have H01 := Lib.hid (H00.out.trans (if_neg hk2))
      clear H00
      by_cases hk3 : kind = 3
      · subst hk3
        have H0 := Lib.hid (H01.out.trans (if_pos rfl))
        clear H01
        obtain ⟨fx, hfx⟩ : ∃ x, (f extName).1 = x := ⟨_, rfl⟩
        obtain ⟨fe, hfe⟩ : ∃ x, (f extName).2 = x := ⟨_, rfl⟩
        have HQ2 := Lib.hid (HQ.out extName (by unfold maxLen; decide))
        rw [hfx, hfe] at HQ2 H0
        clear hfx hfe HQ
        by_cases he : fe = 0
        · subst he
          have HV := Lib.hid (H0.out.trans (if_pos rfl))
          have HO := Lib.hid (fun wx => pavg_any 3 target fx rep tol met wx)
          rw [← HV.out] at HO
          clear H0 HV
          go_wp2_with fail
          refine HQ2.out.mono ?_
          rintro e w2 ⟨rfl, hb2⟩
          replace hcc := fun j u hu => Below.cell_some hb2 (hcc j u hu)
          have H2 := Lib.hid (H1.out.trans (hb2.mono H1.out.size))
          clear hb2 c0 c1 c2
          go_wp2_with (first | ((with_reducible refine at_slot 71 ?_); go_must (refine wpList_load_at aggMet rfl _ rfl ⟨q, 0, none⟩ rfl _ rfl hcc ?_)))
          refine (HO.out w2).mono ?_
          rintro e w3 ⟨rfl, hb3⟩
          have H3 := Lib.hid (H2.out.trans (hb3.mono H2.out.size))
          clear hb3
          go_wp2_with fail
          go_ret2
          exact ⟨rfl, H3.out⟩
        · have HV := H0.out.trans (if_neg he)
          simp only [Prod.mk.injEq] at HV
          obtain ⟨rfl, rfl⟩ := HV
          have hne : (re != 0) = true := by simpa using he
          clear H0 he
          go_wp2_with fail
          refine HQ2.out.mono ?_
          rintro e w2 ⟨rfl, hb2⟩
          have H2 := Lib.hid (H1.out.trans (hb2.mono H1.out.size))
          clear hb2
          go_wp2_with fail
          go_ret2
          exact ⟨rfl, H2.out⟩
      · have HV := H01.out.trans (if_neg hk3)
        simp only [Prod.mk.injEq] at HV
        obtain ⟨rfl, rfl⟩ := HV
        have e0 : (kind == 0) = false := beq_eq_false_iff_ne.2 (fun h => hk (.inl h))
        have e1 : (kind == 1) = false := beq_eq_false_iff_ne.2 (fun h => hk (.inr h))
        have e2 : (kind == 2) = false := beq_eq_false_iff_ne.2 hk2
        have e3 : (kind == 3) = false := beq_eq_false_iff_ne.2 hk3
        clear hk hk2 hk3 H01 HQ
        go_wp2_with fail
        go_ret2
        exact ⟨rfl, H1.out⟩
end Go.Proofs.Ytojealgjfbjnoaa
