/- The contract of law 17's Few. Condition: the objects read; law 7's Few answers, and its yes says so. || Who goes first by chapter 16's definition: the contract of the law's sooner. Condition: phases of pods that live. (Parts of XRolSays, XRolSmall, for programs without chapter 35.) -/
import Derived.Test.YtjncoloedakpoaaDoorVictimCmpM
import Derived.Test.YtjncoloedakpoaaDoorRight07A
import Derived.Deep.QuietTactic
import Derived.Test.YtjncoloedakpoaaDoorRepGoneM
namespace Go.Proofs.YtjncoloedakpoaaDoor
open Go.ChangeShapes Go.WideShapes Go.ChangeAt Go.RowKit Go.Deep

theorem toList_injO {a b : ByteArray} : a.toList = b.toList ↔ a = b := by
  rw [Lib.toList_data, Lib.toList_data]
  exact ⟨bytes_inj, fun h => by rw [h]⟩

end Go.Proofs.YtjncoloedakpoaaDoor
namespace Go.Proofs.YtjncoloedakpoaaDoor
open Go.ChangeShapes Go.WideShapes Go.ChangeAt Go.RowKit Go.Deep

def soonV (x y : OV) : Bool := if x.phase = y.phase then (if x.since = y.since then (!Op.bytesLess x.name.toList y.name.toList && !(x.name.toList == y.name.toList)) else decide (x.since > y.since)) else decide (x.phase < y.phase)
def soonI (a b : ObI) : Bool := soonV a.ov b.ov
theorem may_o {x : ObI} (h : checkOf x.kd x.nm x.o = 0) : mayOk x.kd x.o = true := by
  unfold checkOf at h
  split at h
  · cases h
  · split at h
    · cases h
    · split at h
      · rename_i h1
        rw [Bool.and_eq_true] at h1
        exact h1.1
      · cases h
theorem btw_of {a l h : Int} (e : btw a l h = true) : l ≤ a ∧ a ≤ h := by
  unfold btw at e
  simpa using e
theorem wl_rep {x : ObI} (h : checkOf x.kd x.nm x.o = 0) (hk : x.kd = 0) : 0 ≤ x.o.w.rep ∧ x.o.w.rep ≤ 1000000 := by
  have := may_o h
  rw [hk] at this
  unfold mayOk at this
  rw [if_pos rfl] at this
  unfold wlOk at this
  rw [Bool.and_eq_true] at this
  exact btw_of this.1
theorem pod_ph {x : ObI} (h : checkOf x.kd x.nm x.o = 0) (hk : x.kd = 1) : 0 ≤ x.o.p.phase ∧ x.o.p.phase ≤ 3 := by
  have := may_o h
  rw [hk] at this
  unfold mayOk at this
  rw [if_neg (by decide), if_pos rfl] at this
  unfold podOk at this
  simp only [Bool.and_eq_true] at this
  exact btw_of this.2.2.1

theorem later_nm {a b : List UInt8} : (!Op.bytesLess a b && !(a == b)) = Op.bytesLess b a := by
  cases h1 : Op.bytesLess a b
  · cases h2 : Op.bytesLess b a
    · have := less_tri h1 h2
      subst this
      simp
    · have : a ≠ b := fun e => by subst e; rw [less_irrefl] at h2; cases h2
      simp [this]
  · cases h2 : Op.bytesLess b a
    · rfl
    · have := less_trO h1 h2
      rw [less_irrefl] at this
      cases this
theorem soon_iff (a b : ObI) : soonI a b = true ↔ a.o.p.phase < b.o.p.phase ∨ (a.o.p.phase = b.o.p.phase ∧ (b.o.p.since < a.o.p.since ∨ (b.o.p.since = a.o.p.since ∧ Op.bytesLess b.nm.toList a.nm.toList = true))) := by
  have e : soonI a b = if a.o.p.phase = b.o.p.phase then (if a.o.p.since = b.o.p.since then (!Op.bytesLess a.nm.toList b.nm.toList && !(a.nm.toList == b.nm.toList)) else decide (a.o.p.since > b.o.p.since)) else decide (a.o.p.phase < b.o.p.phase) := rfl
  rw [e, later_nm]
  by_cases h1 : a.o.p.phase = b.o.p.phase
  · rw [if_pos h1]
    by_cases h2 : a.o.p.since = b.o.p.since
    · rw [if_pos h2, h1, h2]
      simp
    · rw [if_neg h2, h1]
      simp
      omega
  · rw [if_neg h1]
    simp [h1]
theorem soon_tr (a b c : ObI) (h1 : soonI a b = true) (h2 : soonI b c = true) : soonI a c = true := by
  rw [soon_iff] at *
  rcases h1 with h1 | ⟨e1, h1⟩
  · rcases h2 with h2 | ⟨e2, _⟩
    · exact .inl (by omega)
    · exact .inl (by omega)
  · rcases h2 with h2 | ⟨e2, h2⟩
    · exact .inl (by omega)
    · refine .inr ⟨e1.trans e2, ?_⟩
      rcases h1 with h1 | ⟨f1, h1⟩
      · rcases h2 with h2 | ⟨f2, _⟩
        · exact .inl (by omega)
        · exact .inl (by omega)
      · rcases h2 with h2 | ⟨f2, h2⟩
        · exact .inl (by omega)
        · exact .inr ⟨f2.trans f1, less_trO h2 h1⟩
theorem soon_irr (a b : ObI) (h1 : soonI a b = true) (h2 : soonI b a = true) : False := by
  have := soon_tr _ _ _ h1 h2
  rw [soon_iff] at this
  rcases this with h | ⟨_, h | ⟨_, h⟩⟩
  · omega
  · omega
  · rw [less_irrefl] at h
    cases h
theorem soon_of {a b : TOb} (ha : 0 ≤ a.1.o.p.phase ∧ a.1.o.p.phase ≤ 2) (hb : 0 ≤ b.1.o.p.phase ∧ b.1.o.p.phase ≤ 2) (hne : a.1.nm ≠ b.1.nm) (h : TOOb a b) : soonI a.1 b.1 = true := by
  have hr : ∀ p : Int, 0 ≤ p ∧ p ≤ 2 → rankI p = p + 1 := fun p hp => by
    unfold rankI
    repeat' split
    all_goals omega
  rw [soon_iff]
  unfold TOOb at h
  rw [hr _ ha, hr _ hb] at h
  rcases h with h | ⟨h1, h⟩
  · exact .inl (by omega)
  · refine .inr ⟨by omega, ?_⟩
    rcases h with h | ⟨h2, h⟩
    · exact .inl h
    · refine .inr ⟨h2, ?_⟩
      rcases h with h | ⟨h3, _⟩
      · exact h
      · exact absurd (toList_injO.1 h3.symm) hne


set_option maxRecDepth 100000 in
theorem rank16_any (x : OV) (hp : 0 ≤ x.phase ∧ x.phase ≤ 2) (w : World) : Calls Tryd.prog 31 #[.agg x.cells.toArray] w fun e w' => e = .returned (.int .i64 (x.phase + 1)) ∧ Below w.heap.size w w' := by
  have x12 : (w.alloc (.cells x.cells.toArray 44)).cell? ⟨w.heap.size, 12, none⟩ = some (.int .i64 x.phase) := by
    have := (cell_new w x.cells.toArray 44 12).trans (by simpa using x.h12)
    rwa [Addr.add_lit, Nat.zero_add] at this
  obtain ⟨p, hpe⟩ : ∃ p, x.phase = p := ⟨_, rfl⟩
  rw [hpe] at x12 hp ⊢
  obtain ⟨W, hW⟩ : ∃ W, w.alloc (.cells x.cells.toArray 44) = W := ⟨_, rfl⟩
  rw [hW] at x12
  have hB : Below w.heap.size w W := by rw [← hW]; exact (Below.refl _ _).alloc (Nat.le_refl _) _
  have HB := Lib.hid hB
  have hz := hB.size
  clear hpe hB
  have : p = 0 ∨ p = 1 ∨ p = 2 := by omega
  clear hp
  have hx12 : ∀ cs T, (W.alloc (.cells cs T)).cell? ⟨w.heap.size, 12, none⟩ = some (.int .i64 p) := fun cs T => Below.cell_some ((Below.refl _ _).alloc (Nat.le_refl _) _) x12
  rcases this with rfl | rfl | rfl
  all_goals
    go_enter Tryd.func31, Tryd.ntmps31
    go_wp2_with fail
    go_ret
    exact ⟨rfl, HB.out.alloc hz _⟩

set_option maxRecDepth 100000 in
theorem sooner_any (x y : OV) (hx : 0 ≤ x.phase ∧ x.phase ≤ 2) (hy : 0 ≤ y.phase ∧ y.phase ≤ 2) (w : World) : Calls Tryd.prog 23 #[.agg x.cells.toArray, .agg y.cells.toArray] w fun e w' => e = .returned (.bool (soonV x y)) ∧ Below w.heap.size w w' := by
  have HRx := Lib.hid (fun w => rank16_any x hx w)
  have HRy := Lib.hid (fun w => rank16_any y hy w)
  obtain ⟨w2, hw2⟩ : ∃ w2, (w.alloc (.cells x.cells.toArray 44)).alloc (.cells y.cells.toArray 44) = w2 := ⟨_, rfl⟩
  have hB : Below w.heap.size w w2 := by rw [← hw2]; exact ((Below.refl _ _).alloc (Nat.le_refl _) _).alloc (by simp) _
  have hX : ∀ j u, x.cells[j]? = some u → w2.cell? ⟨w.heap.size, j, none⟩ = some u := fun j u hu => by
    rw [← hw2]
    refine Below.cell_some ((Below.refl _ _).alloc (Nat.le_refl _) _) ?_
    have := (cell_new w x.cells.toArray 44 j).trans (by simpa using hu)
    rwa [Addr.add_lit, Nat.zero_add] at this
  have hY : ∀ j u, y.cells[j]? = some u → w2.cell? ⟨w.heap.size + 1, j, none⟩ = some u := fun j u hu => by
    rw [← hw2]
    have := (cell_new (w.alloc (.cells x.cells.toArray 44)) y.cells.toArray 44 j).trans (by simpa using hu)
    rw [World.size_alloc] at this
    rwa [Addr.add_lit, Nat.zero_add] at this
  have hz2 : w2.heap.size = w.heap.size + 2 := by rw [← hw2]; simp
  have hd1 : ∀ t u, x.cells[t]? = some u → w2.cell? (Addr.add ⟨w.heap.size, 0, none⟩ t) = some u := fun t u hu => by rw [Addr.add_lit, Nat.zero_add]; exact hX t u hu
  have hd2 : ∀ t u, y.cells[t]? = some u → w2.cell? (Addr.add ⟨w.heap.size + 1, 0, none⟩ t) = some u := fun t u hu => by rw [Addr.add_lit, Nat.zero_add]; exact hY t u hu
  have de1 := BW.cells hd1
  have de2 := BW.cells hd2
  have HX := Lib.hid hX
  have HY := Lib.hid hY
  have HB := Lib.hid hB
  have h1 := Lib.hid x.h1
  have h13 := Lib.hid x.h13
  have g1 := Lib.hid y.h1
  have g13 := Lib.hid y.h13
  have hv : soonV x y = if x.phase = y.phase then (if x.since = y.since then (!Op.bytesLess x.name.toList y.name.toList && !(x.name.toList == y.name.toList)) else decide (x.since > y.since)) else decide (x.phase < y.phase) := rfl
  obtain ⟨sv, hsv⟩ : ∃ sv, soonV x y = sv := ⟨_, rfl⟩
  rw [hsv] at hv ⊢
  obtain ⟨xc, hxe⟩ : ∃ c, x.cells = c := ⟨_, rfl⟩
  have hxl : xc.length = 47 := by rw [← hxe]; exact x.hlen
  obtain ⟨yc, hye⟩ : ∃ c, y.cells = c := ⟨_, rfl⟩
  have hyl : yc.length = 47 := by rw [← hye]; exact y.hlen
  rw [hxe] at HRx HX h1 h13 de1 hw2 ⊢
  rw [hye] at HRy HY g1 g13 de2 hw2 ⊢
  obtain ⟨p, hp⟩ : ∃ p, x.phase = p := ⟨_, rfl⟩
  obtain ⟨r, hr⟩ : ∃ p, y.phase = p := ⟨_, rfl⟩
  obtain ⟨s, hs⟩ : ∃ p, x.since = p := ⟨_, rfl⟩
  obtain ⟨t, ht⟩ : ∃ p, y.since = p := ⟨_, rfl⟩
  obtain ⟨a, ha⟩ : ∃ p, x.name = p := ⟨_, rfl⟩
  obtain ⟨b, hb⟩ : ∃ p, y.name = p := ⟨_, rfl⟩
  rw [hp] at HRx hx hv
  rw [hr] at HRy hy hv
  rw [hs] at h13 hv
  rw [ht] at g13 hv
  rw [ha] at h1 hv
  rw [hb] at g1 hv
  have HSV := Lib.hid hv
  clear hxe hye hp hr hs ht ha hb hX hY hB hd1 hd2 hv hsv
  go_enter Tryd.func23, Tryd.ntmps23
  go_upto_region 2 with fail
  refine wp_region_head_lit 6 (fun w' => ∃ p : BW w2, w' = p.w') (by kernel_rfl) (by kernel_rfl) ⟨⟨{ w2 with drawn := w2.drawn + 1 }, ⟨rfl, rfl, rfl, Nat.le_refl _, fun _ _ => rfl⟩⟩, rfl⟩ ?_
  simp only [List.take_succ_cons, List.take_zero, List.drop_succ_cons, List.drop_zero]
  repeat (first | (refine wpQuiet_load aggObI rfl _ rfl ⟨w.heap.size, 0, none⟩ rfl xc hxl (by rintro _ ⟨bw, rfl⟩; exact de1 bw) ?_) | (refine wpQuiet_load aggObI rfl _ rfl ⟨w.heap.size + 1, 0, none⟩ rfl yc hyl (by rintro _ ⟨bw, rfl⟩; exact de2 bw) ?_) | quiet_step (first | (go_at_call 31; first | with_reducible exact BW.call _ (HRx.out _) | with_reducible exact BW.call _ (HRy.out _)) | exact rfl))
  refine wpQuiet_nil ?_
  intro w3 hw'
  obtain ⟨⟨w3', hb3⟩, e3⟩ := hw'
  dsimp only at e3
  subst e3
  obtain ⟨w4, hw4⟩ : ∃ w4 : World, w4 = w3 := ⟨_, rfl⟩
  rw [← hw4] at hb3 ⊢
  have Hb3 := Lib.hid hb3
  clear hw4 w3 de1 de2
  have HB4 : Hid (Below w.heap.size w w4) := HB.out.trans (hb3.mono (by omega))
  by_cases hpr : p = r
  · subst hpr
    have hne : (p + 1 != p + 1) = false := by simp
    have c1 : w4.cell? ⟨w.heap.size, 1, none⟩ = some (.string a) := Below.cell_some hb3 (HX.out 1 _ h1.out)
    have c13 : w4.cell? ⟨w.heap.size, 13, none⟩ = some (.int .i64 s) := Below.cell_some hb3 (HX.out 13 _ h13.out)
    have d1 : w4.cell? ⟨w.heap.size + 1, 1, none⟩ = some (.string b) := Below.cell_some hb3 (HY.out 1 _ g1.out)
    have d13 : w4.cell? ⟨w.heap.size + 1, 13, none⟩ = some (.int .i64 t) := Below.cell_some hb3 (HY.out 13 _ g13.out)
    clear hb3 HX HY h1 h13 g1 g13 HRx HRy
    by_cases hst : s = t
    · subst hst
      have hv : Hid ((if p = p then (if s = s then (!Op.bytesLess a.toList b.toList && !(a.toList == b.toList)) else decide (s > s)) else decide (p < p)) = (!Op.bytesLess a.toList b.toList && !(a.toList == b.toList))) := (if_pos rfl).trans (if_pos rfl)
      obtain ⟨q, hq⟩ : ∃ q, (!Op.bytesLess a.toList b.toList && !(a.toList == b.toList)) = q := ⟨_, rfl⟩
      have HQ : Hid (q = sv) := (HSV.out.trans (hv.out.trans hq)).symm
      go_wp2_with fail
      go_ret
      exact ⟨ret_bool HQ.out, HB4.out⟩
    · have hv : Hid ((if p = p then (if s = t then (!Op.bytesLess a.toList b.toList && !(a.toList == b.toList)) else decide (s > t)) else decide (p < p)) = decide (s > t)) := (if_pos rfl).trans (if_neg hst)
      have hne2 : (s != t) = true := by simpa using hst
      obtain ⟨q, hq⟩ : ∃ q, decide (s > t) = q := ⟨_, rfl⟩
      have HQ : Hid (q = sv) := (HSV.out.trans (hv.out.trans hq)).symm
      clear hst
      go_wp2_with fail
      go_ret
      exact ⟨ret_bool HQ.out, HB4.out⟩
  · have hne : (p + 1 != r + 1) = true := by simp; omega
    have hv : Hid ((if p = r then (if s = t then (!Op.bytesLess a.toList b.toList && !(a.toList == b.toList)) else decide (s > t)) else decide (p < r)) = decide (p < r)) := if_neg hpr
    obtain ⟨q, hq⟩ : ∃ q, decide (p < r) = q := ⟨_, rfl⟩
    have HQ : Hid (q = sv) := (HSV.out.trans (hv.out.trans hq)).symm
    have hd1 : ∀ t u, xc[t]? = some u → w4.cell? (Addr.add ⟨w.heap.size, 0, none⟩ t) = some u := fun t u hu => by rw [Addr.add_lit, Nat.zero_add]; exact Below.cell_some hb3 (HX.out t u hu)
    have hd2 : ∀ t u, yc[t]? = some u → w4.cell? (Addr.add ⟨w.heap.size + 1, 0, none⟩ t) = some u := fun t u hu => by rw [Addr.add_lit, Nat.zero_add]; exact Below.cell_some hb3 (HY.out t u hu)
    have de1 := BW.cells hd1
    have de2 := BW.cells hd2
    have hz4 := hb3.size
    clear hpr hb3 hd1 hd2 hv
    go_upto_region 3 with fail
    refine wp_region_head_lit 6 (fun w' => ∃ p : BW w4, w' = p.w') (by kernel_rfl) (by kernel_rfl) ⟨⟨{ w4 with drawn := w4.drawn + 1 }, ⟨rfl, rfl, rfl, Nat.le_refl _, fun _ _ => rfl⟩⟩, rfl⟩ ?_
    simp only [List.take_succ_cons, List.take_zero, List.drop_succ_cons, List.drop_zero]
    repeat (first | (refine wpQuiet_load aggObI rfl _ rfl ⟨w.heap.size, 0, none⟩ rfl xc hxl (by rintro _ ⟨bw, rfl⟩; exact de1 bw) ?_) | (refine wpQuiet_load aggObI rfl _ rfl ⟨w.heap.size + 1, 0, none⟩ rfl yc hyl (by rintro _ ⟨bw, rfl⟩; exact de2 bw) ?_) | quiet_step (first | (go_at_call 31; first | with_reducible exact BW.call _ (HRx.out _) | with_reducible exact BW.call _ (HRy.out _)) | exact rfl))
    refine wpQuiet_nil ?_
    intro w5 hw'
    obtain ⟨⟨w5', hb5⟩, e5⟩ := hw'
    dsimp only at e5
    subst e5
    have Hb5 := Lib.hid (HB4.out.trans (hb5.mono (by omega)))
    clear hb5 de1 de2
    go_wp2_with fail
    go_ret
    exact ⟨ret_bool HQ.out, Hb5.out⟩
end Go.Proofs.YtjncoloedakpoaaDoor
