/- QueryOnes: what is told of a thing, and its rate, is what is fresh of it. Conditions: none. -/
import Derived.Test.YtamhijbnmhdhbaaQueryOnesLift
import Derived.Test.YtamhijbnmhdhbaaQLivesM
namespace Go.Proofs.Ytamhijbnmhdhbaa
open Go.ChangeShapes Go.WideShapes Go.ChangeAt Go.RowKit Go.Deep Go.Maps

theorem livesQ (w : World) : Calls Try.prog 5 #[] w fun e w' => e = .returned (.bool true) ∧ Below w.heap.size w w' := E.lives13 w

set_option maxRecDepth 100000 in
set_option maxHeartbeats 2000000 in
theorem queryOnes_core (most age now : Int) (thing metric : ByteArray) (l : List SmQ) (ao : Option Addr) (n cap : Nat) (w : World) (hS : SlR (Flat SmQ.cells) 4 w ao n cap l) (hnow : now ≤ 9223372036854775807) (ht : thing.size ≤ maxLen) (hm : metric.size ≤ maxLen) :
    Calls Try.prog 3 #[.agg #[.int .i64 most, .int .i64 age], .slice ao n cap, .int .i64 now, .string thing, .string metric] w fun e w' => e = .returned (.bool true) ∧ Below w.heap.size w w' := by
  obtain ⟨w1, hw1⟩ : ∃ w1, w.alloc (.cells #[.int .i64 most, .int .i64 age] 23) = w1 := ⟨_, rfl⟩
  have hb1 : Below w.heap.size w w1 := by rw [← hw1]; exact (Below.refl _ _).alloc (Nat.le_refl _) _
  have c0 : w1.cell? ⟨w.heap.size, 0, none⟩ = some (.int .i64 most) := by rw [← hw1]; exact cell_new w _ _ 0
  have c1 : w1.cell? ⟨w.heap.size, 1, none⟩ = some (.int .i64 age) := by rw [← hw1]; exact cell_new w _ _ 1
  have HK := Lib.hid (book_any most age l ao n cap w1 (hS.flatKeeps (Keeps.below hb1)))
  have H1 := Lib.hid hb1
  clear hS hb1
  go_enter Try.func3, Try.ntmps3
  go_wp2_with fail
  refine HK.out.mono ?_
  rintro e w2 ⟨hb2, hK⟩
  have H2 := Lib.hid (H1.out.trans (hb2.mono H1.out.size))
  clear hb2 HK
  rcases hK with rfl | ⟨bb, bm, mo, E, rfl, hB, hA, ha1, ha2⟩
  · go_wp2_with fail
    refine (livesQ w2).mono ?_
    rintro e w3 ⟨rfl, hb3⟩
    have H3 := Lib.hid (H2.out.trans (hb3.mono H2.out.size))
    clear hb3
    go_wp2_with fail
    refine (livesQ w3).mono ?_
    rintro e w4 ⟨rfl, hb4⟩
    have H4 := Lib.hid (H3.out.trans (hb4.mono H3.out.size))
    clear hb4
    go_wp2_with fail
    go_ret
    exact ⟨rfl, H4.out⟩
  · have HB := Lib.hid hB
    have HA := Lib.hid hA
    have Ha := Lib.hid (And.intro ha1 ha2)
    have Hm := Lib.hid (And.intro hnow (And.intro ht hm))
    have hne : ∀ w, ((binOp .eql 25 (.pointer (some ⟨bb, 0, none⟩)) (.pointer none) : Sem Value)).run Try.prog w = .ok (.bool false) w := fun w => by kernel_rfl
    clear hB hA ha1 ha2 hnow ht hm
    go_wp2_with fail
    refine (livesQ w2).mono ?_
    rintro e w3 ⟨rfl, hb3⟩
    have HB3 := Lib.hid (HB.out.keep hb3)
    have H3 := Lib.hid (H2.out.trans (hb3.mono H2.out.size))
    clear hb3 HB
    go_wp2_with fail
    obtain ⟨w4, hw4⟩ : ∃ w4, w3.alloc (.cells #[.string thing, .string metric] 29) = w4 := ⟨_, rfl⟩
    have hb4 : Below w3.heap.size w3 w4 := by rw [← hw4]; exact (Below.refl _ _).alloc (Nat.le_refl _) _
    have d0 : w4.cell? ⟨w3.heap.size, 0, none⟩ = some (.string thing) := by rw [← hw4]; exact cell_new w3 _ _ 0
    have d1 : w4.cell? ⟨w3.heap.size, 1, none⟩ = some (.string metric) := by rw [← hw4]; exact cell_new w3 _ _ 1
    have hlt : w3.heap.size < w4.heap.size := by rw [← hw4]; simp
    have HB4 := Lib.hid (HB3.out.keep hb4)
    have H4 := Lib.hid (H3.out.trans (hb4.mono H3.out.size))
    rw [hw4]
    clear hb4 hw4 HB3
    obtain ⟨q, hq⟩ : ∃ q, w3.heap.size = q := ⟨_, rfl⟩
    rw [hq] at d0 d1 hlt ⊢
    clear hq
    have HF : Hid (∀ wx, BookAt wx w1.heap.size bb bm mo age E → _) := fun wx hB => fresh_book w1.heap.size bb bm mo age now E thing metric wx hB Hm.out.2.1 Hm.out.2.2 Hm.out.1 Ha.out.1 Ha.out.2
    have HQ : Hid (∀ wx, BookAt wx w1.heap.size bb bm mo age E → _) := fun wx hB => qrate_any w1.heap.size bb bm mo age now E thing metric wx hB HA.out Hm.out.2.1 Hm.out.2.2
    have HR : Hid (∀ wx, BookAt wx w1.heap.size bb bm mo age E → _) := fun wx hB => row_book w1.heap.size bb bm mo age now E thing metric wx hB Hm.out.2.1 Hm.out.2.2
    have HL := Lib.hid (rowQ_at (age := age) (now := now) (heldL_at HA.out HB4.out (serBytes thing.data.toList metric.data.toList)))
    obtain ⟨fx, hfx⟩ : ∃ x, (freshOf age now (heldL E (serBytes thing.data.toList metric.data.toList))).1 = x := ⟨_, rfl⟩
    obtain ⟨fe, hfe⟩ : ∃ x, (freshOf age now (heldL E (serBytes thing.data.toList metric.data.toList))).2 = x := ⟨_, rfl⟩
    obtain ⟨lq, hlq⟩ : ∃ x, rowQ age now (heldL E (serBytes thing.data.toList metric.data.toList)) = x := ⟨_, rfl⟩
    rw [hfx, hfe] at HF
    rw [hlq] at HQ HR HL
    clear hfx hfe hlq
    obtain ⟨rx, hrx⟩ : ∃ x, (rateOf lq).1 = x := ⟨_, rfl⟩
    obtain ⟨re, hre⟩ : ∃ x, (rateOf lq).2 = x := ⟨_, rfl⟩
    rw [hrx, hre] at HQ
    have HRt : Hid (∀ ao n cap wx, SlR (Flat Smp.cells) 2 wx ao n cap lq → _) := fun ao n cap wx hS => rate_any lq ao n cap wx hS HL.out
    rw [hrx, hre] at HRt
    clear hrx hre HL
    go_wp2_with fail
    refine (one_any (HF.out w4 HB4.out)).mono ?_
    rintro e w5 ⟨rfl, hb5⟩
    have d0 := (hb5.cell (p := ⟨q, 0, none⟩) hlt).trans d0
    have d1 := (hb5.cell (p := ⟨q, 1, none⟩) hlt).trans d1
    have hlt5 : q < w5.heap.size := Nat.lt_of_lt_of_le hlt hb5.size
    have HB5 := Lib.hid (HB4.out.keep hb5)
    have H5 := Lib.hid (H4.out.trans (hb5.mono H4.out.size))
    clear hb5 HB4
    go_wp2_with fail
    refine (HF.out w5 HB5.out).mono ?_
    rintro e w6 ⟨rfl, hb6⟩
    have d0 := (hb6.cell (p := ⟨q, 0, none⟩) hlt5).trans d0
    have d1 := (hb6.cell (p := ⟨q, 1, none⟩) hlt5).trans d1
    have hlt6 : q < w6.heap.size := Nat.lt_of_lt_of_le hlt5 hb6.size
    have HB6 := Lib.hid (HB5.out.keep hb6)
    have H6 := Lib.hid (H5.out.trans (hb6.mono H5.out.size))
    clear hb6 HB5
    go_wp2_with fail
    refine (HQ.out w6 HB6.out).mono ?_
    rintro e w7 ⟨rfl, hb7⟩
    have d0 := (hb7.cell (p := ⟨q, 0, none⟩) hlt6).trans d0
    have d1 := (hb7.cell (p := ⟨q, 1, none⟩) hlt6).trans d1
    have HB7 := Lib.hid (HB6.out.keep hb7)
    have H7 := Lib.hid (H6.out.trans (hb7.mono H6.out.size))
    clear hb7 HB6
    go_wp2_with fail
    refine (HR.out w7 HB7.out).mono ?_
    rintro e w8 ⟨ao8, n8, cap8, rfl, hS8, hb8⟩
    have HR8 := Lib.hid (HRt.out _ _ _ w8 hS8)
    have H8 := Lib.hid (H7.out.trans (hb8.mono H7.out.size))
    clear hb8 hS8 HB7
    go_wp2_with fail
    refine HR8.out.mono ?_
    rintro e w9 ⟨rfl, hb9⟩
    have H9 := Lib.hid (H8.out.trans (hb9.mono H8.out.size))
    clear hb9 HR8
    go_wp2_with fail
    refine (one_any (freshNil_any now thing metric w9)).mono ?_
    rintro e w10 ⟨rfl, hb10⟩
    have H10 := Lib.hid (H9.out.trans (hb10.mono H9.out.size))
    clear hb10
    go_wp2_with fail
    go_ret
    exact ⟨ret_bool (by simp), H10.out⟩

theorem smQ_of (w : World) (c : List Value) (h : Rel (.pair (.int .i64) (.pair (.pair (.str) (.pair (.str) (.unit))) (.pair (.int .u64) (.unit)))) w c) : ∃ m, Flat SmQ.cells w m c := by
  obtain ⟨_, _, rfl, _, ⟨n1, rfl, _⟩, _, _, rfl, _, ⟨_, _, rfl, _, ⟨s1, rfl, h1⟩, _, _, rfl, _, ⟨s2, rfl, h2⟩, rfl⟩, _, _, rfl, _, ⟨n2, rfl, hw⟩, rfl⟩ := h
  simp [Lit.wf, IntKind.min, IntKind.max, IntKind.signed, IntKind.bits] at hw
  obtain ⟨k, rfl⟩ : ∃ k : Nat, n2 = k := ⟨n2.toNat, by omega⟩
  exact ⟨⟨n1, s1, s2, k, by omega, h1, h2⟩, rfl⟩

theorem QueryOnes_holds : Rows.QueryOnesSaid := lQueryOnes.over fun a b c d n2 s3 s4 w h0 h1 h2 h3 h4 => by
  obtain ⟨_, _, _, l, e1, hS⟩ := SlR.of_rel h1 (fun c hc => smQ_of w c hc)
  simp [Value.cells] at e1
  obtain ⟨rfl, rfl, rfl⟩ := e1
  obtain ⟨_, _, e0, _, ⟨m0, rfl, _⟩, _, _, rfl, _, ⟨m1, rfl, _⟩, rfl⟩ := h0
  have e0 : a = #[.int .i64 m0, .int .i64 m1] := by
    have : a.toList = [.int .i64 m0, .int .i64 m1] := e0
    rw [← Array.toArray_toList (xs := a), this]
  subst e0
  obtain ⟨n, e2, hw⟩ := h2
  simp [Value.cells] at e2
  subst e2
  simp [Lit.wf, IntKind.min, IntKind.max, IntKind.signed, IntKind.bits] at hw
  obtain ⟨t3, e3, h3⟩ := h3
  simp [Value.cells] at e3
  subst e3
  obtain ⟨t4, e4, h4⟩ := h4
  simp [Value.cells] at e4
  subst e4
  exact queryOnes_core m0 m1 _ _ _ l _ _ _ w hS (by omega) h3 h4
end Go.Proofs.Ytamhijbnmhdhbaa
