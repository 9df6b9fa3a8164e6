/- ScrapeNone: a book that isn't there has nothing, and takes nothing. Conditions: none. -/
import Derived.Test.YtolgkehlnhkgiaaScrapeNoneLift
import Derived.Test.YtolgkehlnhkgiaaScrapeLives
namespace Go.Proofs.Ytolgkehlnhkgiaa
open Go.ChangeShapes Go.WideShapes Go.ChangeAt Go.RowKit Go.Deep Go.Maps

set_option maxRecDepth 100000 in
set_option maxHeartbeats 1600000 in
theorem scrapeNone_core (now bits : Int) (sub met : ByteArray) (w : World) :
    Calls Try.prog 4 #[.int .i64 now, .agg #[.string sub, .string met], .int .u64 bits] w fun e w' => e = .returned (.bool true) ∧ Below w.heap.size w w' := by
  go_enter Try.func4, Try.ntmps4
  go_wp2_with fail
  have k0 : (w.alloc (.cells #[.string sub, .string met] 36)).cell? ⟨w.heap.size, 0, none⟩ = some (.string sub) := cell_new w _ _ 0
  have k1 : (w.alloc (.cells #[.string sub, .string met] 36)).cell? ⟨w.heap.size, 1, none⟩ = some (.string met) := cell_new w _ _ 1
  have hb0 : Below w.heap.size w (w.alloc (.cells #[.string sub, .string met] 36)) := (Below.refl _ _).alloc (Nat.le_refl _) _
  refine (lives11 _).mono ?_
  rintro e w1 ⟨rfl, hb1⟩
  have k0 := Below.cell_some hb1 k0
  have k1 := Below.cell_some hb1 k1
  have Hb1 := Lib.hid (hb0.trans (hb1.mono hb0.size))
  clear hb1 hb0
  go_wp2_with fail
  refine (scrapeNil_any _ _ _ _ _).mono ?_
  rintro e w2 ⟨rfl, hb2⟩
  have k0 := Below.cell_some hb2 k0
  have k1 := Below.cell_some hb2 k1
  have Hb2 := Lib.hid (Hb1.out.trans (hb2.mono Hb1.out.size))
  clear hb2
  go_wp2_with fail
  refine (freshNil_any _ _ _ _).mono ?_
  rintro e w3 ⟨rfl, hb3⟩
  have k0 := Below.cell_some hb3 k0
  have k1 := Below.cell_some hb3 k1
  have Hb3 := Lib.hid (Hb2.out.trans (hb3.mono Hb2.out.size))
  clear hb3
  go_upto_region 6 with fail
  replace k0 := BW.cell k0
  replace k1 := BW.cell k1
  refine wp_region_head_lit 28 (fun w' => ∃ p : BW w3, w' = p.w') (by kernel_rfl) (by kernel_rfl) ⟨⟨{ w3 with drawn := w3.drawn + 1 }, ⟨rfl, rfl, rfl, Nat.le_refl _, fun _ _ => rfl⟩⟩, rfl⟩ ?_
  simp only [List.take_succ_cons, List.take_zero, List.drop_succ_cons, List.drop_zero]
  repeat (quiet_step (first | (go_at_call 12; exact BW.call _ (rowNil_any _ _ _ _)) | (go_at_call 10; exact BW.call _ (forgetNil_any _ _)) | (go_at_call 13; exact BW.call _ (allNil_any _)) | (go_at_call 14; exact BW.call _ (copyNil_any _)) | exact rfl))
  refine wpQuiet_nil ?_
  intro w4 hw'
  obtain ⟨⟨_, hb4⟩, e4⟩ := hw'
  dsimp only at e4
  subst e4
  have Hb4 := Lib.hid (Hb3.out.trans (hb4.mono Hb3.out.size))
  clear hb4 k0 k1
  go_wp2_with fail
  go_ret
  exact ⟨rfl, Hb4.out⟩

theorem ScrapeNone_holds : Rows.ScrapeNoneSaid := lScrapeNone.over fun now c bits w _ h1 _ => by
  obtain ⟨a1, a2, e0, _, ⟨s0, rfl, _⟩, a3, a4, rfl, _, ⟨s1, rfl, _⟩, rfl⟩ := h1
  have hc : c = #[.string s0, .string s1] := by
    have : c.toList = [.string s0, .string s1] := e0
    exact Array.toList_inj.1 this
  subst hc
  exact scrapeNone_core now bits s0 s1 w
end Go.Proofs.Ytolgkehlnhkgiaa
