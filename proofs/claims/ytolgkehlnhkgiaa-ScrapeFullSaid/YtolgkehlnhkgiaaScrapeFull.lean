/- ScrapeFull: at most 512 series; those that are there go on. Conditions: none. -/
import Derived.Test.YtolgkehlnhkgiaaScrapeFullLift
import Derived.Test.YtolgkehlnhkgiaaFullPlain
namespace Go.Proofs.Ytolgkehlnhkgiaa
open Go.ChangeShapes Go.WideShapes Go.ChangeAt Go.RowKit Go.Deep Go.Maps

set_option maxRecDepth 100000 in
set_option maxHeartbeats 4000000 in
theorem scrapeFull_core (kk j : Nat) (hkk : kk ≤ 65535) (hj : j = kk % 512) (w : World) :
    Calls Try.prog 3 #[.int .u16 kk] w fun e w' => e = .returned (.bool true) ∧ Below w.heap.size w w' := by
  have hjl : j < 512 := by omega
  have hrem : Hid ((kk : Int) % 512 = j) := by show _ = _; omega
  have Hjl := Lib.hid hjl
  clear hj hjl
  go_enter Try.func3, Try.ntmps3
  go_wp2_with fail
  refine (lives11 w).mono ?_
  rintro e w1 ⟨rfl, hb1⟩
  have H1 := Lib.hid hb1
  clear hb1
  go_wp2_with fail
  refine (newBook_any 2 10 w1 (by decide) (by decide) (by decide) (by decide)).mono ?_
  rintro e w2 ⟨bb, bm, rfl, hB2, hb2⟩
  have HB2 := Lib.hid hB2
  have Hb2 := Lib.hid hb2
  obtain ⟨B, hBe⟩ : ∃ B, w1.heap.size = B := ⟨_, rfl⟩
  rw [hBe] at HB2 Hb2
  have HBe := Lib.hid hBe
  clear hB2 hb2 hBe
  go_wp2_with fail
  go_loopw [23] (fun i wr => ∃ (k : Nat) (E : List En), k ≤ 512 ∧ i = .int .i64 k ∧ Hid (BookAt wr B bb bm 2 10 E ∧ Subs E k ∧ Ones E ∧ Below B w1 wr)) (fun i _ => 512 - (intOf i).toNat)
  case atStart => exact ⟨0, [], by omega, rfl, HB2.out, rfl, (fun e he => by cases he), Hb2.out⟩
  case round =>
    obtain ⟨k, E, hk, rfl, hI⟩ := hrel
    obtain ⟨wp, rfl⟩ : ∃ wp : World, wp = wr := ⟨_, rfl⟩
    by_cases hlt : k < 512
    · go_wp2_with fail
      refine (name11_any k hlt _).mono ?_
      rintro e wa ⟨rfl, hba⟩
      have hz3 := nmP_size k
      obtain ⟨HB, HS, HO, Hb⟩ := hI.out
      have hBa := HB.keep hba
      have hrun := scrape_new B bb bm 2 10 E 1 (nmP k) sM 0 wa hBa (by decide) (by rw [nmP_size]; decide) (by decide) (pre_k hlt 1 (by decide) (by decide)) (HS.none (by rw [nmP_size]; decide) (fun j hj hh => by have := nmP_inj (by omega) hlt hh; omega)) (by rw [HS.len]; exact hlt)
      rw [ref0] at hrun
      have hs : B ≤ wp.heap.size := HBe.out ▸ Hb.size
      have Hrun := Lib.hid hrun
      have Hbb := Lib.hid (Hb.trans (hba.mono hs))
      have hsa : B ≤ wa.heap.size := Nat.le_trans hs hba.size
      have hbmB := HB.base.2.1
      have HS := Lib.hid HS
      have HO := Lib.hid HO
      clear hba hBa hrun HB Hb hI
      obtain ⟨nm, hnm⟩ : ∃ nm, nmP k = nm := ⟨_, rfl⟩
      rw [hnm] at Hrun hz3 ⊢
      have Hnm := Lib.hid hnm
      clear hnm
      go_wp2_with fail
      refine Hrun.out.mono ?_
      rintro e wb ⟨rb, lb, rfl, hBb, hrb, hlb, hFb⟩
      have HIb : Hid (BookAt wb B bb bm 2 10 (E ++ [⟨nm, sM, rb, lb, [⟨1, 0⟩]⟩]) ∧ Subs (E ++ [⟨nm, sM, rb, lb, [⟨1, 0⟩]⟩]) (k + 1) ∧ Ones (E ++ [⟨nm, sM, rb, lb, [⟨1, 0⟩]⟩]) ∧ Below B w1 wb) := by
        refine ⟨hBb, by rw [← Hnm.out]; exact HS.out.snoc _ _ _, fun e he => ?_, Hbb.out.trans (hFb.below hsa (fun q hq => by rw [hq]; exact hbmB))⟩
        rcases List.mem_append.1 he with h | h
        · exact HO.out e h
        · rw [List.mem_singleton.1 h]
      clear hBb hFb Hrun
      go_wp2_with fail
      go_roundw
      case rel => exact ⟨k + 1, _, by omega, by go_num, HIb.out⟩
      case measure => simp [intOf]; omega
    · obtain rfl : k = 512 := by omega
      obtain ⟨HB, HS, HO, Hb⟩ := hI.out
      have hs : B ≤ wp.heap.size := HBe.out ▸ Hb.size
      have hlen := HS.len
      have hO := HS.none (s := sOther) (by decide) (fun j _ => nmP_other j)
      have hf1 := scrape_full B bb bm 2 10 E 1 sOther sM 0 wp HB (by decide) (by decide) (by decide) pre_other hO (by omega)
      have Hf1 := Lib.hid hf1
      have hbs := HB.base
      have HB := Lib.hid HB
      have HS := Lib.hid HS
      have HO := Lib.hid HO
      have HbW := Lib.hid Hb
      have HOth := Lib.hid hO
      have Hlen := Lib.hid hlen
      clear hf1 Hb hO hlen hI
      go_wp2_with fail
      refine Hf1.out.mono ?_
      rintro e wa ⟨rfl, hba⟩
      have Hba := Lib.hid hba
      have hsa : B ≤ wa.heap.size := Nat.le_trans hs hba.size
      have HBa := Lib.hid (HB.out.keep hba)
      clear hba
      go_wp2_with fail
      rw [hrem.out]
      refine (name11_any j Hjl.out _).mono ?_
      rintro e wb ⟨rfl, hbb⟩
      have hBb := HBa.out.keep hbb
      obtain ⟨en, hen, hem⟩ := HS.out.some Hjl.out
      have hput := scrape_put B bb bm 2 10 E 2 (nmP j) sM 0 wb hBb (by decide) (by rw [nmP_size]; decide) (by decide) (pre_k Hjl.out 2 (by decide) (by decide)) (by rw [Hlen.out]; omega) en hen
      unfold ScrapePost at hput
      rw [ref0, HO.out en hem] at hput
      rw [show (⟨2, ((0 : Nat) : Int)⟩ : Sm) = ⟨2, 0⟩ from rfl, put_two] at hput
      have Hput := Lib.hid hput
      have Hbb := Lib.hid hbb
      have hsb : B ≤ wb.heap.size := Nat.le_trans hsa hbb.size
      have hBb2 := hBb
      clear hbb hBb hput
      have hz3 := nmP_size j
      obtain ⟨nm, hnm⟩ : ∃ nm, nmP j = nm := ⟨_, rfl⟩
      rw [hnm] at Hput hz3 ⊢
      have Hnm := Lib.hid hnm
      clear hnm
      go_wp2_with fail
      refine Hput.out.mono ?_
      rintro e wc ⟨rfl, hBc, hFc⟩
      have hre := hBb2.rings en hem
      have hbe := hBb2.base.2.2 en hem
      have hbc : Below B w1 wc := (HbW.out.trans (Hba.out.mono hs)).trans ((Hbb.out.mono hsa).trans (hFc.below hsb (fun q hq => by rcases hq with rfl | rfl | rfl; exact hbs.2.1; exact hbe.1; exact hbe.2)))
      have hsc : B ≤ wc.heap.size := Nat.le_trans hsb hFc.size
      obtain ⟨E2, hE2⟩ : ∃ E2, setL E (serBytes (nmP j).data.toList sM.data.toList) [⟨1, 0⟩, ⟨2, 0⟩] = E2 := ⟨_, rfl⟩
      rw [← Hnm.out] at hBc
      have hBc : BookAt wc B bb bm 2 10 E2 := hE2 ▸ hBc
      have hS2 : Subs E2 512 := hE2 ▸ HS.out.set _ _
      have HBc := Lib.hid hBc
      have Hbc := Lib.hid hbc
      have HS2 := Lib.hid hS2
      clear hBc hbc hFc hS2 hE2 hre hbe hBb2 hen hem Hput
      go_wp2_with fail
      rw [hrem.out]
      refine (name11_any j Hjl.out _).mono ?_
      rintro e wd ⟨rfl, hbd⟩
      have hfg := forget_any B bb bm 2 10 E2 (nmP j) wd (HBc.out.keep hbd) (by rw [nmP_size]; decide) HS2.out.small (by rw [HS2.out.len]; omega) 1 (HS2.out.forget Hjl.out)
      have hsd : B ≤ wd.heap.size := Nat.le_trans hsc hbd.size
      have Hbd := Lib.hid (Hbc.out.trans (hbd.mono hsc))
      have Hfg := Lib.hid hfg
      have hl3 : (forgetE E2 (nmP j)).length < 512 := by have := HS2.out.forget Hjl.out; have := HS2.out.len; omega
      have hO2 := HS2.out.none (s := sOther) (by decide) (fun j _ => nmP_other j)
      have hO3 : findE (forgetE E2 (nmP j)) (serBytes sOther.data.toList sM.data.toList) = none := forget_none hO2
      obtain ⟨E3, hE3⟩ : ∃ E3, forgetE E2 (nmP j) = E3 := ⟨_, rfl⟩
      rw [hE3] at Hfg hl3 hO3
      have HO3 := Lib.hid hO3
      have Hl3 := Lib.hid hl3
      clear hbd hfg hO2 hO3 hE3 hl3
      have hz3 := nmP_size j
      rw [Hnm.out] at Hfg hz3 ⊢
      go_wp2_with fail
      refine Hfg.out.mono ?_
      rintro e we ⟨rfl, hBe, hFe⟩
      have hse : B ≤ we.heap.size := Nat.le_trans hsd hFe.size
      have hbe : Below B w1 we := Hbd.out.trans (hFe.below hsd (fun q hq => by rw [hq]; exact hbs.2.1))
      have hnew := scrape_new B bb bm 2 10 E3 1 sOther sM 0 we hBe (by decide) (by decide) (by decide) pre_other HO3.out Hl3.out
      rw [ref0] at hnew
      have Hnew := Lib.hid hnew
      have Hbe := Lib.hid hbe
      clear hnew hBe hFe hbe Hfg
      go_wp2_with fail
      refine Hnew.out.mono ?_
      rintro e wf ⟨rb, lb, rfl, _, _, _, hFf⟩
      have hbf : Below B w1 wf := Hbe.out.trans (hFf.below hse (fun q hq => by rw [hq]; exact hbs.2.1))
      have Hbf := Lib.hid hbf
      clear hFf hbf
      go_wp2_with fail
      go_ret
      have hb := H1.out
      exact ⟨rfl, H1.out.trans (Hbf.out.mono (by rw [← HBe.out]; exact H1.out.size))⟩

theorem ScrapeFull_holds : Rows.ScrapeFullSaid := lScrapeFull.over fun n w h1 => by
  obtain ⟨n1, e1, hw⟩ := h1
  simp [Value.cells] at e1
  subst e1
  simp [Lit.wf, IntKind.min, IntKind.max, IntKind.signed, IntKind.bits] at hw
  have hc := scrapeFull_core n.toNat (n.toNat % 512) (by omega) rfl w
  rw [show ((n.toNat : Nat) : Int) = n by omega] at hc
  exact hc
end Go.Proofs.Ytolgkehlnhkgiaa
