/- The contracts of proposal.One and proposal.Average. No condition. || The contract of query.One. Condition: Fresh's contract. -/
import Derived.Test.YtojealgjfbjnoaaRow
import Derived.Test.YtojealgjfbjnoaaScrapeAt
namespace Go.Proofs.Ytojealgjfbjnoaa
open Go.ChangeShapes Go.WideShapes Go.ChangeAt Go.RowKit Go.Deep

def oneF (target value rep tol : Int) : Int × Int :=
  if rightP target rep tol = false ∨ okQ value = false then (0, 1) else if nearI value target tol then (rep, 0) else (needI rep value target, 0)

/-- The goal of all replicas. -/
def allG (target rep : Int) : Int := min (target * rep) 9007199254740992

def avgF (target value rep tol : Int) : Int × Int :=
  if rightP target rep tol = false ∨ okQ value = false then (0, 1) else if 0 < allG target rep ∧ nearI value (allG target rep) tol then (rep, 0) else (needI 1 value target, 0)

theorem right_nat {target rep tol : Int} (h : rightP target rep tol = true) : ∃ g r t : Nat, target = g ∧ rep = r ∧ tol = t ∧ 0 < g ∧ g ≤ 9007199254740992 ∧ r ≤ 1000000 ∧ t ≤ 1000 := by
  obtain ⟨⟨a, b⟩, ⟨c, d⟩, e, f⟩ := rightP_yes h
  have e := of_decide_eq_true e
  exact ⟨target.toNat, rep.toNat, tol.toNat, by omega, by omega, by omega, by omega, by omega, by omega, by omega⟩

set_option maxRecDepth 100000 in
set_option maxHeartbeats 2000000 in
theorem pone_any (kind target value rep tol : Int) (nm : ByteArray) (w : World) :
    Calls Try.prog 10 #[.agg #[.int .i64 kind, .string nm, .int .i64 target], .int .i64 value, .int .i64 rep, .int .i64 tol] w fun e w' =>
      e = .returned (.tuple #[.int .i64 (oneF target value rep tol).1, .int .i64 (oneF target value rep tol).2]) ∧ Below w.heap.size w w' := by
  have hF : oneF target value rep tol = if rightP target rep tol = false ∨ okQ value = false then (0, 1) else if nearI value target tol then (rep, 0) else (needI rep value target, 0) := rfl
  obtain ⟨R, hR⟩ : ∃ R, oneF target value rep tol = R := ⟨_, rfl⟩
  obtain ⟨rp, hrp⟩ : ∃ b, rightP target rep tol = b := ⟨_, rfl⟩
  obtain ⟨vp, hvp⟩ : ∃ b, okQ value = b := ⟨_, rfl⟩
  rw [hR, hrp, hvp] at hF
  rw [hR]
  obtain ⟨ra, re⟩ := R
  have HF := Lib.hid hF
  have HRP := Lib.hid hrp
  have HVP := Lib.hid hvp
  have HR := Lib.hid (fun w1 => right_any kind target rep tol nm w1)
  have HV := Lib.hid (fun w1 => qright_any value w1)
  rw [hrp] at HR
  rw [hvp] at HV
  clear hF hR hrp hvp
  go_enter Try.func10, Try.ntmps10
  go_wp2_with fail
  refine (HR.out _).mono ?_
  rintro e w1 ⟨rfl, hb1⟩
  have hm1 := (hb1.block w.heap.size (by simp)).trans (heap_alloc_new w _)
  have HM1 := Lib.hid hm1
  have HB1 : Hid (Below w.heap.size w w1) := ((Below.refl _ _).alloc (Nat.le_refl _) _).trans (hb1.mono (by simp))
  have m2 := cell_of_row w1 w.heap.size 2 _ _ _ hm1
  clear hb1 hm1
  cases rp
  · have H0 := HF.out.trans (if_pos (.inl rfl))
    simp only [Prod.mk.injEq] at H0
    obtain ⟨rfl, rfl⟩ := H0
    go_wp2_with fail
    go_ret2
    exact ⟨rfl, HB1.out⟩
  · go_wp2_with fail
    refine (HV.out _).mono ?_
    rintro e w2 ⟨rfl, rfl⟩
    cases vp
    · have H0 := HF.out.trans (if_pos (.inr rfl))
      simp only [Prod.mk.injEq] at H0
      obtain ⟨rfl, rfl⟩ := H0
      go_wp2_with fail
      go_ret2
      exact ⟨rfl, HB1.out⟩
    · have H0 := Lib.hid (HF.out.trans (if_neg (by simp)))
      obtain ⟨g, r, t, rfl, rfl, rfl, hg0, hg, hr, ht⟩ := right_nat HRP.out
      obtain ⟨v, rfl, hv⟩ := okq_nat HVP.out
      clear HR HV HVP HRP HF
      have HNr := Lib.hid (fun w1 => near_any v g t w1 hv hg ht)
      have HNd := Lib.hid (fun w1 => need_any r v g w1 hr hv hg0 hg)
      obtain ⟨nd, hnd⟩ : ∃ x, needI r v g = x := ⟨_, rfl⟩
      rw [hnd] at HNd H0
      by_cases hn : nearI (v : Int) g t
      · have H1 := H0.out.trans (if_pos hn)
        rw [decide_eq_true (show 0 < g ∧ nearI (v : Int) g t from ⟨hg0, hn⟩)] at HNr
        clear hn hnd
        simp only [Prod.mk.injEq] at H1
        obtain ⟨rfl, rfl⟩ := H1
        go_wp2_with fail
        refine (HNr.out _).mono ?_
        rintro e w3 ⟨rfl, hb3⟩
        have HB3 := Lib.hid (HB1.out.trans (hb3.mono HB1.out.size))
        clear hb3
        go_wp2_with fail
        go_ret2
        exact ⟨rfl, HB3.out⟩
      · have H1 := H0.out.trans (if_neg hn)
        rw [decide_eq_false (show ¬ (0 < g ∧ nearI (v : Int) g t) from fun h => hn h.2)] at HNr
        clear hn hnd
        simp only [Prod.mk.injEq] at H1
        obtain ⟨rfl, rfl⟩ := H1
        go_wp2_with fail
        refine (HNr.out _).mono ?_
        rintro e w3 ⟨rfl, hb3⟩
        have hm3 := (hb3.block w.heap.size (Array.getElem?_eq_some_iff.1 HM1.out).1).trans HM1.out
        have HB3 := Lib.hid (HB1.out.trans (hb3.mono HB1.out.size))
        replace m2 := cell_of_row w3 w.heap.size 2 _ _ _ hm3
        clear hb3 hm3
        go_wp2_with fail
        refine (HNd.out _).mono ?_
        rintro e w4 ⟨rfl, hb4⟩
        have HB4 := Lib.hid (HB3.out.trans (hb4.mono HB3.out.size))
        clear hb4
        go_wp2_with fail
        go_ret2
        exact ⟨rfl, HB4.out⟩

set_option maxRecDepth 100000 in
set_option maxHeartbeats 2000000 in
theorem pavg_any (kind target value rep tol : Int) (nm : ByteArray) (w : World) :
    Calls Try.prog 11 #[.agg #[.int .i64 kind, .string nm, .int .i64 target], .int .i64 value, .int .i64 rep, .int .i64 tol] w fun e w' =>
      e = .returned (.tuple #[.int .i64 (avgF target value rep tol).1, .int .i64 (avgF target value rep tol).2]) ∧ Below w.heap.size w w' := by
  have hF : avgF target value rep tol = if rightP target rep tol = false ∨ okQ value = false then (0, 1) else if 0 < allG target rep ∧ nearI value (allG target rep) tol then (rep, 0) else (needI 1 value target, 0) := rfl
  obtain ⟨R, hR⟩ : ∃ R, avgF target value rep tol = R := ⟨_, rfl⟩
  obtain ⟨rp, hrp⟩ : ∃ b, rightP target rep tol = b := ⟨_, rfl⟩
  obtain ⟨vp, hvp⟩ : ∃ b, okQ value = b := ⟨_, rfl⟩
  rw [hR, hrp, hvp] at hF
  rw [hR]
  obtain ⟨ra, re⟩ := R
  have HF := Lib.hid hF
  have HRP := Lib.hid hrp
  have HVP := Lib.hid hvp
  have HR := Lib.hid (fun w1 => right_any kind target rep tol nm w1)
  have HV := Lib.hid (fun w1 => qright_any value w1)
  rw [hrp] at HR
  rw [hvp] at HV
  clear hF hR hrp hvp
  go_enter Try.func11, Try.ntmps11
  go_wp2_with fail
  refine (HR.out _).mono ?_
  rintro e w1 ⟨rfl, hb1⟩
  have hm1 := (hb1.block w.heap.size (by simp)).trans (heap_alloc_new w _)
  have HM1 := Lib.hid hm1
  have HB1 : Hid (Below w.heap.size w w1) := ((Below.refl _ _).alloc (Nat.le_refl _) _).trans (hb1.mono (by simp))
  have m2 := cell_of_row w1 w.heap.size 2 _ _ _ hm1
  clear hb1 hm1
  cases rp
  · have H0 := HF.out.trans (if_pos (.inl rfl))
    simp only [Prod.mk.injEq] at H0
    obtain ⟨rfl, rfl⟩ := H0
    go_wp2_with fail
    go_ret2
    exact ⟨rfl, HB1.out⟩
  · go_wp2_with fail
    refine (HV.out _).mono ?_
    rintro e w2 ⟨rfl, rfl⟩
    cases vp
    · have H0 := HF.out.trans (if_pos (.inr rfl))
      simp only [Prod.mk.injEq] at H0
      obtain ⟨rfl, rfl⟩ := H0
      go_wp2_with fail
      go_ret2
      exact ⟨rfl, HB1.out⟩
    · have H0 := Lib.hid (HF.out.trans (if_neg (by simp)))
      obtain ⟨g, r, t, rfl, rfl, rfl, hg0, hg, hr, ht⟩ := right_nat HRP.out
      obtain ⟨v, rfl, hv⟩ := okq_nat HVP.out
      clear HR HV HVP HRP HF
      obtain ⟨G, hG, hGe⟩ : ∃ G : Nat, allG g r = (G : Int) ∧ G = min (g * r) 9007199254740992 := ⟨min (g * r) 9007199254740992, by unfold allG; rw [← Int.natCast_mul]; omega, rfl⟩
      rw [hG] at H0
      have hG2 : G ≤ 9007199254740992 := by omega
      have HTm := Lib.hid (fun w1 => qtimes_any g r w1 hg hr)
      have HNr := Lib.hid (fun w1 => near_any v G t w1 hv hG2 ht)
      have HNd := Lib.hid (fun w1 => whole_any v g w1 hv hg0 hg)
      obtain ⟨nd, hnd⟩ : ∃ x, needI 1 v g = x := ⟨_, rfl⟩
      rw [hnd] at HNd H0
      obtain ⟨P, hP⟩ : ∃ P, g * r = P := ⟨_, rfl⟩
      rw [hP] at HTm hGe
      have hgp : ((0 : Int) < (G : Int) ∧ nearI (v : Int) G t) ↔ (0 < G ∧ nearI (v : Int) G t) := ⟨fun h => ⟨by omega, h.2⟩, fun h => ⟨by omega, h.2⟩⟩
      clear hnd hP hG
      by_cases hc : P ≤ 9007199254740992
      · simp only [if_pos hc] at HTm
        obtain rfl : G = P := by omega
        clear hc hGe
        go_wp2_with fail
        refine (HTm.out _).mono ?_
        rintro e w3 ⟨rfl, hb3⟩
        have hm3 := (hb3.block w.heap.size (Array.getElem?_eq_some_iff.1 HM1.out).1).trans HM1.out
        have HB3 := Lib.hid (HB1.out.trans (hb3.mono HB1.out.size))
        replace m2 := cell_of_row w3 w.heap.size 2 _ _ _ hm3
        have HM3 := Lib.hid hm3
        clear hb3 hm3
        go_wp2_with fail
        refine (HNr.out _).mono ?_
        rintro e w4 ⟨he, hb4⟩
        have hm4 := (hb4.block w.heap.size (Array.getElem?_eq_some_iff.1 HM3.out).1).trans HM3.out
        have HB4 := Lib.hid (HB3.out.trans (hb4.mono HB3.out.size))
        replace m2 := cell_of_row w4 w.heap.size 2 _ _ _ hm4
        clear hb4 hm4
        by_cases hn : 0 < G ∧ nearI (v : Int) G t
        · have H1 := H0.out.trans (if_pos (hgp.2 hn))
          rw [decide_eq_true hn] at he
          subst he
          clear hn hgp
          simp only [Prod.mk.injEq] at H1
          obtain ⟨rfl, rfl⟩ := H1
          go_wp2_with fail
          go_ret2
          exact ⟨rfl, HB4.out⟩
        · have H1 := H0.out.trans (if_neg (fun h => hn (hgp.1 h)))
          rw [decide_eq_false hn] at he
          subst he
          clear hn hgp
          simp only [Prod.mk.injEq] at H1
          obtain ⟨rfl, rfl⟩ := H1
          go_wp2_with fail
          refine (HNd.out _).mono ?_
          rintro e w5 ⟨rfl, hb5⟩
          have HB5 := Lib.hid (HB4.out.trans (hb5.mono HB4.out.size))
          clear hb5
          go_wp2_with fail
          go_ret2
          exact ⟨rfl, HB5.out⟩
      · simp only [if_neg hc] at HTm
        obtain rfl : G = 9007199254740992 := by omega
        clear hc hGe
        go_wp2_with fail
        refine (HTm.out _).mono ?_
        rintro e w3 ⟨rfl, hb3⟩
        have hm3 := (hb3.block w.heap.size (Array.getElem?_eq_some_iff.1 HM1.out).1).trans HM1.out
        have HB3 := Lib.hid (HB1.out.trans (hb3.mono HB1.out.size))
        replace m2 := cell_of_row w3 w.heap.size 2 _ _ _ hm3
        have HM3 := Lib.hid hm3
        clear hb3 hm3
        go_wp2_with fail
        refine (HNr.out _).mono ?_
        rintro e w4 ⟨he, hb4⟩
        have hm4 := (hb4.block w.heap.size (Array.getElem?_eq_some_iff.1 HM3.out).1).trans HM3.out
        have HB4 := Lib.hid (HB3.out.trans (hb4.mono HB3.out.size))
        replace m2 := cell_of_row w4 w.heap.size 2 _ _ _ hm4
        clear hb4 hm4
        by_cases hn : 0 < 9007199254740992 ∧ nearI (v : Int) ((9007199254740992 : Nat) : Int) t
        · have H1 := H0.out.trans (if_pos (hgp.2 hn))
          rw [decide_eq_true hn] at he
          subst he
          clear hn hgp
          simp only [Prod.mk.injEq] at H1
          obtain ⟨rfl, rfl⟩ := H1
          go_wp2_with fail
          go_ret2
          exact ⟨rfl, HB4.out⟩
        · have H1 := H0.out.trans (if_neg (fun h => hn (hgp.1 h)))
          rw [decide_eq_false hn] at he
          subst he
          clear hn hgp
          simp only [Prod.mk.injEq] at H1
          obtain ⟨rfl, rfl⟩ := H1
          go_wp2_with fail
          refine (HNd.out _).mono ?_
          rintro e w5 ⟨rfl, hb5⟩
          have HB5 := Lib.hid (HB4.out.trans (hb5.mono HB4.out.size))
          clear hb5
          go_wp2_with fail
          go_ret2
          exact ⟨rfl, HB5.out⟩

end Go.Proofs.Ytojealgjfbjnoaa
namespace Go.Proofs.Ytojealgjfbjnoaa
open Go.ChangeShapes Go.WideShapes Go.ChangeAt Go.RowKit Go.Deep Go.Maps

theorem qone_any {p : Option Addr} {now x e0 : Int} {sub met : ByteArray} {w : World}
    (hF : Calls Try.prog 9 #[.pointer p, .int .i64 now, .agg #[.string sub, .string met]] w fun e w' => e = .returned (.tuple #[.int .i64 x, .int .i64 e0]) ∧ Below w.heap.size w w') :
    Calls Try.prog 14 #[.pointer p, .int .i64 now, .string sub, .string met] w fun e w' => e = .returned (.tuple #[.int .i64 x, .int .i64 e0]) ∧ Below w.heap.size w w' := by
  have HF := Lib.hid hF
  clear hF
  go_enter Try.func14, Try.ntmps14
  go_wp2_with fail
  refine HF.out.mono ?_
  rintro e w1 ⟨rfl, hb1⟩
  have H1 := Lib.hid hb1
  clear hb1
  go_wp2_with fail
  go_ret2
  exact ⟨rfl, H1.out⟩
end Go.Proofs.Ytojealgjfbjnoaa
