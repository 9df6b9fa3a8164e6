/- The contract of proposal.Row. Condition: at most 1000 uses. -/
import Derived.Test.YtojealgjfbjnoaaProp4
namespace Go.Proofs.Ytojealgjfbjnoaa
open Go.ChangeShapes Go.WideShapes Go.ChangeAt Go.RowKit Go.Deep

def rowF (kind target : Int) (l : List UseI) (rep tol : Int) : Int × Int := if l.any badUse = true ∨ rightP target rep tol = false then (0, 1) else rowI kind target l rep tol

theorem rightP_yes {target rep tol : Int} (h : rightP target rep tol = true) : (0 ≤ rep ∧ rep ≤ 1000000) ∧ (0 ≤ tol ∧ tol ≤ 1000) ∧ okQ target = true ∧ 0 < target := by
  unfold rightP at h
  simp only [Bool.and_eq_true, decide_eq_true_eq] at h
  exact ⟨⟨h.1, h.2.1⟩, ⟨h.2.2.1, h.2.2.2.1⟩, h.2.2.2.2.1, h.2.2.2.2.2⟩

theorem okq_nat {a : Int} (h : okQ a = true) : ∃ n : Nat, a = n ∧ n ≤ 9007199254740992 := by
  have h := of_decide_eq_true h
  exact ⟨a.toNat, by omega, by omega⟩

/-- What stands while Row adds up: the metric's box, the sums, two rows to come. -/
structure RowSt (w w4 : World) (B sb : Nat) (kind target : Int) (nm : ByteArray) (v2 v3 : Value) (X2 X3 : List UseI) (u g c e : Int) : Prop where
  below : Below w.heap.size w w4
  mbox : w4.heap[w.heap.size]? = some (.cells #[.int .i64 kind, .string nm, .int .i64 target] 27 (0, 0))
  srow : w4.heap[sb]? = some (.cells #[.int .i64 u, .int .i64 g, .int .i64 c, .int .i64 e] 60 (0, 0))
  lo : w.heap.size < sb
  o2 : OwnL w4 B v2 X2
  o3 : OwnL w4 B v3 X3
  b2 : ∀ k, v2.ownBlock = some k → k < sb
  b3 : ∀ k, v3.ownBlock = some k → k < sb

theorem RowSt.after {w w4 w5 : World} {B sb : Nat} {kind target : Int} {nm : ByteArray} {v2 v3 : Value} {X2 X3 : List UseI} {u g c e u' g' c' e' : Int} (h : RowSt w w4 B sb kind target nm v2 v3 X2 X3 u g c e)
    (hf : Fr (fun k => k = sb) w4 w5) (hr : w5.heap[sb]? = some (.cells #[.int .i64 u', .int .i64 g', .int .i64 c', .int .i64 e'] 60 (0, 0))) : RowSt w w5 B sb kind target nm v2 v3 X2 X3 u' g' c' e' where
  below := h.below.trans (hf.below h.below.size (fun k hk => by rw [hk]; exact Nat.le_of_lt h.lo))
  mbox := hf.heap h.mbox (fun e => by have := h.lo; omega)
  srow := hr
  lo := h.lo
  o2 := h.o2.fr hf (fun k hk e => by have := h.b2 k hk; omega)
  o3 := h.o3.fr hf (fun k hk e => by have := h.b3 k hk; omega)
  b2 := h.b2
  b3 := h.b3

theorem RowSt.then {w w4 w5 : World} {B sb : Nat} {kind target : Int} {nm : ByteArray} {v2 v3 : Value} {X2 X3 : List UseI} {u g c e : Int} (h : RowSt w w4 B sb kind target nm v2 v3 X2 X3 u g c e)
    (hf : Below w4.heap.size w4 w5) : RowSt w w5 B sb kind target nm v2 v3 X2 X3 u g c e :=
  h.after (Fr.of_below hf _) ((hf.block sb (Array.getElem?_eq_some_iff.1 h.srow).1).trans h.srow)

set_option maxRecDepth 100000 in
set_option maxHeartbeats 3000000 in
theorem row_any (kind target rep tol : Int) (nm : ByteArray) (l : List UseI) (ao : Option Addr) (n cap : Nat) (w : World) (hS : SlR (Flat UseI.cells) 5 w ao n cap l) (hn : n ≤ 1000) :
    Calls Try.prog 7 #[.agg #[.int .i64 kind, .string nm, .int .i64 target], .slice ao n cap, .int .i64 rep, .int .i64 tol] w fun e w' =>
      e = .returned (.tuple #[.int .i64 (rowF kind target l rep tol).1, .int .i64 (rowF kind target l rep tol).2]) ∧ Below w.heap.size w w' := by
  have hlen := hS.hlen
  have hb0 : Below w.heap.size w (w.alloc (.cells #[.int .i64 kind, .string nm, .int .i64 target] 27)) := (Below.refl _ _).alloc (Nat.le_refl _) _
  have HC := Lib.hid (containsFunc_UseI badUse 16 enters_row1 #[] l ao n cap _ (hS.flatKeeps (Keeps.below hb0)) (fun x w1 _ => row1_any x w1))
  have hF : rowF kind target l rep tol = if l.any badUse = true ∨ rightP target rep tol = false then (0, 1) else rowI kind target l rep tol := rfl
  obtain ⟨R, hR⟩ : ∃ R, rowF kind target l rep tol = R := ⟨_, rfl⟩
  obtain ⟨bd, hbd⟩ : ∃ b, l.any badUse = b := ⟨_, rfl⟩
  obtain ⟨rp, hrp⟩ : ∃ b, rightP target rep tol = b := ⟨_, rfl⟩
  rw [hR, hbd, hrp] at hF
  rw [hbd] at HC
  rw [hR]
  obtain ⟨ra, re⟩ := R
  have HF := Lib.hid hF
  have HS := Lib.hid hS
  have HRP := Lib.hid hrp
  have HBD := Lib.hid hbd
  clear hS hb0 hF hR hbd hrp
  go_enter Try.func7, Try.ntmps7
  go_wp2_with fail
  refine HC.out.mono ?_
  rintro e w1 ⟨rfl, hb1⟩
  have hm1 := (hb1.block w.heap.size (by simp)).trans (heap_alloc_new w _)
  have hB1 : Below w.heap.size w w1 := ((Below.refl _ _).alloc (Nat.le_refl _) _).trans (hb1.mono (by simp))
  have m0 := cell_of_row w1 w.heap.size 0 _ _ _ hm1
  have m1 := cell_of_row w1 w.heap.size 1 _ _ _ hm1
  have m2 := cell_of_row w1 w.heap.size 2 _ _ _ hm1
  have HM1 := Lib.hid hm1
  have HB1 := Lib.hid hB1
  clear hb1 hm1 hB1
  go_wp2_with fail
  refine (right_any kind target rep tol nm w1).mono ?_
  rintro e w2 ⟨he, hb2⟩
  rw [HRP.out] at he
  subst he
  have hm2 := (hb2.block w.heap.size (Array.getElem?_eq_some_iff.1 HM1.out).1).trans HM1.out
  have HM2 := Lib.hid hm2
  have HB2 := Lib.hid (HB1.out.trans (hb2.mono HB1.out.size))
  clear m0 m1 m2
  have m0 := cell_of_row w2 w.heap.size 0 _ _ _ hm2
  have m1 := cell_of_row w2 w.heap.size 1 _ _ _ hm2
  have m2 := cell_of_row w2 w.heap.size 2 _ _ _ hm2
  clear hb2 hm2
  rcases rp with _ | _
  · have H0 := Lib.hid (HF.out.trans (if_pos (.inr rfl)))
    go_wp2_with fail
    go_ret2
    have H1 := H0.out
    simp only [Prod.mk.injEq] at H1
    exact ⟨by rw [H1.1, H1.2]; rfl, HB2.out⟩
  · rcases bd with _ | _
    rotate_left
    · have H0 := Lib.hid (HF.out.trans (if_pos (.inl rfl)))
      go_wp2_with fail
      go_ret2
      have H1 := H0.out
      simp only [Prod.mk.injEq] at H1
      exact ⟨by rw [H1.1, H1.2]; rfl, HB2.out⟩
    · have H0 := Lib.hid (HF.out.trans (if_neg (by simp)))
      obtain ⟨⟨r0, r1⟩, ⟨t0, t1⟩, hT, hT0⟩ := rightP_yes HRP.out
      have HT := Lib.hid hT
      have hlx : ∀ x ∈ l, okQ x.ask = true ∧ okQ x.use = true := fun x hx => by
        have h := List.any_eq_false.1 HBD.out x hx
        simpa [badUse] using h
      have HLX := Lib.hid hlx
      clear hlx hT
      go_wp2_with fail
      refine (split_any l ao n cap w2 (HS.out.flatKeeps (Keeps.below HB2.out)) hn).mono ?_
      rintro e w3 ⟨v1, v2, v3, rfl, ho1, ho2, ho3, hb3⟩
      obtain ⟨ao1, n1, cap1, rfl, hn1, hS1, hk1⟩ := ho1.reads
      have hf1 := List.length_filter_le isHas l
      have hf2 := List.length_filter_le isMiss l
      have hf3 := List.length_filter_le isUn l
      have hm3 := (hb3.block w.heap.size (Array.getElem?_eq_some_iff.1 HM2.out).1).trans HM2.out
      have hs3 : w.heap.size < w3.heap.size := (Array.getElem?_eq_some_iff.1 hm3).1
      have HB3 := HB2.out.trans (hb3.mono HB2.out.size)
      have HA := Lib.hid (add_own kind target nm (l.filter isHas) ao1 n1 cap1 w3.heap.size 0 0 0 0 (w3.alloc (.cells #[.int .i64 0, .int .i64 0, .int .i64 0, .int .i64 0] 60)) (hS1.flatKeeps (Keeps.below ((Below.refl _ _).alloc (Nat.le_refl _) _))) (heap_alloc_new w3 _)
        (fun a ha => by have := hk1 a ha; omega) (fun x hx => HLX.out x (List.mem_filter.1 hx).1) HT.out rfl rfl ⟨by omega, by omega⟩ (by omega))
      have hSt : RowSt w (w3.alloc (.cells #[.int .i64 0, .int .i64 0, .int .i64 0, .int .i64 0] 60)) w2.heap.size w3.heap.size kind target nm v2 v3 (l.filter isMiss) (l.filter isUn) 0 0 0 0 :=
        ⟨HB3.alloc HB3.size _, (Below.heap_alloc w3 _ w.heap.size hs3).trans hm3, heap_alloc_new w3 _, hs3, ho2.alloc _, ho3.alloc _, fun k hk => (World.ownsRow.lt ho2 k hk).2, fun k hk => (World.ownsRow.lt ho3 k hk).2⟩
      have HSt := Lib.hid hSt
      clear m0 m1 m2
      have m0 := cell_of_row w3 w.heap.size 0 _ _ _ hm3
      have m1 := cell_of_row w3 w.heap.size 1 _ _ _ hm3
      have m2 := cell_of_row w3 w.heap.size 2 _ _ _ hm3
      have HN1 : n1 ≤ 1000 := by omega
      clear ho1 ho2 ho3 hb3 hm3 hS1 hk1 HB3 hSt hf1 hn1
      go_wp2_with fail
      refine HA.out.mono ?_
      rintro e w4 ⟨rfl, hfr, u, g, c, e', hrow, hu, hg, hc, hA⟩
      have hSt := HSt.out.after hfr hrow
      have q0 := cell_of_row w4 w3.heap.size 0 _ _ _ hrow
      have q1 := cell_of_row w4 w3.heap.size 1 _ _ _ hrow
      have q2 := cell_of_row w4 w3.heap.size 2 _ _ _ hrow
      have q3 := cell_of_row w4 w3.heap.size 3 _ _ _ hrow
      have hs4 := hfr.size
      rw [World.size_alloc] at hs4
      have HSt4 := Lib.hid hSt
      clear m0 m1 m2 HSt HA
      have m0 := cell_of_row w4 w.heap.size 0 _ _ _ hSt.mbox
      have m1 := cell_of_row w4 w.heap.size 1 _ _ _ hSt.mbox
      have m2 := cell_of_row w4 w.heap.size 2 _ _ _ hSt.mbox
      clear hrow hfr hSt
      rcases hA with ⟨hA, rfl⟩ | ⟨hA, rfl⟩
      rotate_left
      · have H1 := Lib.hid (H0.out.trans (rowI_err hA))
        clear hA
        go_wp2_with fail
        go_quiet (fail)
        go_wp2_with fail
        go_ret2
        have H2 := H1.out
        simp only [Prod.mk.injEq] at H2
        exact ⟨by rw [H2.1, H2.2]; rfl, drewN_below HSt4.out.below _⟩
      · have HA := Lib.hid hA
        have HU := Lib.hid hu
        have HG := Lib.hid hg
        clear hA hu hg
        by_cases hc0 : c = 0
        · have H1 := Lib.hid (H0.out.trans (rowI_few HA.out hc0))
          subst hc0
          go_wp2_with fail
          go_ret2
          have H2 := H1.out
          simp only [Prod.mk.injEq] at H2
          exact ⟨by rw [H2.1, H2.2]; rfl, HSt4.out.below⟩
        · have hcb : (c == 0) = false := by rw [beq_eq_false_iff_ne]; exact hc0
          by_cases hg0 : g = 0
          · have H1 := Lib.hid (H0.out.trans (rowI_zero HA.out hc0 hg0))
            subst hg0
            go_wp2_with fail
            go_ret2
            have H2 := H1.out
            simp only [Prod.mk.injEq] at H2
            exact ⟨by rw [H2.1, H2.2]; rfl, HSt4.out.below⟩
          · have hgb : (g == 0) = false := by rw [beq_eq_false_iff_ne]; exact hg0
            rcases Int.lt_trichotomy u g with hug | hug | hug
            · have hug0 := hug
              obtain ⟨tn, rfl⟩ := Int.eq_ofNat_of_zero_le t0
              obtain ⟨un, rfl, hun⟩ := okq_nat HU.out
              obtain ⟨gn, rfl, hgn⟩ := okq_nat HG.out
              have d1 : ¬ gn < un := by omega
              have d2 : un < gn := by omega
              have d1d : decide (gn < un) = false := decide_eq_false d1
              have d2d : decide (un < gn) = true := decide_eq_true d2
              obtain ⟨ao2, n2, cap2, rfl, hn2, hS2, hk2⟩ := HSt4.out.o2.reads
              have HA2 : Hid (∀ q : Nat, _) := fun q => add_whole kind target nm (l.filter isMiss) ao2 n2 cap2 w3.heap.size un gn c 0 (w4.drewN q) (hS2.drewN q) (HSt4.out.then (below_drewN _ _ q)).srow
                (fun a ha hk => by have := HSt4.out.b2 a.block (by rw [ha]; rfl); omega) (fun x hx => HLX.out x (List.mem_filter.1 hx).1) HT.out HU.out HG.out ⟨hc.1, by omega⟩ (by omega)
              have HN2 : n2 ≤ 1000 := by omega
              clear hS2 hk2 hn2
              go_wp2_with fail
              go_quiet (fail)
              go_wp2_with fail
              refine (HA2.out nq).mono ?_
              rintro e w6 ⟨rfl, hfr2, u2, g2, c2, e2, hrow2, hu2, hg2, hc2, hA2⟩
              have hSt6 := (HSt4.out.then (below_drewN w4 w4.heap.size nq)).after hfr2 hrow2
              have HSt6 := Lib.hid hSt6
              clear q0 q1 q2 q3 m0 m1 m2
              have q0 := cell_of_row w6 w3.heap.size 0 _ _ _ hrow2
              have q1 := cell_of_row w6 w3.heap.size 1 _ _ _ hrow2
              have q2 := cell_of_row w6 w3.heap.size 2 _ _ _ hrow2
              have q3 := cell_of_row w6 w3.heap.size 3 _ _ _ hrow2
              have hs6 := (Array.getElem?_eq_some_iff.1 hrow2).1
              clear hrow2 hfr2 hSt6
              rcases hA2 with ⟨hA2, rfl⟩ | ⟨hA2, rfl⟩
              rotate_left
              · have H1 := Lib.hid (H0.out.trans (rowI_down_none HA.out hc0 hg0 hug0 hA2))
                clear hA2
                go_wp2_with fail
                go_quiet (fail)
                go_wp2_with fail
                go_ret2
                have H2 := H1.out
                simp only [Prod.mk.injEq] at H2
                exact ⟨by rw [H2.1, H2.2]; rfl, drewN_below HSt6.out.below _⟩
              · skip
                have hge : g2 = (gn : Int) + sumBy (gq kind target) (l.filter isMiss) ∧ okQ g2 = true := ⟨(congrArg (fun s => s.2.1) (addOf_some _ hA2)), hg2⟩
                have hgs : 0 ≤ sumBy (gq kind target) (l.filter isMiss) := sumBy_nonneg _ fun x hx => gq_nonneg (by omega) x (of_decide_eq_true (HLX.out x (List.mem_filter.1 hx |>.1)).1).1
                have hgp : 0 < g2 := by omega
                have H1 := Lib.hid (H0.out.trans (rowI_down_some HA.out hc0 hg0 hug0 hA2))
                obtain ⟨u2n, rfl, hu2n⟩ := okq_nat hu2
                obtain ⟨g2n, rfl, hg2n⟩ := okq_nat hg2
                obtain ⟨c2n, rfl⟩ := Int.eq_ofNat_of_zero_le hc2.1
                have hc2n : c2n ≤ 3000 := by omega
                have hg2p : 0 < g2n := by omega
                have hmin : min (c2n : Int) 1000000 = (c2n : Int) := by omega
                clear hge hgs hgp hu2 hg2 hA2
                go_wp2_with fail
                refine (near_any u2n g2n tn _ hu2n hg2n (by omega)).mono ?_
                rintro e w7 ⟨rfl, hb7⟩
                have hSt7 := HSt6.out.then hb7
                have q0 := cell_of_row w7 w3.heap.size 0 _ _ _ hSt7.srow
                have q1 := cell_of_row w7 w3.heap.size 1 _ _ _ hSt7.srow
                have q2 := cell_of_row w7 w3.heap.size 2 _ _ _ hSt7.srow
                have Hb7 := Lib.hid hSt7.below
                by_cases hnr : nearI (u2n : Int) g2n tn
                · rw [decide_eq_true (show 0 < g2n ∧ nearI (u2n : Int) g2n tn from ⟨hg2p, hnr⟩)]
                  have H3 := Lib.hid (H1.out.trans (if_pos (.inl hnr)))
                  clear hnr hSt7 hb7
                  go_wp2_with fail
                  go_ret2
                  have H2 := H3.out
                  simp only [Prod.mk.injEq] at H2
                  exact ⟨by rw [H2.1, H2.2]; rfl, Hb7.out⟩
                · rw [decide_eq_false (show ¬ (0 < g2n ∧ nearI (u2n : Int) g2n tn) from fun h => hnr h.2)]
                  by_cases hcp : g2n ≤ u2n
                  · have H3 := Lib.hid (H1.out.trans (if_pos (.inr (by omega))))
                    have hcpd : decide (g2n ≤ u2n) = true := decide_eq_true hcp
                    clear hnr hSt7 hb7
                    go_wp2_with fail
                    go_ret2
                    have H2 := H3.out
                    simp only [Prod.mk.injEq] at H2
                    exact ⟨by rw [H2.1, H2.2]; rfl, Hb7.out⟩
                  · have H3 := Lib.hid (H1.out.trans (if_neg (fun h => h.elim hnr (fun h => hcp (by omega)))))
                    have hcpd : decide (g2n ≤ u2n) = false := decide_eq_false hcp
                    rw [hmin] at H3
                    have HN := Lib.hid (need_any c2n u2n g2n w7 (by omega) hu2n hg2p hg2n)
                    obtain ⟨nd, hnd⟩ : ∃ x, needI c2n u2n g2n = x := ⟨_, rfl⟩
                    rw [hnd] at HN H3
                    clear hnr hSt7 hb7 hnd
                    go_wp2_with fail
                    refine HN.out.mono ?_
                    rintro e w8 ⟨rfl, hb8⟩
                    have Hb8 := Lib.hid (Hb7.out.trans (hb8.mono Hb7.out.size))
                    clear hb8
                    go_wp2_with fail
                    go_ret2
                    have H2 := H3.out
                    simp only [Prod.mk.injEq] at H2
                    exact ⟨by rw [H2.1, H2.2]; rfl, Hb8.out⟩
            · have H1 := Lib.hid (H0.out.trans (rowI_same HA.out hc0 hg0 hug))
              obtain ⟨tn, rfl⟩ := Int.eq_ofNat_of_zero_le t0
              obtain ⟨un, rfl, hun⟩ := okq_nat HU.out
              obtain ⟨gn, rfl, hgn⟩ := okq_nat HG.out
              obtain rfl : gn = un := by omega
              clear hug
              go_wp2_with fail
              go_quiet (fail)
              go_wp2_with fail
              refine (near_any gn gn tn _ hgn hgn (by omega)).mono ?_
              rintro e w7 ⟨rfl, hb7⟩
              have Hb7 := Lib.hid ((drewN_below HSt4.out.below nq).trans (hb7.mono HSt4.out.below.size))
              obtain ⟨b, hb⟩ : ∃ b, decide (0 < gn ∧ nearI (gn : Int) gn tn) = b := ⟨_, rfl⟩
              rw [hb]
              clear hb hb7
              cases b
              · go_wp2_with fail
                go_ret2
                have H2 := H1.out
                simp only [Prod.mk.injEq] at H2
                exact ⟨by rw [H2.1, H2.2]; rfl, Hb7.out⟩
              · go_wp2_with fail
                go_ret2
                have H2 := H1.out
                simp only [Prod.mk.injEq] at H2
                exact ⟨by rw [H2.1, H2.2]; rfl, Hb7.out⟩
            · have hug0 := hug
              obtain ⟨tn, rfl⟩ := Int.eq_ofNat_of_zero_le t0
              obtain ⟨un, rfl, hun⟩ := okq_nat HU.out
              obtain ⟨gn, rfl, hgn⟩ := okq_nat HG.out
              have d1 : gn < un := by omega
              have d2 : ¬ un < gn := by omega
              have d1d : decide (gn < un) = true := decide_eq_true d1
              have d2d : decide (un < gn) = false := decide_eq_false d2
              obtain ⟨ao2, n2, cap2, rfl, hn2, hS2, hk2⟩ := HSt4.out.o2.reads
              obtain ⟨ao3, n3, cap3, rfl, hn3, hS3, hk3⟩ := HSt4.out.o3.reads
              have HA2 : Hid (∀ q : Nat, _) := fun q => add_none kind target nm (l.filter isMiss) ao2 n2 cap2 w3.heap.size un gn c 0 (w4.drewN q) (hS2.drewN q) (HSt4.out.then (below_drewN _ _ q)).srow
                (fun a ha hk => by have := HSt4.out.b2 a.block (by rw [ha]; rfl); omega) (fun x hx => HLX.out x (List.mem_filter.1 hx).1) HT.out HU.out HG.out ⟨hc.1, by omega⟩ (by omega)
              have HN2 : n2 ≤ 1000 := by omega
              have HN3 : n3 ≤ 1000 := by omega
              have HS3 : Hid (∀ q : Nat, SlR (Flat UseI.cells) 5 (w4.drewN q) ao3 n3 cap3 (l.filter isUn)) := fun q => hS3.drewN q
              have HK3 : Hid (∀ a, ao3 = some a → ¬ a.block = w3.heap.size) := fun a ha hk => by have := HSt4.out.b3 a.block (by rw [ha]; rfl); omega
              clear hS2 hk2 hn2 hS3 hk3 hn3
              go_wp2_with fail
              go_quiet (fail)
              go_wp2_with fail
              refine (HA2.out nq).mono ?_
              rintro e w5 ⟨rfl, hfr2, u1, g1, c1, e1, hrow2, hu1, hg1, hc1, hA1⟩
              have hSt5 := (HSt4.out.then (below_drewN w4 w4.heap.size nq)).after hfr2 hrow2
              have HSt5 := Lib.hid hSt5
              have hm5 := hSt5.mbox
              have HA3 := Lib.hid (add_none kind target nm (l.filter isUn) ao3 n3 cap3 w3.heap.size u1 g1 c1 e1 w5 ((HS3.out nq).fr hfr2 HK3.out) hrow2 HK3.out (fun x hx => HLX.out x (List.mem_filter.1 hx).1) HT.out hu1 hg1 ⟨hc1.1, by omega⟩ (by omega))
              clear q0 q1 q2 q3 m0 m1 m2
              have m0 := cell_of_row w5 w.heap.size 0 _ _ _ hm5
              have m1 := cell_of_row w5 w.heap.size 1 _ _ _ hm5
              have m2 := cell_of_row w5 w.heap.size 2 _ _ _ hm5
              clear hrow2 hfr2 hSt5 hm5
              go_wp2_with fail
              refine HA3.out.mono ?_
              rintro e w6 ⟨rfl, hfr2, u2, g2, c2, e2, hrow2, hu2, hg2, hc2, hA2⟩
              have hSt6 := HSt5.out.after hfr2 hrow2
              have HSt6 := Lib.hid hSt6
              clear m0 m1 m2
              have q0 := cell_of_row w6 w3.heap.size 0 _ _ _ hrow2
              have q1 := cell_of_row w6 w3.heap.size 1 _ _ _ hrow2
              have q2 := cell_of_row w6 w3.heap.size 2 _ _ _ hrow2
              have q3 := cell_of_row w6 w3.heap.size 3 _ _ _ hrow2
              have hs6 := (Array.getElem?_eq_some_iff.1 hrow2).1
              clear hrow2 hfr2 hSt6
              have hAA : (addOf kind target noneI un gn c (l.filter isMiss ++ l.filter isUn) = some (u2, g2, c2) ∧ e2 = 0) ∨ (addOf kind target noneI un gn c (l.filter isMiss ++ l.filter isUn) = none ∧ e2 = 3) := by
                rw [addOf_append]
                rcases hA1 with ⟨h, he⟩ | ⟨h, he⟩
                · rw [h]
                  show (addOf kind target noneI u1 g1 c1 (l.filter isUn) = _ ∧ _) ∨ (addOf kind target noneI u1 g1 c1 (l.filter isUn) = _ ∧ _)
                  rcases hA2 with ⟨h2, he2⟩ | ⟨h2, he2⟩
                  · exact .inl ⟨h2, he2.trans he⟩
                  · exact .inr ⟨h2, he2⟩
                · rw [h]
                  refine .inr ⟨rfl, ?_⟩
                  rcases hA2 with ⟨_, he2⟩ | ⟨_, he2⟩
                  · exact he2.trans he
                  · exact he2
              clear hA1 hA2
              rcases hAA with ⟨hA2, rfl⟩ | ⟨hA2, rfl⟩
              rotate_left
              · have H1 := Lib.hid (H0.out.trans (rowI_up_none HA.out hc0 hg0 hug0 hA2))
                clear hA2
                go_wp2_with fail
                go_quiet (fail)
                go_wp2_with fail
                go_ret2
                have H2 := H1.out
                simp only [Prod.mk.injEq] at H2
                exact ⟨by rw [H2.1, H2.2]; rfl, drewN_below HSt6.out.below _⟩
              · skip
                have hge : g2 = (gn : Int) + sumBy (gq kind target) (l.filter isMiss ++ l.filter isUn) ∧ okQ g2 = true := ⟨(congrArg (fun s => s.2.1) (addOf_some _ hA2)), hg2⟩
                have hgs : 0 ≤ sumBy (gq kind target) (l.filter isMiss ++ l.filter isUn) := sumBy_nonneg _ fun x hx => gq_nonneg (by omega) x (of_decide_eq_true (HLX.out x ((List.mem_append.1 hx).elim (fun h => (List.mem_filter.1 h).1) (fun h => (List.mem_filter.1 h).1))).1).1
                have hgp : 0 < g2 := by omega
                have H1 := Lib.hid (H0.out.trans (rowI_up_some HA.out hc0 hg0 hug0 hA2))
                obtain ⟨u2n, rfl, hu2n⟩ := okq_nat hu2
                obtain ⟨g2n, rfl, hg2n⟩ := okq_nat hg2
                obtain ⟨c2n, rfl⟩ := Int.eq_ofNat_of_zero_le hc2.1
                have hc2n : c2n ≤ 3000 := by omega
                have hg2p : 0 < g2n := by omega
                have hmin : min (c2n : Int) 1000000 = (c2n : Int) := by omega
                clear hge hgs hgp hu2 hg2 hA2
                go_wp2_with fail
                refine (near_any u2n g2n tn _ hu2n hg2n (by omega)).mono ?_
                rintro e w7 ⟨rfl, hb7⟩
                have hSt7 := HSt6.out.then hb7
                have q0 := cell_of_row w7 w3.heap.size 0 _ _ _ hSt7.srow
                have q1 := cell_of_row w7 w3.heap.size 1 _ _ _ hSt7.srow
                have q2 := cell_of_row w7 w3.heap.size 2 _ _ _ hSt7.srow
                have Hb7 := Lib.hid hSt7.below
                by_cases hnr : nearI (u2n : Int) g2n tn
                · rw [decide_eq_true (show 0 < g2n ∧ nearI (u2n : Int) g2n tn from ⟨hg2p, hnr⟩)]
                  have H3 := Lib.hid (H1.out.trans (if_pos (.inl hnr)))
                  clear hnr hSt7 hb7
                  go_wp2_with fail
                  go_ret2
                  have H2 := H3.out
                  simp only [Prod.mk.injEq] at H2
                  exact ⟨by rw [H2.1, H2.2]; rfl, Hb7.out⟩
                · rw [decide_eq_false (show ¬ (0 < g2n ∧ nearI (u2n : Int) g2n tn) from fun h => hnr h.2)]
                  by_cases hcp : u2n ≤ g2n
                  · have H3 := Lib.hid (H1.out.trans (if_pos (.inr (by omega))))
                    have hcpd : decide (u2n ≤ g2n) = true := decide_eq_true hcp
                    clear hnr hSt7 hb7
                    go_wp2_with fail
                    go_ret2
                    have H2 := H3.out
                    simp only [Prod.mk.injEq] at H2
                    exact ⟨by rw [H2.1, H2.2]; rfl, Hb7.out⟩
                  · have H3 := Lib.hid (H1.out.trans (if_neg (fun h => h.elim hnr (fun h => hcp (by omega)))))
                    have hcpd : decide (u2n ≤ g2n) = false := decide_eq_false hcp
                    rw [hmin] at H3
                    have HN := Lib.hid (need_any c2n u2n g2n w7 (by omega) hu2n hg2p hg2n)
                    obtain ⟨nd, hnd⟩ : ∃ x, needI c2n u2n g2n = x := ⟨_, rfl⟩
                    rw [hnd] at HN H3
                    clear hnr hSt7 hb7 hnd
                    go_wp2_with fail
                    refine HN.out.mono ?_
                    rintro e w8 ⟨rfl, hb8⟩
                    have Hb8 := Lib.hid (Hb7.out.trans (hb8.mono Hb7.out.size))
                    clear hb8
                    go_wp2_with fail
                    go_ret2
                    have H2 := H3.out
                    simp only [Prod.mk.injEq] at H2
                    exact ⟨by rw [H2.1, H2.2]; rfl, Hb8.out⟩
end Go.Proofs.Ytojealgjfbjnoaa
