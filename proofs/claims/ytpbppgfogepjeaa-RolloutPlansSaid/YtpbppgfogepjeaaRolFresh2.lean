/- The contract of the law's fresh: is a pod new? Condition: the objects read. -/
import Derived.Test.YtpbppgfogepjeaaRolFresh
namespace Go.Proofs.Ytpbppgfogepjeaa
open Go.ChangeShapes Go.WideShapes Go.ChangeAt Go.RowKit Go.Deep

set_option maxRecDepth 100000 in
set_option maxHeartbeats 2000000 in
theorem fresh_any (x y : ObI) (w : World) (hx : ObAt w x) (hy : ObAt w y) :
    Calls Try.prog 26 #[.agg x.cells.toArray, .agg y.cells.toArray] w fun e w' => e = .returned (.bool (freshB x y)) ∧ Below w.heap.size w w' := by
  obtain ⟨w2, hw2⟩ : ∃ w2, (w.alloc (.cells x.cells.toArray 44)).alloc (.cells y.cells.toArray 44) = w2 := ⟨_, rfl⟩
  have hNP := NPf.new w x y
  rw [hw2] at hNP
  have hsz2 : w2.heap.size = w.heap.size + 2 := by rw [← hw2]; simp
  obtain ⟨N, hN⟩ : ∃ N, w.heap.size = N := ⟨_, rfl⟩
  rw [hN] at hNP hsz2
  have HNP := Lib.hid hNP
  have HX := Lib.hid hx
  have HY := Lib.hid hy
  have Hw : Hid (∀ b : BW w2, ∀ j u, x.o.w.cells7[j]? = some u → b.w'.cell? (Addr.add ⟨N, 3, none⟩ j) = some u) := fun b j u hu => BW.cell (by rw [Addr.add_lit]; exact hNP.nAt _ _ (wl_cells x j u hu)) b
  have Hp : Hid (∀ b : BW w2, ∀ j u, y.o.p.cells10[j]? = some u → b.w'.cell? (Addr.add ⟨N + 1, 10, none⟩ j) = some u) := fun b j u hu => BW.cell (by rw [Addr.add_lit]; exact hNP.pAt _ _ (pod_cells10 y j u hu)) b
  clear hx hy hNP
  obtain ⟨nc, hnc⟩ : ∃ l, x.cells = l := ⟨_, rfl⟩
  obtain ⟨pc, hpc⟩ : ∃ l, y.cells = l := ⟨_, rfl⟩
  rw [hnc, hpc] at hw2
  rw [hnc, hpc]
  clear hnc hpc
  have hf : freshB x y = ((y.kd == 1) && ((y.o.p.owner.toList == x.nm.toList) && (askB x y && ((x.o.w.warm == y.o.p.warm) && (rowEq labEq x.o.w.L.xs y.o.p.L.xs && (rowEq askEq x.o.w.S.xs y.o.p.S.xs && rowEq labEq x.o.w.T.xs y.o.p.T.xs)))))) := rfl
  rw [hf]
  obtain ⟨qk, hqk⟩ : ∃ q, (y.kd == 1) = q := ⟨_, rfl⟩
  obtain ⟨qo, hqo⟩ : ∃ q, (y.o.p.owner.toList == x.nm.toList) = q := ⟨_, rfl⟩
  obtain ⟨qa, hqa⟩ : ∃ q, askB x y = q := ⟨_, rfl⟩
  obtain ⟨qw, hqw⟩ : ∃ q, (x.o.w.warm == y.o.p.warm) = q := ⟨_, rfl⟩
  obtain ⟨q3, hq3⟩ : ∃ q, rowEq labEq x.o.w.L.xs y.o.p.L.xs = q := ⟨_, rfl⟩
  obtain ⟨q4, hq4⟩ : ∃ q, rowEq askEq x.o.w.S.xs y.o.p.S.xs = q := ⟨_, rfl⟩
  obtain ⟨q5, hq5⟩ : ∃ q, rowEq labEq x.o.w.T.xs y.o.p.T.xs = q := ⟨_, rfl⟩
  rw [hqk, hqo, hqa, hqw, hq3, hq4, hq5]
  have Hqk := Lib.hid hqk
  have Hqo := Lib.hid hqo
  have Hqa := Lib.hid hqa
  have Hqw := Lib.hid hqw
  have Hq3 := Lib.hid hq3
  have Hq4 := Lib.hid hq4
  have Hq5 := Lib.hid hq5
  clear hqk hqo hqa hqw hq3 hq4 hq5 hf
  obtain ⟨cw, hcw⟩ : ∃ l, x.o.w.cells7 = l := ⟨_, rfl⟩
  obtain ⟨cp, hcp⟩ : ∃ l, y.o.p.cells10 = l := ⟨_, rfl⟩
  have hwl : cw.length = 7 := by rw [← hcw]; rfl
  have hpl : cp.length = 10 := by rw [← hcp]; rfl
  have howl : ∀ v ∈ cw, v.oneCell' = true := by rw [← hcw]; exact fun v hv => List.all_eq_true.1 (show x.o.w.cells7.all (fun u => u.oneCell') = true from rfl) v hv
  have hopl : ∀ v ∈ cp, v.oneCell' = true := by rw [← hcp]; exact fun v hv => List.all_eq_true.1 (show y.o.p.cells10.all (fun u => u.oneCell') = true from rfl) v hv
  have Hcw := Lib.hid hcw
  have Hcp := Lib.hid hcp
  rw [hcw] at Hw
  rw [hcp] at Hp
  clear hcw hcp
  go_enter Try.func26, Try.ntmps26
  go_upto_region 1 with fail
  refine region_later mixedN ?_
  refine later_inv (fun w' => ∃ b : BW w2, w' = b.w') (fun d A w' => ∃ v5 v6, A = ⟨#[.agg nc.toArray, .agg pc.toArray, .pointer (some ⟨N, 0, none⟩), .pointer (some ⟨N + 1, 0, none⟩), .bool false, v5, v6, undef, .pointer (some ⟨N, 3, none⟩), .agg cw.toArray, .pointer (some ⟨N + 1, 10, none⟩), .agg cp.toArray, undef, undef, undef, undef, undef, undef, undef, undef, undef, undef, undef, undef, undef, undef, undef, undef, undef, undef, undef, undef, undef, undef, undef, undef, undef, undef, undef, undef, undef, undef, undef, undef, undef, undef, undef, undef, undef, undef, undef, undef, undef, undef, undef, undef, undef, undef, undef, undef, undef, undef, undef, undef, undef, undef, undef, undef, undef, undef, undef, undef, undef, undef, undef], []⟩ ∧ TwoS w2 w' (d 4) (d 5) (d 6) (d 7) 29 31 zeroW zeroP cw.toArray cp.toArray v5 v6) [4, 5, 6, 7] 0 8 30 (by kernel_rfl) (by kernel_rfl) ⟨⟨{ w2 with drawn := w2.drawn + 1 }, ⟨rfl, rfl, rfl, Nat.le_refl _, fun _ _ => rfl⟩⟩, rfl⟩ ?_ ?_ ?_
  · intro i o ho hi d A w' hI hdi hdep hC
    obtain ⟨v5, v6, rfl, hT⟩ := hI
    obtain ⟨bw, rfl⟩ := hC
    simp only [List.mem_cons, List.not_mem_nil, or_false] at hi
    rcases hi with rfl | rfl | rfl | rfl
    · obtain rfl := Option.some.inj ho
      exact upon_new (z := zeroW) (T := 29) (newW _ _ rfl) ⟨⟨⟨_, bw.h.alloc bw.h.size _⟩, rfl⟩, _, v6, rfl, hT.first hdi bw.h.size⟩
    · obtain rfl := Option.some.inj ho
      exact upon_new (z := zeroP) (T := 31) (newP _ _ rfl) ⟨⟨⟨_, bw.h.alloc bw.h.size _⟩, rfl⟩, v5, _, rfl, hT.second hdi bw.h.size⟩
    · obtain rfl := Option.some.inj ho
      obtain ⟨k, rfl, hk1, hk2, hT2⟩ := hT.put1 (hdep 4 rfl (by kernel_rfl)) hdi
      exact upon_put aggWl (.tmp 5) (.tmp 9) rfl k cw hwl howl zeroW rfl hk2 rfl rfl ⟨⟨⟨_, bw.h.trans ((Fr.setRow (fun q => q = k) _ k _ rfl).below bw.h.size (fun q hq => by omega))⟩, rfl⟩, _, v6, rfl, hT2⟩
    · obtain rfl := Option.some.inj ho
      obtain ⟨k, rfl, hk1, hk2, hT2⟩ := hT.put2 (hdep 5 rfl (by kernel_rfl)) hdi
      exact upon_put aggPod (.tmp 6) (.tmp 11) rfl k cp hpl hopl zeroP rfl hk2 rfl rfl ⟨⟨⟨_, bw.h.trans ((Fr.setRow (fun q => q = k) _ k _ rfl).below bw.h.size (fun q hq => by omega))⟩, rfl⟩, v5, _, rfl, hT2⟩
  · rintro A w' ⟨bw, rfl⟩ ⟨d, ⟨v5, v6, rfl, hT⟩, hall⟩
    rw [hall 4 (by decide), hall 5 (by decide), hall 6 (by decide), hall 7 (by decide)] at hT
    obtain ⟨b5, b6, rfl, rfl, hl5, hl6, hne, hr5, hr6⟩ := hT.both
    obtain ⟨w3, hb3⟩ := bw
    dsimp only at hr5 hr6 ⊢
    clear hall hT
    refine later_end 8 rfl ?_
    rw [← Hcw.out] at hr5
    rw [← Hcp.out] at hr6
    have HB3 : Hid (Below w.heap.size w w3) := by show Below _ _ _; rw [hN]; exact HNP.out.below.trans (hb3.mono (by omega))
    have HNP3 := HNP.out.b (by omega) hb3
    have k1 := HNP3.nAt 1 _ x.h1
    have j0 := HNP3.pAt 0 _ y.h0
    have hqa := Hqa.out
    have hE : ∀ w, _ := fun w => neqRes ⟨x.o.w.cpu, x.o.w.mem⟩ ⟨y.o.p.cpu, y.o.p.mem⟩ w
    dsimp only at hE
    unfold askB at hqa
    rw [hqa] at hE
    have HE := Lib.hid hE
    have cA := block_part hr5 (i := 1) (n := 2) [.int .i64 x.o.w.cpu, .int .i64 x.o.w.mem] rfl
    have cB := block_part hr6 (i := 4) (n := 2) [.int .i64 y.o.p.cpu, .int .i64 y.o.p.mem] rfl
    have F5 := Lib.hid hr5
    have F6 := Lib.hid hr6
    have a3 : w3.cell? ⟨b5, 3, none⟩ = some (.slice x.o.w.L.ao x.o.w.L.la x.o.w.L.ca) := cell_of_row w3 b5 3 _ _ _ hr5
    have a4 : w3.cell? ⟨b5, 4, none⟩ = some (.slice x.o.w.S.ao x.o.w.S.la x.o.w.S.ca) := cell_of_row w3 b5 4 _ _ _ hr5
    have a6 : w3.cell? ⟨b5, 6, none⟩ = some (.int .i64 x.o.w.warm) := cell_of_row w3 b5 6 _ _ _ hr5
    have p0 : w3.cell? ⟨b6, 0, none⟩ = some (.string y.o.p.owner) := cell_of_row w3 b6 0 _ _ _ hr6
    have p6 : w3.cell? ⟨b6, 6, none⟩ = some (.slice y.o.p.L.ao y.o.p.L.la y.o.p.L.ca) := cell_of_row w3 b6 6 _ _ _ hr6
    have p7 : w3.cell? ⟨b6, 7, none⟩ = some (.slice y.o.p.S.ao y.o.p.S.la y.o.p.S.ca) := cell_of_row w3 b6 7 _ _ _ hr6
    have p9 : w3.cell? ⟨b6, 9, none⟩ = some (.int .i64 y.o.p.warm) := cell_of_row w3 b6 9 _ _ _ hr6
    have S1 : SlR (Flat Require.cells) 3 w3 x.o.w.S.ao x.o.w.S.la x.o.w.S.ca x.o.w.S.xs := RowS.b HB3.out HX.out.sh.w.S
    have S2 : SlR (Flat Require.cells) 3 w3 y.o.p.S.ao y.o.p.S.la y.o.p.S.ca y.o.p.S.xs := RowS.b HB3.out HY.out.sh.p.S
    have hq4 := Hq4.out
    obtain ⟨sa, hsa⟩ : ∃ s, x.o.w.S.ao = s := ⟨_, rfl⟩
    obtain ⟨sl, hsl⟩ : ∃ s, x.o.w.S.la = s := ⟨_, rfl⟩
    obtain ⟨sc, hsc⟩ : ∃ s, x.o.w.S.ca = s := ⟨_, rfl⟩
    obtain ⟨sx, hsx⟩ : ∃ s, x.o.w.S.xs = s := ⟨_, rfl⟩
    obtain ⟨ta, hta⟩ : ∃ s, y.o.p.S.ao = s := ⟨_, rfl⟩
    obtain ⟨tl, htl⟩ : ∃ s, y.o.p.S.la = s := ⟨_, rfl⟩
    obtain ⟨tc, htc⟩ : ∃ s, y.o.p.S.ca = s := ⟨_, rfl⟩
    obtain ⟨tx, htx⟩ : ∃ s, y.o.p.S.xs = s := ⟨_, rfl⟩
    rw [hsa, hsl, hsc] at a4
    rw [hta, htl, htc] at p7
    rw [hsa, hsl, hsc, hsx] at S1
    rw [hta, htl, htc, htx] at S2
    rw [hsx, htx] at hq4
    have HQ4 := Lib.hid hq4
    have HA4 := Lib.hid a4
    have HP7 := Lib.hid p7
    clear hsa hsl hsc hsx hta htl htc htx hq4 Hq4
    clear hE hqa hr5 hr6 hb3 HNP3 howl hopl hwl hpl Hw Hp
    have g1 := S1.hmax; have g2 := S1.hcap
    have g3 := S2.hmax; have g4 := S2.hcap
    have Hla := Lib.hid S1.hlen
    have Hlb := Lib.hid S2.hlen
    unfold maxLen at g1 g3
    have HS1 := Lib.hid S1
    have HS2 := Lib.hid S2
    clear S1 S2
    go_simp
    cases qk
    · have hk : (y.kd != 1) = true := by rw [bne, Hqk.out]; rfl
      go_wp2_with fail
      go_ret
      exact ⟨rfl, HB3.out⟩
    · rw [eq_of_beq Hqk.out] at j0
      have hqo := Hqo.out
      cases qo
      · go_wp2_with fail
        go_ret
        exact ⟨rfl, HB3.out⟩
      · cases qa
        · go_wp2_with (first
        | ((with_reducible refine at_slot 24 ?_); go_must (refine wpList_load_gd aggRes rfl _ rfl ⟨b5, 1, none⟩ rfl _ rfl cA ?_))
        | ((with_reducible refine at_slot 26 ?_); go_must (refine wpList_load_gd aggRes rfl _ rfl ⟨b6, 4, none⟩ rfl _ rfl cB ?_))
        | ((with_reducible refine at_slot 27 ?_); go_must (refine wpList_bin rfl _ _ rfl _ _ _ rfl rfl (fun w => run_eqGuard_agg _ _ _ _ _ _ _ guardRes) HE.out ?_)))
          go_ret
          exact ⟨rfl, HB3.out⟩
        · have hqw : (x.o.w.warm != y.o.p.warm) = !qw := by rw [bne, Hqw.out]
          cases qw
          · have hqw : (x.o.w.warm != y.o.p.warm) = true := hqw
            go_wp2_with (first
        | ((with_reducible refine at_slot 24 ?_); go_must (refine wpList_load_gd aggRes rfl _ rfl ⟨b5, 1, none⟩ rfl _ rfl cA ?_))
        | ((with_reducible refine at_slot 26 ?_); go_must (refine wpList_load_gd aggRes rfl _ rfl ⟨b6, 4, none⟩ rfl _ rfl cB ?_))
        | ((with_reducible refine at_slot 27 ?_); go_must (refine wpList_bin rfl _ _ rfl _ _ _ rfl rfl (fun w => run_eqGuard_agg _ _ _ _ _ _ _ guardRes) HE.out ?_)))
            go_ret
            exact ⟨rfl, HB3.out⟩
          · have hqw : (x.o.w.warm != y.o.p.warm) = false := hqw
            by_cases hll : sl = tl
            · subst hll
              go_wp2_with (first
        | ((with_reducible refine at_slot 24 ?_); go_must (refine wpList_load_gd aggRes rfl _ rfl ⟨b5, 1, none⟩ rfl _ rfl cA ?_))
        | ((with_reducible refine at_slot 26 ?_); go_must (refine wpList_load_gd aggRes rfl _ rfl ⟨b6, 4, none⟩ rfl _ rfl cB ?_))
        | ((with_reducible refine at_slot 27 ?_); go_must (refine wpList_bin rfl _ _ rfl _ _ _ rfl rfl (fun w => run_eqGuard_agg _ _ _ _ _ _ _ guardRes) HE.out ?_)))
              go_loopw [7, 48] (fun _ i wr => ∃ k : Nat, k ≤ sl ∧ i = .int .i64 k ∧ Hid (rowEq askEq (sx.drop k) (tx.drop k) = q4) ∧ Hid (Below w3.heap.size w3 wr)) (fun _ i _ => sl - (intOf i).toNat)
              case atStart => exact ⟨0, Nat.zero_le _, rfl, HQ4.out, Below.refl _ _⟩
              case round =>
                obtain ⟨k, hk, rfl, hre, hb⟩ := hrel
                by_cases hlt : k < sl
                · obtain ⟨b, off, rfl⟩ := HS1.out.ptr (by decide) (by omega)
                  obtain ⟨b', off', rfl⟩ := HS2.out.ptr (by decide) (by omega)
                  have kx : k < sx.length := by have := Hla.out; omega
                  have ky : k < tx.length := by have := Hlb.out; omega
                  have hc := (HS1.out.flatKeeps (Keeps.below hb.out)).flat kx
                  have hd := (HS2.out.flatKeeps (Keeps.below hb.out)).flat ky
                  have hst := rowEq_drop askEq sx tx k kx ky
                  have c0 := hc 0 _ rfl
                  have d0 := hd 0 _ rfl
                  have c1 := hc 1 _ rfl
                  have d1 := hd 1 _ rfl
                  have c2 := hc 2 _ rfl
                  have d2 := hd 2 _ rfl
                  have r4 := Below.cell_some hb.out HA4.out
                  have r7 := Below.cell_some hb.out HP7.out
                  rw [Nat.add_zero] at c0 d0
                  obtain ⟨x9, hx⟩ : ∃ x, sx[k] = x := ⟨_, rfl⟩
                  obtain ⟨y9, hy⟩ : ∃ x, tx[k] = x := ⟨_, rfl⟩
                  rw [hx] at c0 c1 c2 hst
                  rw [hy] at d0 d1 d2 hst
                  have Hst := Lib.hid hst
                  have Hb := Lib.hid (HB3.out.trans (hb.out.mono HB3.out.size))
                  have Hb3 := Lib.hid hb.out
                  have Hre := Lib.hid hre.out
                  clear hc hd hb hx hy kx ky hst hre a3 a4 a6 p0 p6 p7 p9 k1 j0 cA cB hqo hqw
                  obtain ⟨wp, rfl⟩ : ∃ wp : World, wp = wr := ⟨_, rfl⟩
                  obtain ⟨q, hq⟩ : ∃ q, askEq x9 y9 = q := ⟨_, rfl⟩
                  have hN : ∀ w, _ := fun w => neqReq x9 y9 w
                  obtain ⟨x1, x2, x3⟩ := x9
                  obtain ⟨y1, y2, y3⟩ := y9
                  dsimp only at c0 c1 c2 d0 d1 d2 hN
                  rw [hq] at Hst
                  unfold askEq at hq
                  dsimp only at hq
                  rw [hq] at hN
                  have HN := Lib.hid hN
                  clear hq hN
                  go_upto_region 7 with fail
                  refine wp_region_quiet_lit (by kernel_rfl) (by kernel_rfl) ?_
                  repeat (quiet_step (fail))
                  refine wpQuiet_bin rfl _ _ rfl _ _ _ rfl rfl (fun w => run_eqGuard_agg _ _ _ _ _ _ _ guardReq) HN.out ?_
                  refine wpQuiet_nil ?_
                  intro _ hw'
                  obtain ⟨nq, hw''⟩ := hw'
                  subst hw''
                  cases q
                  · have He : Hid (q4 = false) := by show q4 = false; rw [← Hre.out, Hst.out]; rfl
                    go_wp2_with fail
                    go_ret
                    exact ⟨by rw [He.out]; cases q3 <;> rfl, drewN_below Hb.out _⟩
                  · have He : Hid (rowEq askEq (sx.drop (k + 1)) (tx.drop (k + 1)) = q4) := by show _ = q4; rw [← Hre.out, Hst.out]; rfl
                    go_wp2_with fail
                    go_roundw
                    case rel => exact ⟨k + 1, by omega, by go_num, He.out, drewN_below Hb3.out _⟩
                    case measure => simp [intOf]; omega
                · have he := hre.out.symm.trans (rowEq_end askEq (by have := Hla.out; omega) (by have := Hlb.out; omega))
                  have hb2 := hb.out
                  obtain ⟨wp, rfl⟩ : ∃ wp : World, wp = wr := ⟨_, rfl⟩
                  have HB4 := Lib.hid (HB3.out.trans (hb2.mono HB3.out.size))
                  have G5 := Lib.hid ((hb2.block b5 (Array.getElem?_eq_some_iff.1 F5.out).1).trans F5.out)
                  have G6 := Lib.hid ((hb2.block b6 (Array.getElem?_eq_some_iff.1 F6.out).1).trans F6.out)
                  have e3 := Below.cell_some hb2 a3
                  have e6 := Below.cell_some hb2 p6
                  have HL := Lib.hid (same05_any x.o.w.L.xs y.o.p.L.xs _ _ _ _ _ _ wp (RowL.b HB4.out HX.out.sh.w.L) (RowL.b HB4.out HY.out.sh.p.L))
                  clear hre hb hb2 a3 a4 a6 p0 p6 p7 p9 k1 j0 cA cB hqo hqw
                  subst he
                  go_wp2_with fail
                  refine HL.out.mono ?_
                  rintro e w4 ⟨rfl, hb4⟩
                  rw [Hq3.out]
                  have HB5 := Lib.hid (HB4.out.trans (hb4.mono HB4.out.size))
                  have K5 := (hb4.block b5 (Array.getElem?_eq_some_iff.1 G5.out).1).trans G5.out
                  have K6 := (hb4.block b6 (Array.getElem?_eq_some_iff.1 G6.out).1).trans G6.out
                  have a5 : w4.cell? ⟨b5, 5, none⟩ = some (.slice x.o.w.T.ao x.o.w.T.la x.o.w.T.ca) := cell_of_row w4 b5 5 _ _ _ K5
                  have p8 : w4.cell? ⟨b6, 8, none⟩ = some (.slice y.o.p.T.ao y.o.p.T.la y.o.p.T.ca) := cell_of_row w4 b6 8 _ _ _ K6
                  clear hb4 HL e3 e6 G5 G6 K5 K6
                  cases q3
                  · go_wp2_with fail
                    go_ret
                    exact ⟨rfl, HB5.out⟩
                  · have HT := Lib.hid (same05_any x.o.w.T.xs y.o.p.T.xs _ _ _ _ _ _ w4 (RowL.b HB5.out HX.out.sh.w.T) (RowL.b HB5.out HY.out.sh.p.T))
                    go_wp2_with fail
                    refine HT.out.mono ?_
                    rintro e w6 ⟨rfl, hb6⟩
                    rw [Hq5.out]
                    have HB6 := Lib.hid (HB5.out.trans (hb6.mono HB5.out.size))
                    clear hb6 HT a5 p8
                    cases q5
                    · go_wp2_with fail
                      go_ret
                      exact ⟨rfl, HB6.out⟩
                    · go_wp2_with fail
                      go_ret
                      exact ⟨rfl, HB6.out⟩
            · have hne : ((sl : Int) != (tl : Int)) = true := by simp; omega
              have h4 : Hid (q4 = false) := by show q4 = false; rw [← HQ4.out]; exact rowEq_len _ _ _ (by rw [Hla.out, Hlb.out]; exact hll)
              go_wp2_with (first
        | ((with_reducible refine at_slot 24 ?_); go_must (refine wpList_load_gd aggRes rfl _ rfl ⟨b5, 1, none⟩ rfl _ rfl cA ?_))
        | ((with_reducible refine at_slot 26 ?_); go_must (refine wpList_load_gd aggRes rfl _ rfl ⟨b6, 4, none⟩ rfl _ rfl cB ?_))
        | ((with_reducible refine at_slot 27 ?_); go_must (refine wpList_bin rfl _ _ rfl _ _ _ rfl rfl (fun w => run_eqGuard_agg _ _ _ _ _ _ _ guardRes) HE.out ?_)))
              go_ret
              exact ⟨by rw [h4.out]; cases q3 <;> rfl, HB3.out⟩
  · repeat (first | (refine wpVal_skipR rfl ?_) | (refine wpVal_takeR rfl ?_; first | (refine wpVal_loadK aggWl rfl _ rfl _ rfl _ hwl (by rintro _ ⟨b, rfl⟩; exact Hw.out b) (fun K hK => ?_); go_simp; refine hK _ ?_; clear hK K) | (refine wpVal_loadK aggPod rfl _ rfl _ rfl _ hpl (by rintro _ ⟨b, rfl⟩; exact Hp.out b) (fun K hK => ?_); go_simp; refine hK _ ?_; clear hK K) | (refine wpVal_oneK rfl (fun K hK => ?_); go_simp; refine hK _ ?_; clear hK K)))
    refine wpVal_endR ?_
    exact ⟨undef, undef, rfl, TwoS.none⟩
end Go.Proofs.Ytpbppgfogepjeaa
