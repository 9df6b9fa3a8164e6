/- The walk of law 36's do. Condition: board and list lie in blocks of the call's own, and tell the same. -/
import Derived.Test.YtcgfjbbdadjegaaLeaseAct
import Derived.Test.YtcgfjbbdadjegaaHeadLit
namespace Go.Proofs.Ytcgfjbbdadjegaa
open Go.ChangeShapes Go.WideShapes Go.ChangeAt Go.RowKit Go.Deep

set_option maxRecDepth 100000 in
set_option maxHeartbeats 4000000 in
theorem do_give (kd tk st now : Int) (nm ho : ByteArray) (bb bm mb B : Nat) (b : Bd) (v : Value) (ls : List Lease) (w : World) (k0 : ¬ kd = 0) (k1 : ¬ kd = 1) (k2 : ¬ kd = 2) (hA : DoAt bb bm mb B b v ls nm ho now w) :
    Calls Try.prog 8 #[.pointer (some ⟨bb, 0, none⟩), .pointer (some ⟨mb, 0, none⟩), .int .i64 now, .agg #[.int .i64 kd, .int .i64 tk, .int .u16 st, .string nm, .string ho]] w (DoPost bb bm mb B ls w) := by
  obtain ⟨hB, hM, hS, hl, hn0, hn1, hnm, hho, hbb, hbm, hmb, hBw⟩ := hA
  obtain ⟨x, hF⟩ := found_of hS nm
  have hfind := fun w1 (h : ModAt w1 mb B v ls) => find_any36 mb B v ls nm w1 h
  obtain ⟨i, hi⟩ : ∃ i, idxOf (nmIs nm) ls 0 = i := ⟨_, rfl⟩
  rw [hi] at hF hfind
  clear hi
  have hok : ActOk b kd tk nm ho now i x := act_ok hn0 (by omega) (by rw [hS.n]; omega) hF
  have htk : tkOf kd tk = 1 := by unfold tkOf; rw [if_neg (by omega)]
  obtain ⟨hok1, hok2⟩ := hok
  rw [htk] at hok1 hok2
  obtain ⟨wv, hwv⟩ : ∃ wv, wantOf kd 1 nm ho now i x = wv := ⟨_, rfl⟩
  rw [hwv] at hok1 hok2
  obtain ⟨x0, x1, x2, x3⟩ := x
  have HF := Lib.hid hF
  have HM := Lib.hid hM
  have HB := Lib.hid hB
  have HS := Lib.hid hS
  have Hl := Lib.hid hl
  have Hn := Lib.hid (And.intro hn0 hn1)
  have Hnm := Lib.hid hnm
  have Hho := Lib.hid hho
  have HG := Lib.hid (And.intro hbb (And.intro hbm (And.intro hmb hBw)))
  have Hok1 := Lib.hid hok1
  have Hok2 := Lib.hid hok2
  have Hwv := Lib.hid hwv
  have Hfind := Lib.hid hfind
  clear hF hM hB hS hl hn0 hn1 hnm hho hbb hbm hmb hBw hok1 hok2 hwv hfind htk
  have q0 : (kd == 0) = false := by simpa using k0
  have q1 : (kd == 1) = false := by simpa using k1
  have q2 : (kd == 2) = false := by simpa using k2
  have p0 : (kd != 0) = true := by simpa using k0
  have p1 : (kd != 1) = true := by simpa using k1
  have p2 : (kd != 2) = true := by simpa using k2
  go_enter Try.func8, Try.ntmps8
  go_wp2_with fail
  refine (Hfind.out _ (HM.out.fr ((Fr.refl (fun _ => False) w).alloc _) id (fun _ _ h => h))).mono ?_
  rintro e w1 ⟨rfl, hb1⟩
  have hb0 : Below w.heap.size w w1 := ((Below.refl _ w).alloc (Nat.le_refl _) (.cells #[.int .i64 kd, .int .i64 tk, .int .u16 st, .string nm, .string ho] 32)).trans (hb1.mono (by simp))
  have ha1 : w1.heap[w.heap.size]? = some (.cells #[.int .i64 kd, .int .i64 tk, .int .u16 st, .string nm, .string ho] 32 (0, 0)) := (hb1.block _ (by simp)).trans (heap_alloc_new w _)
  have Hb0 := Lib.hid hb0
  have Ha1 := Lib.hid ha1
  have a0 := cell_of_row w1 w.heap.size 0 _ _ _ ha1
  have a1 := cell_of_row w1 w.heap.size 1 _ _ _ ha1
  have a3 := cell_of_row w1 w.heap.size 3 _ _ _ ha1
  have a4 := cell_of_row w1 w.heap.size 4 _ _ _ ha1
  have hs1 : w.heap.size < w1.heap.size := blk a0
  clear hb0 hb1 ha1
  go_upto_if 37 with fail
  go_cut [] from 37 (fun wx => wx = w1.alloc (.cells #[.string x0, .string x1, .int .i64 x2, .int .i64 x3] 34))
  case first =>
    as_aux_lemma =>
    by_cases hi : i < 0
    · obtain ⟨rfl, _, hz⟩ := HF.out.no hi
      unfold Lease.zero at hz
      simp only [Lease.mk.injEq] at hz
      obtain ⟨rfl, rfl, rfl, rfl⟩ := hz
      go_wp2_with fail
      go_meet
      rfl
    · obtain ⟨k, rfl, hk, -, -⟩ := HF.out.yes (by omega)
      obtain ⟨kx, hke⟩ := List.getElem?_eq_some_iff.1 hk
      have HM1 := HM.out.fr (Fr.of_below Hb0.out (fun _ => False)) id (fun _ _ h => h)
      obtain ⟨ao, cap, hv, hS1, _⟩ := SlR.of_owns HM1.own rfl (fun x : Lease => (rfl : x.cells.length = 4))
      have m0 : w1.cell? ⟨mb, 0, none⟩ = some (.slice ao ls.length cap) := by rw [cell_of_row w1 mb 0 _ _ _ HM1.blk, hv]; rfl
      obtain ⟨bl, off, rfl⟩ := hS1.ptr (by decide) (by omega)
      have hc := hS1.flat kx
      rw [hke] at hc
      have c0 := hc 0 _ rfl
      have c1 := hc 1 _ rfl
      have c2 := hc 2 _ rfl
      have c3 := hc 3 _ rfl
      rw [Nat.add_zero] at c0
      dsimp only at c0 c1 c2 c3
      have hac := hS1.hcap
      have ham := hS1.hmax
      unfold maxLen at ham
      have sm0 := blk m0
      have sc0 := blk c0
      obtain ⟨n, hn⟩ : ∃ n, ls.length = n := ⟨_, rfl⟩
      rw [hn] at kx m0 hac
      clear hc hS1 HM1 hv hke hk hn
      go_wp2_with fail
      go_meet
      rfl
  case rest =>
    subst hcut
    obtain ⟨ow, how⟩ : ∃ ow, decide (0 ≤ i ∧ x1 = ho ∧ now < x2) = ow := ⟨_, rfl⟩
    have How := Lib.hid how
    clear how
    go_upto_region 9 with fail
    go_cut [13] from 45 (fun s wx => s = .bool ow ∧ w1.alloc (.cells #[.string x0, .string x1, .int .i64 x2, .int .i64 x3] 34) = wx)
    case first =>
      as_aux_lemma =>
      rcases Int.lt_or_le i 0 with hi | hi
      · obtain ⟨rfl, -, -⟩ := HF.out.no hi
        go_wp2_with fail
        go_meet
        exact ⟨by rw [← How.out, decide_eq_false (by omega)], rfl⟩
      · obtain ⟨k, rfl, -, -, -⟩ := HF.out.yes hi
        by_cases hh : x1 = ho
        · have hq : (x1.toList == ho.toList) = true := by rw [hh]; simp
          have Hh := Lib.hid hh
          clear hh
          by_cases hl : now < x2
          · have hl1 : decide (now < x2) = true := decide_eq_true hl
            have Hl2 := Lib.hid hl
            clear hl
            go_wp2_with fail
            go_meet
            exact ⟨by rw [← How.out, decide_eq_true ⟨by omega, Hh.out, Hl2.out⟩], rfl⟩
          · have hl1 : decide (now < x2) = false := decide_eq_false hl
            have Hl2 := Lib.hid hl
            clear hl
            go_wp2_with fail
            go_meet
            exact ⟨by rw [← How.out, decide_eq_false (by have := Hl2.out; omega)], rfl⟩
        · have hq : (x1.toList == ho.toList) = false := beq_eq_false_iff_ne.2 (fun h => hh (toList_inj.1 h))
          have Hh := Lib.hid hh
          clear hh
          go_wp2_with fail
          go_meet
          exact ⟨by rw [← How.out, decide_eq_false (fun h => Hh.out h.2.1)], rfl⟩
    case rest =>
      obtain ⟨rfl, rfl⟩ := hcut
      obtain ⟨nn, hnn⟩ : ∃ nn, (nameOf nm.data.toList && nameOf ho.data.toList) = nn := ⟨_, rfl⟩
      have Hnn := Lib.hid hnn
      obtain ⟨n1, hn1⟩ : ∃ n, nameOf nm.data.toList = n := ⟨_, rfl⟩
      obtain ⟨n2, hn2⟩ : ∃ n, nameOf ho.data.toList = n := ⟨_, rfl⟩
      have HN1 : Hid (∀ w1, Calls Try.prog 16 #[.string nm] w1 fun e w' => e = .returned (.bool n1) ∧ w1 = w') := fun w1 => by rw [← hn1]; exact (refName_any nm Hnm.out w1).mono fun e w' h => ⟨h.1, h.2.symm⟩
      have HN2 : Hid (∀ w1, Calls Try.prog 16 #[.string ho] w1 fun e w' => e = .returned (.bool n2) ∧ w1 = w') := fun w1 => by rw [← hn2]; exact (refName_any ho Hho.out w1).mono fun e w' h => ⟨h.1, h.2.symm⟩
      have Hn12 : Hid ((n1 && n2) = nn) := by rw [← hn1, ← hn2]; exact hnn
      clear hnn hn1 hn2
      go_upto_block 0 with fail
      go_cut [10] from 60 (fun s wx => s = .int .i64 wv ∧ w1.alloc (.cells #[.string x0, .string x1, .int .i64 x2, .int .i64 x3] 34) = wx)
      case first =>
        go_upto_region 10 with fail
        go_cut [60] from 61 (fun s wx => s = .bool (!nn) ∧ w1.alloc (.cells #[.string x0, .string x1, .int .i64 x2, .int .i64 x3] 34) = wx)
        case first =>
          as_aux_lemma =>
          cases n1
          · go_wp2_with fail
            refine (HN1.out _).mono ?_
            rintro e w' ⟨rfl, rfl⟩
            go_wp2_with fail
            go_meet
            exact ⟨by rw [← Hn12.out]; rfl, rfl⟩
          · go_wp2_with fail
            refine (HN1.out _).mono ?_
            rintro e w' ⟨rfl, rfl⟩
            go_wp2_with fail
            refine (HN2.out _).mono ?_
            rintro e w' ⟨rfl, rfl⟩
            go_wp2_with fail
            go_meet
            exact ⟨by rw [← Hn12.out]; rfl, rfl⟩
        case rest =>
          obtain ⟨rfl, rfl⟩ := hcut
          clear HN1 HN2 Hn12
          cases nn
          · have hv : Hid (wv = 6) := Hwv.out.symm.trans (want_name Hnn.out)
            go_wp2_with fail
            go_meet
            exact ⟨by rw [hv.out], rfl⟩
          · skip
            have Ht := Lib.hid (And.intro (show 1 ≤ (1 : Int) by omega) (show (1 : Int) ≤ 1800 by omega))

            rcases Int.lt_or_le i 0 with hi | hi
            · obtain ⟨rfl, -, -⟩ := HF.out.no hi
              have hv : Hid (wv = 7) := Hwv.out.symm.trans (want_none Hnn.out Ht.out.1 Ht.out.2 (by omega))
              go_wp2_with fail
              go_meet
              exact ⟨by rw [hv.out], rfl⟩
            · obtain ⟨k, rfl, -, -, -⟩ := HF.out.yes hi
              cases ow
              · have hv : Hid (wv = 12) := Hwv.out.symm.trans (want_state Hnn.out Ht.out.1 Ht.out.2 (by omega) (.inl ⟨by omega, by omega, of_decide_eq_false How.out⟩))
                go_wp2_with fail
                go_meet
                exact ⟨by rw [hv.out], rfl⟩
              · have ho3 := of_decide_eq_true How.out
                have hv : Hid (wv = 0) := Hwv.out.symm.trans (want_ok Hnn.out Ht.out.1 Ht.out.2 (by omega) (by rintro (h | h); exact h.2.2 ho3; exact h.2.2 ho3.2.1))
                have hl1 : decide (now < x2) = true := decide_eq_true ho3.2.2
                have hq : (x1.toList == ho.toList) = true := by rw [ho3.2.1]; simp
                clear ho3
                go_wp2_with fail
                go_meet
                exact ⟨by rw [hv.out], rfl⟩
      case rest =>
        obtain ⟨rfl, rfl⟩ := hcut
        clear Hnn HN1 HN2 Hn12
        obtain ⟨⟨⟨g0, g1, g2, g3⟩, er, b2⟩, hp⟩ : ∃ p, actOf b kd tk nm ho now = p := ⟨_, rfl⟩
        obtain ⟨y, hy⟩ : ∃ y, newOf kd 1 ho now i ⟨x0, x1, x2, x3⟩ = y := ⟨_, rfl⟩
        have hok1 := Hok1.out
        have hok2 := Hok2.out
        rw [hp] at hok1 hok2
        rw [hy] at hok2
        have Hok1 := Lib.hid hok1
        have Hok2 := Lib.hid hok2
        have Hy := Lib.hid hy
        clear hok1 hok2 hy
        have hsb : bb < w.heap.size := (Array.getElem?_eq_some_iff.1 HB.out.blk).1
        have hsm : bm < w.heap.size := MapIs.lt HB.out.map
        obtain ⟨W2, hW2⟩ : ∃ W2, (w1.alloc (.cells #[.string x0, .string x1, .int .i64 x2, .int .i64 x3] 34)).alloc (.cells #[.string ⟨#[]⟩, .string ⟨#[]⟩, .int .i64 0, .int .i64 0] 34) = W2 := ⟨_, rfl⟩
        have hb2 : Below w.heap.size w W2 := by
          rw [← hW2]
          exact (Hb0.out.alloc Hb0.out.size _).alloc (by rw [World.size_alloc]; omega) _
        have hm2 : DoMid w W2 bb bm w.heap.size w1.heap.size (w1.heap.size + 1) #[.int .i64 kd, .int .i64 tk, .int .u16 st, .string nm, .string ho] b ⟨x0, x1, x2, x3⟩ .zero := by
          refine ⟨?_, ?_, ?_, HB.out.fr (Fr.of_below hb2 (fun _ => False)) id id, Fr.of_below hb2 _, Nat.le_refl _, by omega, by omega, hsb, hsm, by omega, by omega, by omega⟩
          · rw [← hW2, Below.heap_alloc _ _ _ (by rw [World.size_alloc]; omega), Below.heap_alloc _ _ _ hs1]; exact Ha1.out
          · rw [← hW2]; exact heap_alloc2 _ _ _
          · rw [← hW2]; exact heap_alloc3 _ _ _
        have Hm2 := Lib.hid hm2
        have Hb2 := Lib.hid hb2
        have Hsz : Hid (W2.heap.size = w1.heap.size + 2) := by rw [← hW2]; simp [Hid]
        have HW2 := Lib.hid hW2
        clear hm2 hb2 hW2
        have hb512 : b.n ≤ 512 := by have := HS.out.n; have := Hl.out; omega
        have ha : actOf b kd tk nm ho now = (.zero, (giveOf b nm ho now).1, (giveOf b nm ho now).2) := by unfold actOf; rw [if_neg (by omega), if_neg (by omega)]
        rw [hp] at ha
        have ha2 : giveOf b nm ho now = (er, b2) := by
          simp only [Prod.mk.injEq] at ha
          exact Prod.ext ha.2.1.symm ha.2.2.symm
        have Hg0 : Hid ((⟨g0, g1, g2, g3⟩ : Lease) = .zero) := by
          simp only [Prod.mk.injEq] at ha
          exact ha.1
        have hT := give_val (bb := bb) (bm := bm) (w := W2) Hm2.out.board Hnm.out hb512 ha2
        clear ha ha2
        have HT := Lib.hid hT
        clear hT hp hb512
        go_upto_block 1 with fail
        go_cut [15] from 122 (fun s wx => s = .int .i64 er ∧ Hid (DoMid w wx bb bm w.heap.size w1.heap.size (w1.heap.size + 1) #[.int .i64 kd, .int .i64 tk, .int .u16 st, .string nm, .string ho] b2 y ⟨g0, g1, g2, g3⟩))
        case first =>
          as_aux_lemma =>
          rw [HW2.out]
          have a3 := cell_of_row W2 w.heap.size 3 _ _ _ Hm2.out.act
          have a4 := cell_of_row W2 w.heap.size 4 _ _ _ Hm2.out.act
          go_wp2_with fail
          refine HT.out.mono ?_
          rintro e w3 ⟨rfl, hB3, hF3⟩
          have hm3 : DoMid w w3 bb bm w.heap.size w1.heap.size (w1.heap.size + 1) #[.int .i64 kd, .int .i64 tk, .int .u16 st, .string nm, .string ho] b2 ⟨x0, x1, x2, x3⟩ .zero := Hm2.out.next hB3 hF3
          clear a3 a4
          have a4 := cell_of_row w3 w.heap.size 4 _ _ _ hm3.act
          obtain ⟨c0, c1, c2, c3⟩ := row4_cells hm3.x
          obtain ⟨e0, e1, e2, e3⟩ := row4_cells hm3.g
          have z1 := row_free hm3.x
          have z2 := row_free hm3.g
          have sg := blk e0
          have Hm3 := Lib.hid hm3
          clear hB3 hF3 hm3
          dsimp only at c0 c1 c2 c3 e0 e1 e2 e3
          have hyv : Hid (y = ⟨x0, x1, now, x3⟩) := by rw [← Hy.out]; unfold newOf; rw [if_neg (by omega), if_neg (by omega)]; rfl
          go_wp2_with fail
          go_meet
          exact ⟨rfl, by rw [hyv.out, Hg0.out]; exact Hm3.out.setX 2 _ _ rfl⟩
        case rest =>
          obtain ⟨rfl, hmid⟩ := hcut
          clear Hy HW2 Hsz HT Hm2 Hb2
          have hm := hmid.out
          have hMx := HM.out.fr hm.fr (HM.out.board_ne HB.out).2.1 (fun k hk e => (HM.out.board_ne HB.out).2.2.2 (by rw [hk, show k = bm from e]))
          have HMx := Lib.hid hMx
          have Hmid := Lib.hid hm
          obtain ⟨e0, e1, e2, e3⟩ := row4_cells hm.g
          have sg := blk e0
          have hzq : ∀ w, (binOp .eql 34 (.agg #[.string ⟨#[]⟩, .string ⟨#[]⟩, .int .i64 0, .int .i64 0]) (.agg #[.string ⟨#[]⟩, .string ⟨#[]⟩, .int .i64 0, .int .i64 0])).run Try.prog w = .ok (.bool true) w := fun w => by
            have := eql_lease .zero .zero w
            rw [eqL_self] at this
            exact this
          by_cases hz : wv = 0
          · obtain ⟨her, hb2, hgv⟩ := Hok2.out hz
            subst hz her hb2
            have Hgv := Lib.hid hgv
            clear e0 e1 e2 e3 hmid hMx hgv hzq
            go_upto_region 37 with fail
            obtain ⟨y0, y1, y2, y3⟩ := y
            go_cut [] from 191 (fun wx => Hid (DoMid w wx bb bm w.heap.size w1.heap.size (w1.heap.size + 1) #[.int .i64 kd, .int .i64 tk, .int .u16 st, .string nm, .string ho] (b.putAt nm.data.toList ⟨nm, ho, y2, y3⟩) ⟨nm, ho, y2, y3⟩ ⟨g0, g1, g2, g3⟩))
            case first =>
              as_aux_lemma =>
              have a3 := cell_of_row wc w.heap.size 3 _ _ _ hm.act
              have a4 := cell_of_row wc w.heap.size 4 _ _ _ hm.act
              obtain ⟨c0, c1, c2, c3⟩ := row4_cells hm.x
              have z1 := row_free hm.x
              clear hm
              go_region
              all_goals
                go_wp2_with fail
                go_meet
                first
                | exact (Hmid.out.drew.setX 0 _ ⟨nm, y1, y2, y3⟩ rfl).setX 1 _ _ rfl
                | exact (Hmid.out.drew.setX 1 _ ⟨y0, ho, y2, y3⟩ rfl).setX 0 _ _ rfl
            case rest =>
              clear hm Hmid HMx sg
              have hm := hcut.out
              have hMx := HM.out.fr hm.fr (HM.out.board_ne HB.out).2.1 (fun k hk e => (HM.out.board_ne HB.out).2.2.2 (by rw [hk, show k = bm from e]))
              have HMx := Lib.hid hMx
              have Hmid := Lib.hid hm
              clear hcut
              have hbm : B ≤ bm := HG.out.2.1
              have hmb : B ≤ mb := HG.out.2.2.1
              have hBw : B ≤ w.heap.size := HG.out.2.2.2
              have hne := Lib.hid (HM.out.board_ne HB.out)
              have hl := Hl.out
              go_upto_if 198 with fail
              go_cut [] from 198 (fun wx => Hid (DoEnd w wx bb bm mb B w.heap.size w1.heap.size (w1.heap.size + 1) #[.int .i64 kd, .int .i64 tk, .int .u16 st, .string nm, .string ho] (b.putAt nm.data.toList ⟨nm, ho, y2, y3⟩) ⟨nm, ho, y2, y3⟩ ⟨g0, g1, g2, g3⟩ (mset ls i ⟨nm, ho, y2, y3⟩)))
              case first =>
                as_aux_lemma =>
                have c0 := cell_of_one hMx.blk
                have z0 := free_of_one hMx.blk
                have s0 := blk c0
                obtain ⟨x0', x1', x2', x3'⟩ := row4_cells hm.x
                dsimp only at x0' x1' x2' x3'
                have sx := blk x0'
                rcases Int.lt_or_le i 0 with hi | hi
                · obtain ⟨rfl, -, -⟩ := HF.out.no hi
                  clear hi hm hMx
                  have hms : Hid (mset ls (-1) ⟨nm, ho, y2, y3⟩ = ls ++ [⟨nm, ho, y2, y3⟩]) := by unfold mset; rw [if_pos (by decide)]; rfl
                  go_wp2_with fail
                  have HA1 := Lib.hid ((HMx.out.own.alloc (.cells #[.string nm, .string ho, .int .i64 y2, .int .i64 y3] 34)).drew)
                  have HA2 : Hid (B ≤ (wc.alloc (.cells #[.string nm, .string ho, .int .i64 y2, .int .i64 y3] 34)).drew.heap.size) := by show B ≤ (wc.alloc _).heap.size; rw [World.size_alloc]; omega
                  have HA3 : Hid ((wc.alloc (.cells #[.string nm, .string ho, .int .i64 y2, .int .i64 y3] 34)).drew.heap[wc.heap.size]? = some (.cells #[.string nm, .string ho, .int .i64 y2, .int .i64 y3] 34 (0, 0))) := heap_alloc_new wc _
                  have HA4 : Hid (ls.length + 1 ≤ maxLen) := by show _ ≤ maxLen; unfold maxLen; omega
                  have HA5 : Hid ((ls.length + 1) * 48 ≤ 140737488355328) := by show _ ≤ 140737488355328; omega
                  have HA6 : Hid (∀ w', (wc.alloc (.cells #[.string nm, .string ho, .int .i64 y2, .int .i64 y3] 34)).drew.grownBy w' v.ownBlock → w'.cell? ⟨mb, 0, none⟩ = some v ∧ w'.frozen? ⟨mb, 0, none⟩ = false) := by
                    intro w' hgr
                    have hm' : w'.heap[mb]? = some (.cells #[v] 29 (0, 0)) := (hgr.block mb (by show mb < (wc.alloc _).heap.size; rw [World.size_alloc]; omega) (fun e => HMx.out.ne e.symm)).trans ((Below.heap_alloc wc _ mb s0).trans HMx.out.blk)
                    exact ⟨cell_of_one hm', free_of_one hm'⟩
                  clear hBw hbm hmb hl
                  go_region_law (go_must (refine step_append_new elemLease rfl _ _ rfl B v ls.length (ls.flatMap Lease.cells) rfl HA1.out HA2.out wc.heap.size #[.string nm, .string ho, .int .i64 y2, .int .i64 y3] rfl HA3.out rfl rfl HA4.out HA5.out ?_; intro g' cap' w' hown' hgr hfresh; have c0 := (HA6.out w' hgr).1; have z0 := (HA6.out w' hgr).2; have Hown := Lib.hid hown'; have Hgr := Lib.hid hgr; have Hfresh := Lib.hid hfresh; clear hown' hgr hfresh))
                  all_goals
                    go_wp2_with fail
                    go_meet
                    show Hid _
                    rw [hms.out]
                    exact doEnd_app2 Hmid.out HM.out hne.out HG.out.2.2.2 HG.out.2.1 HG.out.2.2.1 Hown.out Hgr.out Hfresh.out
                · obtain ⟨k, rfl, hk, -, -⟩ := HF.out.yes hi
                  obtain ⟨kx, hke⟩ := List.getElem?_eq_some_iff.1 hk
                  have hms : Hid (mset ls (k : Int) ⟨nm, ho, y2, y3⟩ = ls.set k ⟨nm, ho, y2, y3⟩) := by unfold mset; rw [if_neg (by omega)]; simp [Hid]
                  obtain ⟨gr, cap, rfl, -, -, -, -⟩ := owns_shape hMx.own (by omega)
                  obtain ⟨hBg, hnc, hcm, rest, hrow, hrl⟩ := owns_row hMx.own
                  obtain ⟨n, hn⟩ : ∃ n, ls.length = n := ⟨_, rfl⟩
                  have Hend := fun w4 hb4 => doEnd_set (w4 := w4) Hmid.out HM.out hne.out hBw hbm hmb hb4 kx hrow hBg hnc hcm hrl
                  have HEnd := Lib.hid Hend
                  have Hrow := Lib.hid hrow
                  have Hrl := Lib.hid hrl
                  have hrl4 := flat_len4 ls
                  rw [List.length_append, hrl4, hn] at hrl
                  rw [hn] at c0 kx hnc
                  have hkn : k < n := kx
                  have hcap : cap ≤ 9223372036854775807 := hcm
                  clear hm hMx hrow hi hk hke Hend hrl4 kx
                  go_upto_region 40 with fail
                  replace c0 := BW.cell c0
                  replace x0' := BW.cell x0'
                  replace x1' := BW.cell x1'
                  replace x2' := BW.cell x2'
                  replace x3' := BW.cell x3'
                  refine wp_region_head_lit 7 (fun w' => ∃ p : BW wc, w' = p.w') (by kernel_rfl) (by kernel_rfl) ⟨⟨{ wc with drawn := wc.drawn + 1 }, ⟨rfl, rfl, rfl, Nat.le_refl _, fun _ _ => rfl⟩⟩, rfl⟩ ?_
                  simp only [List.take_succ_cons, List.take_zero, List.drop_succ_cons, List.drop_zero]
                  repeat (quiet_step (exact rfl))
                  refine wpQuiet_nil ?_
                  intro w4 hw'
                  obtain ⟨⟨_, hb4⟩, e4⟩ := hw'
                  dsimp only at e4
                  subst e4
                  refine wpList_store_row aggLease rfl _ _ rfl rfl gr (k * 4) _ #[.string nm, .string ho, .int .i64 y2, .int .i64 y3] rfl rfl (by rw [hb4.block gr (Array.getElem?_eq_some_iff.1 Hrow.out).1]; exact Hrow.out) rfl (by rw [List.size_toArray, Hrl.out]; omega) rfl ?_
                  go_wp2_with fail
                  go_meet
                  show Hid _
                  rw [hms.out]
                  have hq := HEnd.out w4 hb4
                  rw [List.append_assoc] at hq
                  exact hq
              case rest =>
                have hE := hcut.out
                obtain ⟨e0, e1, e2, e3⟩ := row4_cells hE.g
                obtain ⟨f0, f1, f2, f3⟩ := row4_cells hE.x
                dsimp only at f0 f1 f2 f3 e0 e1 e2 e3
                have a0 := cell_of_row wc w.heap.size 0 _ _ _ hE.act
                have HDone : Hid (∃ b' ls' v', BoardAt wc bb bm b' ∧ ModAt wc mb B v' ls' ∧ Sync ls' b' ∧ ls'.length ≤ ls.length + 1 ∧ (∀ x ∈ ls', x ∈ ls ∨ (nameOf x.holder.data.toList = true ∧ nameOf x.name.data.toList = true)) ∧ Below B w wc) := by
                  obtain ⟨v', hv'⟩ := hE.mod
                  refine ⟨_, _, v', hE.board, hv', HS.out.act HF.out rfl, ?_, act_named Hwv.out rfl rfl, hE.below⟩
                  unfold mset
                  split
                  · simp
                  · simp
                clear hcut hE hm hMx hl
                go_wp2_with fail
                go_ret
                exact ⟨rfl, HDone.out⟩
          · obtain ⟨her, hgz, hb2⟩ := Hok1.out hz
            subst her hb2
            unfold Lease.zero at hgz
            simp only [Lease.mk.injEq] at hgz
            obtain ⟨rfl, rfl, rfl, rfl⟩ := hgz
            have hwq : (er != 0) = true := by simpa using hz
            clear hz hm hmid hMx
            go_wp2_with fail
            go_ret
            exact ⟨rfl, _, ls, v, Hmid.out.board, HMx.out, HS.out, by omega, fun x hx => .inl hx, Hmid.out.fr.below HG.out.2.2.2 (fun k e => by have := HG.out.2.1; have : k = bm := e; omega)⟩
end Go.Proofs.Ytcgfjbbdadjegaa
