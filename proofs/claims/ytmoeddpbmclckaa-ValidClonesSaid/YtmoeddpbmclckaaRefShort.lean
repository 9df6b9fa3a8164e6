/- The contracts of the reference's shortLabels, shortAsks, Short. Condition: the slices read. -/
import Derived.Test.YtmoeddpbmclckaaRefRows
import Derived.Test.YtmoeddpbmclckaaCheckSpecM
import Derived.Test.YtmoeddpbmclckaaFive
import Derived.Laws.Rows
namespace Go.Proofs.Ytmoeddpbmclckaa
open Go.ChangeShapes Go.WideShapes Go.ChangeAt Go.RowKit Go.Deep

def longL (x : Label) : Bool := (decide (255 < (x.key.size : Int))) || (decide (255 < (x.val.size : Int)))
def longA (x : Require) : Bool := (decide (255 < (x.key.size : Int))) || (decide (255 < (x.val.size : Int)))
def longM (x : Metric) : Bool := decide (255 < (x.name.size : Int))
def shortL (xs : List Label) : Bool := xs.all (fun x => !(longL x)) && decide ((xs.length : Int) ≤ 255)
def shortA (xs : List Require) : Bool := xs.all (fun x => !(longA x)) && decide ((xs.length : Int) ≤ 255)
theorem drop_all {α : Type} {p : α → Bool} {xs : List α} {k : Nat} (h : k < xs.length) : (xs.drop k).all p = (p xs[k] && (xs.drop (k + 1)).all p) := by
  rw [List.drop_eq_getElem_cons h, List.all_cons]
def shortK (kd : Int) (o : ShapesV) : Bool :=
  if kd = 0 then ((shortL o.w.L.xs) && (shortA o.w.S.xs)) && (shortL o.w.T.xs) else if kd = 1 then ((((decide ((o.p.owner.size : Int) ≤ 255)) && (decide ((o.p.node.size : Int) ≤ 255))) && (shortL o.p.L.xs)) && (shortA o.p.S.xs)) && (shortL o.p.T.xs) else if kd = 2 then ((decide ((o.n.group.size : Int) ≤ 255)) && (shortL o.n.L.xs)) && (shortL o.n.T.xs) else if kd = 3 then (shortL o.g.L.xs) && (shortL o.g.T.xs) else
    o.h.M.xs.all (fun x => !(longM x)) && (((((decide ((o.h.target.size : Int) ≤ 255)) && (decide ((o.h.M.la : Int) ≤ 255))) && (decide ((o.h.past.la : Int) ≤ 255))) && (decide ((o.h.up.P.la : Int) ≤ 255))) && (decide ((o.h.down.P.la : Int) ≤ 255)))
def shortO (kd : Int) (nm : ByteArray) (o : ShapesV) : Bool := !(decide (255 < (nm.size : Int))) && shortK kd o

set_option maxRecDepth 100000 in
set_option maxHeartbeats 1600000 in
theorem shortL_any (xs : List Label) (ao : Option Addr) (la ca : Nat) (w : World) (hS : SlR (Flat Label.cells) 2 w ao la ca xs) :
    Calls Try.prog 30 #[.slice ao la ca] w fun e w' => e = .returned (.bool (shortL xs)) ∧ Below w.heap.size w w' := by
  have hac := hS.hcap; have ha := hS.hmax
  unfold maxLen at ha
  have G := Lib.hid hS
  have LX := Lib.hid hS.hlen
  have HT : Hid (shortL xs = ((xs.drop 0).all (fun x => !(longL x)) && decide ((la : Int) ≤ 255))) := by
    show _ = _
    rw [← LX.out]
    rfl
  clear hS
  obtain ⟨TOT, hTOT⟩ : ∃ t, shortL xs = t := ⟨_, rfl⟩
  rw [hTOT] at HT ⊢
  clear hTOT
  go_enter Try.func30, Try.ntmps30
  go_upto_region 2 with fail
  go_loopw [7] (fun vi wr => ∃ (k : Nat), k ≤ la ∧ vi = .int .i64 k ∧ Hid (TOT = ((xs.drop k).all (fun x => !(longL x)) && decide ((la : Int) ≤ 255))) ∧ Hid (Below w.heap.size w wr)) (fun vi _ => la - (intOf vi).toNat)
  case atStart => exact ⟨0, Nat.zero_le _, rfl, HT.out, Below.refl _ _⟩
  case round =>
    obtain ⟨k, hk, rfl, HP, HB⟩ := hrel
    obtain ⟨wq, rfl⟩ : ∃ wq : World, wq = wr := ⟨_, rfl⟩
    by_cases hlt : k < la
    · obtain ⟨b, off, rfl⟩ := G.out.ptr (by decide) (by omega)
      have kx : k < xs.length := by rw [LX.out]; exact hlt
      have hc := (G.out.flatKeeps (Keeps.below HB.out)).flat kx
      have c0 := hc 0 _ rfl
      have c1 := hc 1 _ rfl
      rw [Nat.add_zero] at c0
      have HN : Hid (TOT = ((!(longL xs[k]) && (xs.drop (k + 1)).all (fun x => !(longL x))) && decide ((la : Int) ≤ 255))) := by
        show _ = _
        rw [HP.out, drop_all kx]
      obtain ⟨y, hy⟩ : ∃ y, xs[k] = y := ⟨_, rfl⟩
      rw [hy] at c0 c1 HN
      clear hy hc HP kx
      obtain ⟨xk, xv⟩ := y
      dsimp only at c0 c1
      go_upto_region 4 with fail
      have hbn : Below wq.heap.size wq (wq.alloc (.cells #[.string xk, .string xv] 54)) := (Below.refl wq.heap.size wq).alloc (Nat.le_refl _) _
      have RN : Hid (RowAt (wq.alloc (.cells #[.string xk, .string xv] 54)) wq.heap.size [.string xk, .string xv]) := RowAt.of_heap (t := 54) (fr := (0, 0)) (by rw [heap_alloc_new])
      generalize wq.alloc (.cells #[.string xk, .string xv] 54) = wn at hbn RN ⊢
      replace HB := Lib.hid (HB.out.trans (Below.mono hbn HB.out.size))
      obtain ⟨bn, hbn2⟩ : ∃ n, wq.heap.size = n := ⟨_, rfl⟩
      rw [hbn2] at RN ⊢
      clear hbn hbn2 c0 c1
      have hBlk : BlkOk (fun k => (bn, 0)) wn [(0, [.string xk, .string xv])] := (blk_cons (k := 0) RN.out.from_ blk_nil)
      refine region_chain (N := 25) (Kept wn) (fun k => (bn, 0)) ⟨objSta, [(0, [.string xk, .string xv])], [], []⟩ 10 (Kept.refl wn) (tab_ok objSta_ok hBlk)
        [(5, .val (.slice (some ⟨b, off, none⟩) la ca)), (6, .val (.int .i64 (la : Int))), (7, .val (.int .i64 (k : Int))), (4, .ptr 0 0)] [(5, .val (.slice (some ⟨b, off, none⟩) la ca)), (6, .val (.int .i64 (la : Int))), (7, .val (.int .i64 (k : Int))), (20, .val (.bool ((decide (255 < (xk.size : Int))) || (decide (255 < (xv.size : Int))))))] [] rfl (by as_aux_lemma => kernel_rfl) (by as_aux_lemma => kernel_rfl) ?_ (some [2, 4, 8, 9, 10, 11, 12, 13, 14, 15, 16, 17, 18, 19, 20, 21]) (by as_aux_lemma => kernel_rfl) (fun f6 => [.slice (some ⟨b, off, none⟩) la ca, undef, f6 2, undef, f6 4, .slice (some ⟨b, off, none⟩) la ca, .int .i64 (la : Int), .int .i64 (k : Int), f6 8, f6 9, f6 10, f6 11, f6 12, f6 13, f6 14, f6 15, f6 16, f6 17, f6 18, f6 19, .bool ((decide (255 < (xk.size : Int))) || (decide (255 < (xv.size : Int)))), f6 21, undef, undef, undef]) (fun f6 => by as_aux_lemma => kernel_rfl) ?_
      · clear hBlk
        exact ob_nil
      intro f6 wm hbm
      clear hBlk
      simp only [List.drop_succ_cons, List.drop_zero]
      replace HB := Lib.hid (HB.out.trans (Below.mono hbm HB.out.size))
      clear hbm RN
      obtain ⟨c, hcc⟩ : ∃ c : Bool, longL ⟨xk, xv⟩ = c := ⟨_, rfl⟩
      rw [hcc] at HN
      unfold longL at hcc
      dsimp only at hcc
      rw [hcc]
      clear hcc
      cases c with
      | true =>
        go_wp2_with fail
        go_ret
        exact ⟨by rw [HN.out]; rfl, HB.out⟩
      | false =>
        go_wp2_with fail
        go_roundw
        case rel => exact ⟨k + 1, by omega, by go_num, (show _ = _ by rw [HN.out]; rfl), HB.out⟩
        case measure => simp [intOf]; omega
    · obtain rfl : k = la := by omega
      have HE : Hid (TOT = decide ((k : Int) ≤ 255)) := by
        show _ = _
        rw [HP.out, List.drop_of_length_le (Nat.le_of_eq LX.out)]
        rfl
      clear HP
      go_wp2_with fail
      go_ret
      exact ⟨by rw [HE.out]; rfl, HB.out⟩

set_option maxRecDepth 100000 in
set_option maxHeartbeats 1600000 in
theorem shortA_any (xs : List Require) (ao : Option Addr) (la ca : Nat) (w : World) (hS : SlR (Flat Require.cells) 3 w ao la ca xs) :
    Calls Try.prog 31 #[.slice ao la ca] w fun e w' => e = .returned (.bool (shortA xs)) ∧ Below w.heap.size w w' := by
  have hac := hS.hcap; have ha := hS.hmax
  unfold maxLen at ha
  have G := Lib.hid hS
  have LX := Lib.hid hS.hlen
  have HT : Hid (shortA xs = ((xs.drop 0).all (fun x => !(longA x)) && decide ((la : Int) ≤ 255))) := by
    show _ = _
    rw [← LX.out]
    rfl
  clear hS
  obtain ⟨TOT, hTOT⟩ : ∃ t, shortA xs = t := ⟨_, rfl⟩
  rw [hTOT] at HT ⊢
  clear hTOT
  go_enter Try.func31, Try.ntmps31
  go_upto_region 2 with fail
  go_loopw [7] (fun vi wr => ∃ (k : Nat), k ≤ la ∧ vi = .int .i64 k ∧ Hid (TOT = ((xs.drop k).all (fun x => !(longA x)) && decide ((la : Int) ≤ 255))) ∧ Hid (Below w.heap.size w wr)) (fun vi _ => la - (intOf vi).toNat)
  case atStart => exact ⟨0, Nat.zero_le _, rfl, HT.out, Below.refl _ _⟩
  case round =>
    obtain ⟨k, hk, rfl, HP, HB⟩ := hrel
    obtain ⟨wq, rfl⟩ : ∃ wq : World, wq = wr := ⟨_, rfl⟩
    by_cases hlt : k < la
    · obtain ⟨b, off, rfl⟩ := G.out.ptr (by decide) (by omega)
      have kx : k < xs.length := by rw [LX.out]; exact hlt
      have hc := (G.out.flatKeeps (Keeps.below HB.out)).flat kx
      have c0 := hc 0 _ rfl
      have c1 := hc 1 _ rfl
      have c2 := hc 2 _ rfl
      rw [Nat.add_zero] at c0
      have HN : Hid (TOT = ((!(longA xs[k]) && (xs.drop (k + 1)).all (fun x => !(longA x))) && decide ((la : Int) ≤ 255))) := by
        show _ = _
        rw [HP.out, drop_all kx]
      obtain ⟨y, hy⟩ : ∃ y, xs[k] = y := ⟨_, rfl⟩
      rw [hy] at c0 c1 c2 HN
      clear hy hc HP kx
      obtain ⟨xk, xv, xo⟩ := y
      dsimp only at c0 c1 c2
      go_upto_region 4 with fail
      have hbn : Below wq.heap.size wq (wq.alloc (.cells #[.string xk, .string xv, .int .i64 xo] 57)) := (Below.refl wq.heap.size wq).alloc (Nat.le_refl _) _
      have RN : Hid (RowAt (wq.alloc (.cells #[.string xk, .string xv, .int .i64 xo] 57)) wq.heap.size [.string xk, .string xv, .int .i64 xo]) := RowAt.of_heap (t := 57) (fr := (0, 0)) (by rw [heap_alloc_new])
      generalize wq.alloc (.cells #[.string xk, .string xv, .int .i64 xo] 57) = wn at hbn RN ⊢
      replace HB := Lib.hid (HB.out.trans (Below.mono hbn HB.out.size))
      obtain ⟨bn, hbn2⟩ : ∃ n, wq.heap.size = n := ⟨_, rfl⟩
      rw [hbn2] at RN ⊢
      clear hbn hbn2 c0 c1 c2
      have hBlk : BlkOk (fun k => (bn, 0)) wn [(0, [.string xk, .string xv, .int .i64 xo])] := (blk_cons (k := 0) RN.out.from_ blk_nil)
      refine region_chain (N := 25) (Kept wn) (fun k => (bn, 0)) ⟨objSta, [(0, [.string xk, .string xv, .int .i64 xo])], [], []⟩ 10 (Kept.refl wn) (tab_ok objSta_ok hBlk)
        [(5, .val (.slice (some ⟨b, off, none⟩) la ca)), (6, .val (.int .i64 (la : Int))), (7, .val (.int .i64 (k : Int))), (4, .ptr 0 0)] [(5, .val (.slice (some ⟨b, off, none⟩) la ca)), (6, .val (.int .i64 (la : Int))), (7, .val (.int .i64 (k : Int))), (20, .val (.bool ((decide (255 < (xk.size : Int))) || (decide (255 < (xv.size : Int))))))] [] rfl (by as_aux_lemma => kernel_rfl) (by as_aux_lemma => kernel_rfl) ?_ (some [2, 4, 8, 9, 10, 11, 12, 13, 14, 15, 16, 17, 18, 19, 20, 21]) (by as_aux_lemma => kernel_rfl) (fun f6 => [.slice (some ⟨b, off, none⟩) la ca, undef, f6 2, undef, f6 4, .slice (some ⟨b, off, none⟩) la ca, .int .i64 (la : Int), .int .i64 (k : Int), f6 8, f6 9, f6 10, f6 11, f6 12, f6 13, f6 14, f6 15, f6 16, f6 17, f6 18, f6 19, .bool ((decide (255 < (xk.size : Int))) || (decide (255 < (xv.size : Int)))), f6 21, undef, undef, undef]) (fun f6 => by as_aux_lemma => kernel_rfl) ?_
      · clear hBlk
        exact ob_nil
      intro f6 wm hbm
      clear hBlk
      simp only [List.drop_succ_cons, List.drop_zero]
      replace HB := Lib.hid (HB.out.trans (Below.mono hbm HB.out.size))
      clear hbm RN
      obtain ⟨c, hcc⟩ : ∃ c : Bool, longA ⟨xk, xv, xo⟩ = c := ⟨_, rfl⟩
      rw [hcc] at HN
      unfold longA at hcc
      dsimp only at hcc
      rw [hcc]
      clear hcc
      cases c with
      | true =>
        go_wp2_with fail
        go_ret
        exact ⟨by rw [HN.out]; rfl, HB.out⟩
      | false =>
        go_wp2_with fail
        go_roundw
        case rel => exact ⟨k + 1, by omega, by go_num, (show _ = _ by rw [HN.out]; rfl), HB.out⟩
        case measure => simp [intOf]; omega
    · obtain rfl : k = la := by omega
      have HE : Hid (TOT = decide ((k : Int) ≤ 255)) := by
        show _ = _
        rw [HP.out, List.drop_of_length_le (Nat.le_of_eq LX.out)]
        rfl
      clear HP
      go_wp2_with fail
      go_ret
      exact ⟨by rw [HE.out]; rfl, HB.out⟩

set_option maxRecDepth 100000 in
set_option maxHeartbeats 12800000 in
theorem short_w (nm : ByteArray) (ver : Int) (o : ShapesV) (w : World) (h : ShapesAt w o) :
    Calls Try.prog 10 #[.agg #[.int .i64 0, .string nm, .int .u64 ver, .int .i64 o.w.rep, .int .i64 o.w.cpu, .int .i64 o.w.mem, .slice o.w.L.ao o.w.L.la o.w.L.ca, .slice o.w.S.ao o.w.S.la o.w.S.ca, .slice o.w.T.ao o.w.T.la o.w.T.ca, .int .i64 o.w.warm, .string o.p.owner, .string o.p.node, .int .i64 o.p.phase, .int .i64 o.p.since, .int .i64 o.p.cpu, .int .i64 o.p.mem, .slice o.p.L.ao o.p.L.la o.p.L.ca, .slice o.p.S.ao o.p.S.la o.p.S.ca, .slice o.p.T.ao o.p.T.la o.p.T.ca, .int .i64 o.p.warm, .string o.n.group, .int .i64 o.n.cpu, .int .i64 o.n.mem, .slice o.n.L.ao o.n.L.la o.n.L.ca, .slice o.n.T.ao o.n.T.la o.n.T.ca, .int .i64 o.n.since, .bool o.n.closed, .int .i64 o.g.min, .int .i64 o.g.max, .int .i64 o.g.target, .int .i64 o.g.cpu, .int .i64 o.g.mem, .slice o.g.L.ao o.g.L.la o.g.L.ca, .slice o.g.T.ao o.g.T.la o.g.T.ca, .int .i64 o.g.prio, .string o.h.target, .int .i64 o.h.min, .int .i64 o.h.max, .slice o.h.M.ao o.h.M.la o.h.M.ca, .int .i64 o.h.tol, .int .i64 o.h.up.win, .int .i64 o.h.up.pick, .slice o.h.up.P.ao o.h.up.P.la o.h.up.P.ca, .int .i64 o.h.down.win, .int .i64 o.h.down.pick, .slice o.h.down.P.ao o.h.down.P.la o.h.down.P.ca, .slice o.h.past.ao o.h.past.la o.h.past.ca]] w fun e w' => e = .returned (.bool (shortO 0 nm o)) ∧ Below w.heap.size w w' := by
  have HE : Hid (shortO 0 nm o = (!(decide (255 < (nm.size : Int))) && (((shortL o.w.L.xs) && (shortA o.w.S.xs)) && (shortL o.w.T.xs)))) := rfl
  obtain ⟨TOT, hTOT⟩ : ∃ t, shortO 0 nm o = t := ⟨_, rfl⟩
  rw [hTOT] at HE ⊢
  clear hTOT
  go_enter Try.func10, Try.ntmps10
  go_upto_region 1 with fail
  have hb0 : Below w.heap.size w (w.alloc (.cells #[.int .i64 0, .string nm, .int .u64 ver, .int .i64 o.w.rep, .int .i64 o.w.cpu, .int .i64 o.w.mem, .slice o.w.L.ao o.w.L.la o.w.L.ca, .slice o.w.S.ao o.w.S.la o.w.S.ca, .slice o.w.T.ao o.w.T.la o.w.T.ca, .int .i64 o.w.warm, .string o.p.owner, .string o.p.node, .int .i64 o.p.phase, .int .i64 o.p.since, .int .i64 o.p.cpu, .int .i64 o.p.mem, .slice o.p.L.ao o.p.L.la o.p.L.ca, .slice o.p.S.ao o.p.S.la o.p.S.ca, .slice o.p.T.ao o.p.T.la o.p.T.ca, .int .i64 o.p.warm, .string o.n.group, .int .i64 o.n.cpu, .int .i64 o.n.mem, .slice o.n.L.ao o.n.L.la o.n.L.ca, .slice o.n.T.ao o.n.T.la o.n.T.ca, .int .i64 o.n.since, .bool o.n.closed, .int .i64 o.g.min, .int .i64 o.g.max, .int .i64 o.g.target, .int .i64 o.g.cpu, .int .i64 o.g.mem, .slice o.g.L.ao o.g.L.la o.g.L.ca, .slice o.g.T.ao o.g.T.la o.g.T.ca, .int .i64 o.g.prio, .string o.h.target, .int .i64 o.h.min, .int .i64 o.h.max, .slice o.h.M.ao o.h.M.la o.h.M.ca, .int .i64 o.h.tol, .int .i64 o.h.up.win, .int .i64 o.h.up.pick, .slice o.h.up.P.ao o.h.up.P.la o.h.up.P.ca, .int .i64 o.h.down.win, .int .i64 o.h.down.pick, .slice o.h.down.P.ao o.h.down.P.la o.h.down.P.ca, .slice o.h.past.ao o.h.past.la o.h.past.ca] 44)) := (Below.refl w.heap.size w).alloc (Nat.le_refl _) _
  have R : Hid (RowAt (w.alloc (.cells #[.int .i64 0, .string nm, .int .u64 ver, .int .i64 o.w.rep, .int .i64 o.w.cpu, .int .i64 o.w.mem, .slice o.w.L.ao o.w.L.la o.w.L.ca, .slice o.w.S.ao o.w.S.la o.w.S.ca, .slice o.w.T.ao o.w.T.la o.w.T.ca, .int .i64 o.w.warm, .string o.p.owner, .string o.p.node, .int .i64 o.p.phase, .int .i64 o.p.since, .int .i64 o.p.cpu, .int .i64 o.p.mem, .slice o.p.L.ao o.p.L.la o.p.L.ca, .slice o.p.S.ao o.p.S.la o.p.S.ca, .slice o.p.T.ao o.p.T.la o.p.T.ca, .int .i64 o.p.warm, .string o.n.group, .int .i64 o.n.cpu, .int .i64 o.n.mem, .slice o.n.L.ao o.n.L.la o.n.L.ca, .slice o.n.T.ao o.n.T.la o.n.T.ca, .int .i64 o.n.since, .bool o.n.closed, .int .i64 o.g.min, .int .i64 o.g.max, .int .i64 o.g.target, .int .i64 o.g.cpu, .int .i64 o.g.mem, .slice o.g.L.ao o.g.L.la o.g.L.ca, .slice o.g.T.ao o.g.T.la o.g.T.ca, .int .i64 o.g.prio, .string o.h.target, .int .i64 o.h.min, .int .i64 o.h.max, .slice o.h.M.ao o.h.M.la o.h.M.ca, .int .i64 o.h.tol, .int .i64 o.h.up.win, .int .i64 o.h.up.pick, .slice o.h.up.P.ao o.h.up.P.la o.h.up.P.ca, .int .i64 o.h.down.win, .int .i64 o.h.down.pick, .slice o.h.down.P.ao o.h.down.P.la o.h.down.P.ca, .slice o.h.past.ao o.h.past.la o.h.past.ca] 44)) w.heap.size [.int .i64 0, .string nm, .int .u64 ver, .int .i64 o.w.rep, .int .i64 o.w.cpu, .int .i64 o.w.mem, .slice o.w.L.ao o.w.L.la o.w.L.ca, .slice o.w.S.ao o.w.S.la o.w.S.ca, .slice o.w.T.ao o.w.T.la o.w.T.ca, .int .i64 o.w.warm, .string o.p.owner, .string o.p.node, .int .i64 o.p.phase, .int .i64 o.p.since, .int .i64 o.p.cpu, .int .i64 o.p.mem, .slice o.p.L.ao o.p.L.la o.p.L.ca, .slice o.p.S.ao o.p.S.la o.p.S.ca, .slice o.p.T.ao o.p.T.la o.p.T.ca, .int .i64 o.p.warm, .string o.n.group, .int .i64 o.n.cpu, .int .i64 o.n.mem, .slice o.n.L.ao o.n.L.la o.n.L.ca, .slice o.n.T.ao o.n.T.la o.n.T.ca, .int .i64 o.n.since, .bool o.n.closed, .int .i64 o.g.min, .int .i64 o.g.max, .int .i64 o.g.target, .int .i64 o.g.cpu, .int .i64 o.g.mem, .slice o.g.L.ao o.g.L.la o.g.L.ca, .slice o.g.T.ao o.g.T.la o.g.T.ca, .int .i64 o.g.prio, .string o.h.target, .int .i64 o.h.min, .int .i64 o.h.max, .slice o.h.M.ao o.h.M.la o.h.M.ca, .int .i64 o.h.tol, .int .i64 o.h.up.win, .int .i64 o.h.up.pick, .slice o.h.up.P.ao o.h.up.P.la o.h.up.P.ca, .int .i64 o.h.down.win, .int .i64 o.h.down.pick, .slice o.h.down.P.ao o.h.down.P.la o.h.down.P.ca, .slice o.h.past.ao o.h.past.la o.h.past.ca]) := RowAt.of_heap (t := 44) (fr := (0, 0)) (by rw [heap_alloc_new])
  have kk : (w.alloc (.cells #[.int .i64 0, .string nm, .int .u64 ver, .int .i64 o.w.rep, .int .i64 o.w.cpu, .int .i64 o.w.mem, .slice o.w.L.ao o.w.L.la o.w.L.ca, .slice o.w.S.ao o.w.S.la o.w.S.ca, .slice o.w.T.ao o.w.T.la o.w.T.ca, .int .i64 o.w.warm, .string o.p.owner, .string o.p.node, .int .i64 o.p.phase, .int .i64 o.p.since, .int .i64 o.p.cpu, .int .i64 o.p.mem, .slice o.p.L.ao o.p.L.la o.p.L.ca, .slice o.p.S.ao o.p.S.la o.p.S.ca, .slice o.p.T.ao o.p.T.la o.p.T.ca, .int .i64 o.p.warm, .string o.n.group, .int .i64 o.n.cpu, .int .i64 o.n.mem, .slice o.n.L.ao o.n.L.la o.n.L.ca, .slice o.n.T.ao o.n.T.la o.n.T.ca, .int .i64 o.n.since, .bool o.n.closed, .int .i64 o.g.min, .int .i64 o.g.max, .int .i64 o.g.target, .int .i64 o.g.cpu, .int .i64 o.g.mem, .slice o.g.L.ao o.g.L.la o.g.L.ca, .slice o.g.T.ao o.g.T.la o.g.T.ca, .int .i64 o.g.prio, .string o.h.target, .int .i64 o.h.min, .int .i64 o.h.max, .slice o.h.M.ao o.h.M.la o.h.M.ca, .int .i64 o.h.tol, .int .i64 o.h.up.win, .int .i64 o.h.up.pick, .slice o.h.up.P.ao o.h.up.P.la o.h.up.P.ca, .int .i64 o.h.down.win, .int .i64 o.h.down.pick, .slice o.h.down.P.ao o.h.down.P.la o.h.down.P.ca, .slice o.h.past.ao o.h.past.la o.h.past.ca] 44)).cell? ⟨w.heap.size, 0, none⟩ = some (.int .i64 0) := R.out 0 _ rfl
  generalize w.alloc (.cells #[.int .i64 0, .string nm, .int .u64 ver, .int .i64 o.w.rep, .int .i64 o.w.cpu, .int .i64 o.w.mem, .slice o.w.L.ao o.w.L.la o.w.L.ca, .slice o.w.S.ao o.w.S.la o.w.S.ca, .slice o.w.T.ao o.w.T.la o.w.T.ca, .int .i64 o.w.warm, .string o.p.owner, .string o.p.node, .int .i64 o.p.phase, .int .i64 o.p.since, .int .i64 o.p.cpu, .int .i64 o.p.mem, .slice o.p.L.ao o.p.L.la o.p.L.ca, .slice o.p.S.ao o.p.S.la o.p.S.ca, .slice o.p.T.ao o.p.T.la o.p.T.ca, .int .i64 o.p.warm, .string o.n.group, .int .i64 o.n.cpu, .int .i64 o.n.mem, .slice o.n.L.ao o.n.L.la o.n.L.ca, .slice o.n.T.ao o.n.T.la o.n.T.ca, .int .i64 o.n.since, .bool o.n.closed, .int .i64 o.g.min, .int .i64 o.g.max, .int .i64 o.g.target, .int .i64 o.g.cpu, .int .i64 o.g.mem, .slice o.g.L.ao o.g.L.la o.g.L.ca, .slice o.g.T.ao o.g.T.la o.g.T.ca, .int .i64 o.g.prio, .string o.h.target, .int .i64 o.h.min, .int .i64 o.h.max, .slice o.h.M.ao o.h.M.la o.h.M.ca, .int .i64 o.h.tol, .int .i64 o.h.up.win, .int .i64 o.h.up.pick, .slice o.h.up.P.ao o.h.up.P.la o.h.up.P.ca, .int .i64 o.h.down.win, .int .i64 o.h.down.pick, .slice o.h.down.P.ao o.h.down.P.la o.h.down.P.ca, .slice o.h.past.ao o.h.past.la o.h.past.ca] 44) = w1 at hb0 R kk ⊢
  generalize Value.agg #[.int .i64 0, .string nm, .int .u64 ver, .int .i64 o.w.rep, .int .i64 o.w.cpu, .int .i64 o.w.mem, .slice o.w.L.ao o.w.L.la o.w.L.ca, .slice o.w.S.ao o.w.S.la o.w.S.ca, .slice o.w.T.ao o.w.T.la o.w.T.ca, .int .i64 o.w.warm, .string o.p.owner, .string o.p.node, .int .i64 o.p.phase, .int .i64 o.p.since, .int .i64 o.p.cpu, .int .i64 o.p.mem, .slice o.p.L.ao o.p.L.la o.p.L.ca, .slice o.p.S.ao o.p.S.la o.p.S.ca, .slice o.p.T.ao o.p.T.la o.p.T.ca, .int .i64 o.p.warm, .string o.n.group, .int .i64 o.n.cpu, .int .i64 o.n.mem, .slice o.n.L.ao o.n.L.la o.n.L.ca, .slice o.n.T.ao o.n.T.la o.n.T.ca, .int .i64 o.n.since, .bool o.n.closed, .int .i64 o.g.min, .int .i64 o.g.max, .int .i64 o.g.target, .int .i64 o.g.cpu, .int .i64 o.g.mem, .slice o.g.L.ao o.g.L.la o.g.L.ca, .slice o.g.T.ao o.g.T.la o.g.T.ca, .int .i64 o.g.prio, .string o.h.target, .int .i64 o.h.min, .int .i64 o.h.max, .slice o.h.M.ao o.h.M.la o.h.M.ca, .int .i64 o.h.tol, .int .i64 o.h.up.win, .int .i64 o.h.up.pick, .slice o.h.up.P.ao o.h.up.P.la o.h.up.P.ca, .int .i64 o.h.down.win, .int .i64 o.h.down.pick, .slice o.h.down.P.ao o.h.down.P.la o.h.down.P.ca, .slice o.h.past.ao o.h.past.la o.h.past.ca] = v0
  have HS := Lib.hid (h.b hb0)
  have Hb := Lib.hid hb0
  obtain ⟨bo, hbo⟩ : ∃ n, w.heap.size = n := ⟨_, rfl⟩
  rw [hbo] at R kk ⊢
  clear h hb0 hbo
  have K0 := Lib.hid kk
  clear kk
  have hBlk : BlkOk (fun k => (bo, 0)) w1 [(0, [.int .i64 0, .string nm, .int .u64 ver, .int .i64 o.w.rep, .int .i64 o.w.cpu, .int .i64 o.w.mem, .slice o.w.L.ao o.w.L.la o.w.L.ca, .slice o.w.S.ao o.w.S.la o.w.S.ca, .slice o.w.T.ao o.w.T.la o.w.T.ca, .int .i64 o.w.warm, .string o.p.owner, .string o.p.node, .int .i64 o.p.phase, .int .i64 o.p.since, .int .i64 o.p.cpu, .int .i64 o.p.mem, .slice o.p.L.ao o.p.L.la o.p.L.ca, .slice o.p.S.ao o.p.S.la o.p.S.ca, .slice o.p.T.ao o.p.T.la o.p.T.ca, .int .i64 o.p.warm, .string o.n.group, .int .i64 o.n.cpu, .int .i64 o.n.mem, .slice o.n.L.ao o.n.L.la o.n.L.ca, .slice o.n.T.ao o.n.T.la o.n.T.ca, .int .i64 o.n.since, .bool o.n.closed, .int .i64 o.g.min, .int .i64 o.g.max, .int .i64 o.g.target, .int .i64 o.g.cpu, .int .i64 o.g.mem, .slice o.g.L.ao o.g.L.la o.g.L.ca, .slice o.g.T.ao o.g.T.la o.g.T.ca, .int .i64 o.g.prio, .string o.h.target, .int .i64 o.h.min, .int .i64 o.h.max, .slice o.h.M.ao o.h.M.la o.h.M.ca, .int .i64 o.h.tol, .int .i64 o.h.up.win, .int .i64 o.h.up.pick, .slice o.h.up.P.ao o.h.up.P.la o.h.up.P.ca, .int .i64 o.h.down.win, .int .i64 o.h.down.pick, .slice o.h.down.P.ao o.h.down.P.la o.h.down.P.ca, .slice o.h.past.ao o.h.past.la o.h.past.ca])] := (blk_cons (k := 0) R.out.from_ blk_nil)
  refine region_chain (N := 140) (Kept w1) (fun k => (bo, 0)) ⟨objSta, [(0, [.int .i64 0, .string nm, .int .u64 ver, .int .i64 o.w.rep, .int .i64 o.w.cpu, .int .i64 o.w.mem, .slice o.w.L.ao o.w.L.la o.w.L.ca, .slice o.w.S.ao o.w.S.la o.w.S.ca, .slice o.w.T.ao o.w.T.la o.w.T.ca, .int .i64 o.w.warm, .string o.p.owner, .string o.p.node, .int .i64 o.p.phase, .int .i64 o.p.since, .int .i64 o.p.cpu, .int .i64 o.p.mem, .slice o.p.L.ao o.p.L.la o.p.L.ca, .slice o.p.S.ao o.p.S.la o.p.S.ca, .slice o.p.T.ao o.p.T.la o.p.T.ca, .int .i64 o.p.warm, .string o.n.group, .int .i64 o.n.cpu, .int .i64 o.n.mem, .slice o.n.L.ao o.n.L.la o.n.L.ca, .slice o.n.T.ao o.n.T.la o.n.T.ca, .int .i64 o.n.since, .bool o.n.closed, .int .i64 o.g.min, .int .i64 o.g.max, .int .i64 o.g.target, .int .i64 o.g.cpu, .int .i64 o.g.mem, .slice o.g.L.ao o.g.L.la o.g.L.ca, .slice o.g.T.ao o.g.T.la o.g.T.ca, .int .i64 o.g.prio, .string o.h.target, .int .i64 o.h.min, .int .i64 o.h.max, .slice o.h.M.ao o.h.M.la o.h.M.ca, .int .i64 o.h.tol, .int .i64 o.h.up.win, .int .i64 o.h.up.pick, .slice o.h.up.P.ao o.h.up.P.la o.h.up.P.ca, .int .i64 o.h.down.win, .int .i64 o.h.down.pick, .slice o.h.down.P.ao o.h.down.P.la o.h.down.P.ca, .slice o.h.past.ao o.h.past.la o.h.past.ca])], [], []⟩ 4 (Kept.refl w1) (tab_ok objSta_ok hBlk)
    [(1, .ptr 0 0)] [(1, .ptr 0 0), (8, .val (.bool (decide (255 < (nm.size : Int)))))] [] rfl (by as_aux_lemma => kernel_rfl) (by as_aux_lemma => kernel_rfl) ?_ none (by as_aux_lemma => kernel_rfl) (fun f => [f 0, .pointer (some ⟨bo, 0, none⟩), f 2, f 3, f 4, f 5, f 6, f 7, .bool (decide (255 < (nm.size : Int))), f 9, f 10, f 11, f 12, f 13, f 14, f 15, f 16, f 17, f 18, f 19, f 20, f 21, f 22, f 23, f 24, f 25, f 26, f 27, f 28, f 29, f 30, f 31, f 32, f 33, f 34, f 35, f 36, f 37, f 38, f 39, f 40, f 41, f 42, f 43, f 44, f 45, f 46, f 47, f 48, f 49, f 50, f 51, f 52, f 53, f 54, f 55, f 56, f 57, f 58, f 59, f 60, f 61, f 62, f 63, f 64, f 65, f 66, f 67, f 68, f 69, f 70, f 71, f 72, f 73, f 74, f 75, f 76, f 77, f 78, f 79, f 80, f 81, f 82, f 83, f 84, f 85, f 86, f 87, f 88, f 89, f 90, f 91, f 92, f 93, f 94, f 95, f 96, f 97, f 98, f 99, f 100, f 101, f 102, f 103, f 104, f 105, f 106, f 107, f 108, f 109, f 110, f 111, f 112, f 113, f 114, f 115, f 116, f 117, f 118, f 119, f 120, f 121, f 122, f 123, f 124, f 125, f 126, f 127, f 128, f 129, f 130, f 131, f 132, f 133, f 134, f 135, f 136, f 137, f 138, f 139]) (fun f => by as_aux_lemma => kernel_rfl) ?_
  · clear hBlk
    exact ob_nil
  intro f w2 hb2
  clear hBlk
  simp only [List.drop_succ_cons, List.drop_zero]
  replace R := Lib.hid (RowAt.below hb2 rfl R.out)
  replace HS := Lib.hid (HS.out.b hb2)
  replace Hb := Lib.hid (Hb.out.trans (Below.mono hb2 Hb.out.size))
  have kk := Below.cell_some hb2 K0.out
  clear hb2 K0
  obtain ⟨c, hc⟩ : ∃ c : Bool, (decide (255 < (nm.size : Int))) = c := ⟨_, rfl⟩
  rw [hc] at HE ⊢
  clear hc
  cases c with
  | true =>
    go_wp2_with fail
    go_ret
    exact ⟨by rw [HE.out]; rfl, Hb.out⟩
  | false =>
    go_upto_region 5 with fail
    clear kk
    have hBlk : BlkOk (fun k => (bo, 0)) w2 [(0, [.int .i64 0, .string nm, .int .u64 ver, .int .i64 o.w.rep, .int .i64 o.w.cpu, .int .i64 o.w.mem, .slice o.w.L.ao o.w.L.la o.w.L.ca, .slice o.w.S.ao o.w.S.la o.w.S.ca, .slice o.w.T.ao o.w.T.la o.w.T.ca, .int .i64 o.w.warm, .string o.p.owner, .string o.p.node, .int .i64 o.p.phase, .int .i64 o.p.since, .int .i64 o.p.cpu, .int .i64 o.p.mem, .slice o.p.L.ao o.p.L.la o.p.L.ca, .slice o.p.S.ao o.p.S.la o.p.S.ca, .slice o.p.T.ao o.p.T.la o.p.T.ca, .int .i64 o.p.warm, .string o.n.group, .int .i64 o.n.cpu, .int .i64 o.n.mem, .slice o.n.L.ao o.n.L.la o.n.L.ca, .slice o.n.T.ao o.n.T.la o.n.T.ca, .int .i64 o.n.since, .bool o.n.closed, .int .i64 o.g.min, .int .i64 o.g.max, .int .i64 o.g.target, .int .i64 o.g.cpu, .int .i64 o.g.mem, .slice o.g.L.ao o.g.L.la o.g.L.ca, .slice o.g.T.ao o.g.T.la o.g.T.ca, .int .i64 o.g.prio, .string o.h.target, .int .i64 o.h.min, .int .i64 o.h.max, .slice o.h.M.ao o.h.M.la o.h.M.ca, .int .i64 o.h.tol, .int .i64 o.h.up.win, .int .i64 o.h.up.pick, .slice o.h.up.P.ao o.h.up.P.la o.h.up.P.ca, .int .i64 o.h.down.win, .int .i64 o.h.down.pick, .slice o.h.down.P.ao o.h.down.P.la o.h.down.P.ca, .slice o.h.past.ao o.h.past.la o.h.past.ca])] := (blk_cons (k := 0) R.out.from_ blk_nil)
    refine region_chain (N := 140) (Kept w2) (fun k => (bo, 0)) ⟨objSta, [(0, [.int .i64 0, .string nm, .int .u64 ver, .int .i64 o.w.rep, .int .i64 o.w.cpu, .int .i64 o.w.mem, .slice o.w.L.ao o.w.L.la o.w.L.ca, .slice o.w.S.ao o.w.S.la o.w.S.ca, .slice o.w.T.ao o.w.T.la o.w.T.ca, .int .i64 o.w.warm, .string o.p.owner, .string o.p.node, .int .i64 o.p.phase, .int .i64 o.p.since, .int .i64 o.p.cpu, .int .i64 o.p.mem, .slice o.p.L.ao o.p.L.la o.p.L.ca, .slice o.p.S.ao o.p.S.la o.p.S.ca, .slice o.p.T.ao o.p.T.la o.p.T.ca, .int .i64 o.p.warm, .string o.n.group, .int .i64 o.n.cpu, .int .i64 o.n.mem, .slice o.n.L.ao o.n.L.la o.n.L.ca, .slice o.n.T.ao o.n.T.la o.n.T.ca, .int .i64 o.n.since, .bool o.n.closed, .int .i64 o.g.min, .int .i64 o.g.max, .int .i64 o.g.target, .int .i64 o.g.cpu, .int .i64 o.g.mem, .slice o.g.L.ao o.g.L.la o.g.L.ca, .slice o.g.T.ao o.g.T.la o.g.T.ca, .int .i64 o.g.prio, .string o.h.target, .int .i64 o.h.min, .int .i64 o.h.max, .slice o.h.M.ao o.h.M.la o.h.M.ca, .int .i64 o.h.tol, .int .i64 o.h.up.win, .int .i64 o.h.up.pick, .slice o.h.up.P.ao o.h.up.P.la o.h.up.P.ca, .int .i64 o.h.down.win, .int .i64 o.h.down.pick, .slice o.h.down.P.ao o.h.down.P.la o.h.down.P.ca, .slice o.h.past.ao o.h.past.la o.h.past.ca])], [(16, .bool (shortL o.w.L.xs)), (21, .bool (shortA o.w.S.xs)), (27, .bool (shortL o.w.T.xs))], []⟩ 17 (Kept.refl w2) (tab_ok objSta_ok hBlk)
      [(1, .ptr 0 0)] [(2, .val (.bool (((shortL o.w.L.xs) && (shortA o.w.S.xs)) && (shortL o.w.T.xs))))] [.call 30 [.val (.slice o.w.T.ao o.w.T.la o.w.T.ca)] (.bool (shortL o.w.T.xs)), .call 31 [.val (.slice o.w.S.ao o.w.S.la o.w.S.ca)] (.bool (shortA o.w.S.xs)), .call 30 [.val (.slice o.w.L.ao o.w.L.la o.w.L.ca)] (.bool (shortL o.w.L.xs))] rfl (by as_aux_lemma => kernel_rfl) (by as_aux_lemma => kernel_rfl) ?_ none (by as_aux_lemma => kernel_rfl) (fun f3 => [f3 0, f3 1, .bool (((shortL o.w.L.xs) && (shortA o.w.S.xs)) && (shortL o.w.T.xs)), f3 3, f3 4, f3 5, f3 6, f3 7, f3 8, f3 9, f3 10, f3 11, f3 12, f3 13, f3 14, f3 15, f3 16, f3 17, f3 18, f3 19, f3 20, f3 21, f3 22, f3 23, f3 24, f3 25, f3 26, f3 27, f3 28, f3 29, f3 30, f3 31, f3 32, f3 33, f3 34, f3 35, f3 36, f3 37, f3 38, f3 39, f3 40, f3 41, f3 42, f3 43, f3 44, f3 45, f3 46, f3 47, f3 48, f3 49, f3 50, f3 51, f3 52, f3 53, f3 54, f3 55, f3 56, f3 57, f3 58, f3 59, f3 60, f3 61, f3 62, f3 63, f3 64, f3 65, f3 66, f3 67, f3 68, f3 69, f3 70, f3 71, f3 72, f3 73, f3 74, f3 75, f3 76, f3 77, f3 78, f3 79, f3 80, f3 81, f3 82, f3 83, f3 84, f3 85, f3 86, f3 87, f3 88, f3 89, f3 90, f3 91, f3 92, f3 93, f3 94, f3 95, f3 96, f3 97, f3 98, f3 99, f3 100, f3 101, f3 102, f3 103, f3 104, f3 105, f3 106, f3 107, f3 108, f3 109, f3 110, f3 111, f3 112, f3 113, f3 114, f3 115, f3 116, f3 117, f3 118, f3 119, f3 120, f3 121, f3 122, f3 123, f3 124, f3 125, f3 126, f3 127, f3 128, f3 129, f3 130, f3 131, f3 132, f3 133, f3 134, f3 135, f3 136, f3 137, f3 138, f3 139]) (fun f3 => by as_aux_lemma => kernel_rfl) ?_
    · clear hBlk
      exact (ob_cons (ob_kept Try.func30 (by kernel_rfl) rfl fun w' hw' => shortL_any _ _ _ _ w' (HS.out.w.b hw').T) (ob_cons (ob_kept Try.func31 (by kernel_rfl) rfl fun w' hw' => shortA_any _ _ _ _ w' (HS.out.w.b hw').S) (ob_cons (ob_kept Try.func30 (by kernel_rfl) rfl fun w' hw' => shortL_any _ _ _ _ w' (HS.out.w.b hw').L) ob_nil)))
    intro f3 w4 hb4
    clear hBlk
    simp only [List.drop_succ_cons, List.drop_zero]
    replace Hb := Lib.hid (Hb.out.trans (Below.mono hb4 Hb.out.size))
    clear hb4 R
    go_wp2_with fail
    go_ret
    exact ⟨by rw [HE.out]; rfl, Hb.out⟩

set_option maxRecDepth 100000 in
set_option maxHeartbeats 12800000 in
theorem short_p (nm : ByteArray) (ver : Int) (o : ShapesV) (w : World) (h : ShapesAt w o) :
    Calls Try.prog 10 #[.agg #[.int .i64 1, .string nm, .int .u64 ver, .int .i64 o.w.rep, .int .i64 o.w.cpu, .int .i64 o.w.mem, .slice o.w.L.ao o.w.L.la o.w.L.ca, .slice o.w.S.ao o.w.S.la o.w.S.ca, .slice o.w.T.ao o.w.T.la o.w.T.ca, .int .i64 o.w.warm, .string o.p.owner, .string o.p.node, .int .i64 o.p.phase, .int .i64 o.p.since, .int .i64 o.p.cpu, .int .i64 o.p.mem, .slice o.p.L.ao o.p.L.la o.p.L.ca, .slice o.p.S.ao o.p.S.la o.p.S.ca, .slice o.p.T.ao o.p.T.la o.p.T.ca, .int .i64 o.p.warm, .string o.n.group, .int .i64 o.n.cpu, .int .i64 o.n.mem, .slice o.n.L.ao o.n.L.la o.n.L.ca, .slice o.n.T.ao o.n.T.la o.n.T.ca, .int .i64 o.n.since, .bool o.n.closed, .int .i64 o.g.min, .int .i64 o.g.max, .int .i64 o.g.target, .int .i64 o.g.cpu, .int .i64 o.g.mem, .slice o.g.L.ao o.g.L.la o.g.L.ca, .slice o.g.T.ao o.g.T.la o.g.T.ca, .int .i64 o.g.prio, .string o.h.target, .int .i64 o.h.min, .int .i64 o.h.max, .slice o.h.M.ao o.h.M.la o.h.M.ca, .int .i64 o.h.tol, .int .i64 o.h.up.win, .int .i64 o.h.up.pick, .slice o.h.up.P.ao o.h.up.P.la o.h.up.P.ca, .int .i64 o.h.down.win, .int .i64 o.h.down.pick, .slice o.h.down.P.ao o.h.down.P.la o.h.down.P.ca, .slice o.h.past.ao o.h.past.la o.h.past.ca]] w fun e w' => e = .returned (.bool (shortO 1 nm o)) ∧ Below w.heap.size w w' := by
  have HE : Hid (shortO 1 nm o = (!(decide (255 < (nm.size : Int))) && (((((decide ((o.p.owner.size : Int) ≤ 255)) && (decide ((o.p.node.size : Int) ≤ 255))) && (shortL o.p.L.xs)) && (shortA o.p.S.xs)) && (shortL o.p.T.xs)))) := rfl
  obtain ⟨TOT, hTOT⟩ : ∃ t, shortO 1 nm o = t := ⟨_, rfl⟩
  rw [hTOT] at HE ⊢
  clear hTOT
  go_enter Try.func10, Try.ntmps10
  go_upto_region 1 with fail
  have hb0 : Below w.heap.size w (w.alloc (.cells #[.int .i64 1, .string nm, .int .u64 ver, .int .i64 o.w.rep, .int .i64 o.w.cpu, .int .i64 o.w.mem, .slice o.w.L.ao o.w.L.la o.w.L.ca, .slice o.w.S.ao o.w.S.la o.w.S.ca, .slice o.w.T.ao o.w.T.la o.w.T.ca, .int .i64 o.w.warm, .string o.p.owner, .string o.p.node, .int .i64 o.p.phase, .int .i64 o.p.since, .int .i64 o.p.cpu, .int .i64 o.p.mem, .slice o.p.L.ao o.p.L.la o.p.L.ca, .slice o.p.S.ao o.p.S.la o.p.S.ca, .slice o.p.T.ao o.p.T.la o.p.T.ca, .int .i64 o.p.warm, .string o.n.group, .int .i64 o.n.cpu, .int .i64 o.n.mem, .slice o.n.L.ao o.n.L.la o.n.L.ca, .slice o.n.T.ao o.n.T.la o.n.T.ca, .int .i64 o.n.since, .bool o.n.closed, .int .i64 o.g.min, .int .i64 o.g.max, .int .i64 o.g.target, .int .i64 o.g.cpu, .int .i64 o.g.mem, .slice o.g.L.ao o.g.L.la o.g.L.ca, .slice o.g.T.ao o.g.T.la o.g.T.ca, .int .i64 o.g.prio, .string o.h.target, .int .i64 o.h.min, .int .i64 o.h.max, .slice o.h.M.ao o.h.M.la o.h.M.ca, .int .i64 o.h.tol, .int .i64 o.h.up.win, .int .i64 o.h.up.pick, .slice o.h.up.P.ao o.h.up.P.la o.h.up.P.ca, .int .i64 o.h.down.win, .int .i64 o.h.down.pick, .slice o.h.down.P.ao o.h.down.P.la o.h.down.P.ca, .slice o.h.past.ao o.h.past.la o.h.past.ca] 44)) := (Below.refl w.heap.size w).alloc (Nat.le_refl _) _
  have R : Hid (RowAt (w.alloc (.cells #[.int .i64 1, .string nm, .int .u64 ver, .int .i64 o.w.rep, .int .i64 o.w.cpu, .int .i64 o.w.mem, .slice o.w.L.ao o.w.L.la o.w.L.ca, .slice o.w.S.ao o.w.S.la o.w.S.ca, .slice o.w.T.ao o.w.T.la o.w.T.ca, .int .i64 o.w.warm, .string o.p.owner, .string o.p.node, .int .i64 o.p.phase, .int .i64 o.p.since, .int .i64 o.p.cpu, .int .i64 o.p.mem, .slice o.p.L.ao o.p.L.la o.p.L.ca, .slice o.p.S.ao o.p.S.la o.p.S.ca, .slice o.p.T.ao o.p.T.la o.p.T.ca, .int .i64 o.p.warm, .string o.n.group, .int .i64 o.n.cpu, .int .i64 o.n.mem, .slice o.n.L.ao o.n.L.la o.n.L.ca, .slice o.n.T.ao o.n.T.la o.n.T.ca, .int .i64 o.n.since, .bool o.n.closed, .int .i64 o.g.min, .int .i64 o.g.max, .int .i64 o.g.target, .int .i64 o.g.cpu, .int .i64 o.g.mem, .slice o.g.L.ao o.g.L.la o.g.L.ca, .slice o.g.T.ao o.g.T.la o.g.T.ca, .int .i64 o.g.prio, .string o.h.target, .int .i64 o.h.min, .int .i64 o.h.max, .slice o.h.M.ao o.h.M.la o.h.M.ca, .int .i64 o.h.tol, .int .i64 o.h.up.win, .int .i64 o.h.up.pick, .slice o.h.up.P.ao o.h.up.P.la o.h.up.P.ca, .int .i64 o.h.down.win, .int .i64 o.h.down.pick, .slice o.h.down.P.ao o.h.down.P.la o.h.down.P.ca, .slice o.h.past.ao o.h.past.la o.h.past.ca] 44)) w.heap.size [.int .i64 1, .string nm, .int .u64 ver, .int .i64 o.w.rep, .int .i64 o.w.cpu, .int .i64 o.w.mem, .slice o.w.L.ao o.w.L.la o.w.L.ca, .slice o.w.S.ao o.w.S.la o.w.S.ca, .slice o.w.T.ao o.w.T.la o.w.T.ca, .int .i64 o.w.warm, .string o.p.owner, .string o.p.node, .int .i64 o.p.phase, .int .i64 o.p.since, .int .i64 o.p.cpu, .int .i64 o.p.mem, .slice o.p.L.ao o.p.L.la o.p.L.ca, .slice o.p.S.ao o.p.S.la o.p.S.ca, .slice o.p.T.ao o.p.T.la o.p.T.ca, .int .i64 o.p.warm, .string o.n.group, .int .i64 o.n.cpu, .int .i64 o.n.mem, .slice o.n.L.ao o.n.L.la o.n.L.ca, .slice o.n.T.ao o.n.T.la o.n.T.ca, .int .i64 o.n.since, .bool o.n.closed, .int .i64 o.g.min, .int .i64 o.g.max, .int .i64 o.g.target, .int .i64 o.g.cpu, .int .i64 o.g.mem, .slice o.g.L.ao o.g.L.la o.g.L.ca, .slice o.g.T.ao o.g.T.la o.g.T.ca, .int .i64 o.g.prio, .string o.h.target, .int .i64 o.h.min, .int .i64 o.h.max, .slice o.h.M.ao o.h.M.la o.h.M.ca, .int .i64 o.h.tol, .int .i64 o.h.up.win, .int .i64 o.h.up.pick, .slice o.h.up.P.ao o.h.up.P.la o.h.up.P.ca, .int .i64 o.h.down.win, .int .i64 o.h.down.pick, .slice o.h.down.P.ao o.h.down.P.la o.h.down.P.ca, .slice o.h.past.ao o.h.past.la o.h.past.ca]) := RowAt.of_heap (t := 44) (fr := (0, 0)) (by rw [heap_alloc_new])
  have kk : (w.alloc (.cells #[.int .i64 1, .string nm, .int .u64 ver, .int .i64 o.w.rep, .int .i64 o.w.cpu, .int .i64 o.w.mem, .slice o.w.L.ao o.w.L.la o.w.L.ca, .slice o.w.S.ao o.w.S.la o.w.S.ca, .slice o.w.T.ao o.w.T.la o.w.T.ca, .int .i64 o.w.warm, .string o.p.owner, .string o.p.node, .int .i64 o.p.phase, .int .i64 o.p.since, .int .i64 o.p.cpu, .int .i64 o.p.mem, .slice o.p.L.ao o.p.L.la o.p.L.ca, .slice o.p.S.ao o.p.S.la o.p.S.ca, .slice o.p.T.ao o.p.T.la o.p.T.ca, .int .i64 o.p.warm, .string o.n.group, .int .i64 o.n.cpu, .int .i64 o.n.mem, .slice o.n.L.ao o.n.L.la o.n.L.ca, .slice o.n.T.ao o.n.T.la o.n.T.ca, .int .i64 o.n.since, .bool o.n.closed, .int .i64 o.g.min, .int .i64 o.g.max, .int .i64 o.g.target, .int .i64 o.g.cpu, .int .i64 o.g.mem, .slice o.g.L.ao o.g.L.la o.g.L.ca, .slice o.g.T.ao o.g.T.la o.g.T.ca, .int .i64 o.g.prio, .string o.h.target, .int .i64 o.h.min, .int .i64 o.h.max, .slice o.h.M.ao o.h.M.la o.h.M.ca, .int .i64 o.h.tol, .int .i64 o.h.up.win, .int .i64 o.h.up.pick, .slice o.h.up.P.ao o.h.up.P.la o.h.up.P.ca, .int .i64 o.h.down.win, .int .i64 o.h.down.pick, .slice o.h.down.P.ao o.h.down.P.la o.h.down.P.ca, .slice o.h.past.ao o.h.past.la o.h.past.ca] 44)).cell? ⟨w.heap.size, 0, none⟩ = some (.int .i64 1) := R.out 0 _ rfl
  generalize w.alloc (.cells #[.int .i64 1, .string nm, .int .u64 ver, .int .i64 o.w.rep, .int .i64 o.w.cpu, .int .i64 o.w.mem, .slice o.w.L.ao o.w.L.la o.w.L.ca, .slice o.w.S.ao o.w.S.la o.w.S.ca, .slice o.w.T.ao o.w.T.la o.w.T.ca, .int .i64 o.w.warm, .string o.p.owner, .string o.p.node, .int .i64 o.p.phase, .int .i64 o.p.since, .int .i64 o.p.cpu, .int .i64 o.p.mem, .slice o.p.L.ao o.p.L.la o.p.L.ca, .slice o.p.S.ao o.p.S.la o.p.S.ca, .slice o.p.T.ao o.p.T.la o.p.T.ca, .int .i64 o.p.warm, .string o.n.group, .int .i64 o.n.cpu, .int .i64 o.n.mem, .slice o.n.L.ao o.n.L.la o.n.L.ca, .slice o.n.T.ao o.n.T.la o.n.T.ca, .int .i64 o.n.since, .bool o.n.closed, .int .i64 o.g.min, .int .i64 o.g.max, .int .i64 o.g.target, .int .i64 o.g.cpu, .int .i64 o.g.mem, .slice o.g.L.ao o.g.L.la o.g.L.ca, .slice o.g.T.ao o.g.T.la o.g.T.ca, .int .i64 o.g.prio, .string o.h.target, .int .i64 o.h.min, .int .i64 o.h.max, .slice o.h.M.ao o.h.M.la o.h.M.ca, .int .i64 o.h.tol, .int .i64 o.h.up.win, .int .i64 o.h.up.pick, .slice o.h.up.P.ao o.h.up.P.la o.h.up.P.ca, .int .i64 o.h.down.win, .int .i64 o.h.down.pick, .slice o.h.down.P.ao o.h.down.P.la o.h.down.P.ca, .slice o.h.past.ao o.h.past.la o.h.past.ca] 44) = w1 at hb0 R kk ⊢
  generalize Value.agg #[.int .i64 1, .string nm, .int .u64 ver, .int .i64 o.w.rep, .int .i64 o.w.cpu, .int .i64 o.w.mem, .slice o.w.L.ao o.w.L.la o.w.L.ca, .slice o.w.S.ao o.w.S.la o.w.S.ca, .slice o.w.T.ao o.w.T.la o.w.T.ca, .int .i64 o.w.warm, .string o.p.owner, .string o.p.node, .int .i64 o.p.phase, .int .i64 o.p.since, .int .i64 o.p.cpu, .int .i64 o.p.mem, .slice o.p.L.ao o.p.L.la o.p.L.ca, .slice o.p.S.ao o.p.S.la o.p.S.ca, .slice o.p.T.ao o.p.T.la o.p.T.ca, .int .i64 o.p.warm, .string o.n.group, .int .i64 o.n.cpu, .int .i64 o.n.mem, .slice o.n.L.ao o.n.L.la o.n.L.ca, .slice o.n.T.ao o.n.T.la o.n.T.ca, .int .i64 o.n.since, .bool o.n.closed, .int .i64 o.g.min, .int .i64 o.g.max, .int .i64 o.g.target, .int .i64 o.g.cpu, .int .i64 o.g.mem, .slice o.g.L.ao o.g.L.la o.g.L.ca, .slice o.g.T.ao o.g.T.la o.g.T.ca, .int .i64 o.g.prio, .string o.h.target, .int .i64 o.h.min, .int .i64 o.h.max, .slice o.h.M.ao o.h.M.la o.h.M.ca, .int .i64 o.h.tol, .int .i64 o.h.up.win, .int .i64 o.h.up.pick, .slice o.h.up.P.ao o.h.up.P.la o.h.up.P.ca, .int .i64 o.h.down.win, .int .i64 o.h.down.pick, .slice o.h.down.P.ao o.h.down.P.la o.h.down.P.ca, .slice o.h.past.ao o.h.past.la o.h.past.ca] = v0
  have HS := Lib.hid (h.b hb0)
  have Hb := Lib.hid hb0
  obtain ⟨bo, hbo⟩ : ∃ n, w.heap.size = n := ⟨_, rfl⟩
  rw [hbo] at R kk ⊢
  clear h hb0 hbo
  have K0 := Lib.hid kk
  clear kk
  have hBlk : BlkOk (fun k => (bo, 0)) w1 [(0, [.int .i64 1, .string nm, .int .u64 ver, .int .i64 o.w.rep, .int .i64 o.w.cpu, .int .i64 o.w.mem, .slice o.w.L.ao o.w.L.la o.w.L.ca, .slice o.w.S.ao o.w.S.la o.w.S.ca, .slice o.w.T.ao o.w.T.la o.w.T.ca, .int .i64 o.w.warm, .string o.p.owner, .string o.p.node, .int .i64 o.p.phase, .int .i64 o.p.since, .int .i64 o.p.cpu, .int .i64 o.p.mem, .slice o.p.L.ao o.p.L.la o.p.L.ca, .slice o.p.S.ao o.p.S.la o.p.S.ca, .slice o.p.T.ao o.p.T.la o.p.T.ca, .int .i64 o.p.warm, .string o.n.group, .int .i64 o.n.cpu, .int .i64 o.n.mem, .slice o.n.L.ao o.n.L.la o.n.L.ca, .slice o.n.T.ao o.n.T.la o.n.T.ca, .int .i64 o.n.since, .bool o.n.closed, .int .i64 o.g.min, .int .i64 o.g.max, .int .i64 o.g.target, .int .i64 o.g.cpu, .int .i64 o.g.mem, .slice o.g.L.ao o.g.L.la o.g.L.ca, .slice o.g.T.ao o.g.T.la o.g.T.ca, .int .i64 o.g.prio, .string o.h.target, .int .i64 o.h.min, .int .i64 o.h.max, .slice o.h.M.ao o.h.M.la o.h.M.ca, .int .i64 o.h.tol, .int .i64 o.h.up.win, .int .i64 o.h.up.pick, .slice o.h.up.P.ao o.h.up.P.la o.h.up.P.ca, .int .i64 o.h.down.win, .int .i64 o.h.down.pick, .slice o.h.down.P.ao o.h.down.P.la o.h.down.P.ca, .slice o.h.past.ao o.h.past.la o.h.past.ca])] := (blk_cons (k := 0) R.out.from_ blk_nil)
  refine region_chain (N := 140) (Kept w1) (fun k => (bo, 0)) ⟨objSta, [(0, [.int .i64 1, .string nm, .int .u64 ver, .int .i64 o.w.rep, .int .i64 o.w.cpu, .int .i64 o.w.mem, .slice o.w.L.ao o.w.L.la o.w.L.ca, .slice o.w.S.ao o.w.S.la o.w.S.ca, .slice o.w.T.ao o.w.T.la o.w.T.ca, .int .i64 o.w.warm, .string o.p.owner, .string o.p.node, .int .i64 o.p.phase, .int .i64 o.p.since, .int .i64 o.p.cpu, .int .i64 o.p.mem, .slice o.p.L.ao o.p.L.la o.p.L.ca, .slice o.p.S.ao o.p.S.la o.p.S.ca, .slice o.p.T.ao o.p.T.la o.p.T.ca, .int .i64 o.p.warm, .string o.n.group, .int .i64 o.n.cpu, .int .i64 o.n.mem, .slice o.n.L.ao o.n.L.la o.n.L.ca, .slice o.n.T.ao o.n.T.la o.n.T.ca, .int .i64 o.n.since, .bool o.n.closed, .int .i64 o.g.min, .int .i64 o.g.max, .int .i64 o.g.target, .int .i64 o.g.cpu, .int .i64 o.g.mem, .slice o.g.L.ao o.g.L.la o.g.L.ca, .slice o.g.T.ao o.g.T.la o.g.T.ca, .int .i64 o.g.prio, .string o.h.target, .int .i64 o.h.min, .int .i64 o.h.max, .slice o.h.M.ao o.h.M.la o.h.M.ca, .int .i64 o.h.tol, .int .i64 o.h.up.win, .int .i64 o.h.up.pick, .slice o.h.up.P.ao o.h.up.P.la o.h.up.P.ca, .int .i64 o.h.down.win, .int .i64 o.h.down.pick, .slice o.h.down.P.ao o.h.down.P.la o.h.down.P.ca, .slice o.h.past.ao o.h.past.la o.h.past.ca])], [], []⟩ 4 (Kept.refl w1) (tab_ok objSta_ok hBlk)
    [(1, .ptr 0 0)] [(1, .ptr 0 0), (8, .val (.bool (decide (255 < (nm.size : Int)))))] [] rfl (by as_aux_lemma => kernel_rfl) (by as_aux_lemma => kernel_rfl) ?_ none (by as_aux_lemma => kernel_rfl) (fun f => [f 0, .pointer (some ⟨bo, 0, none⟩), f 2, f 3, f 4, f 5, f 6, f 7, .bool (decide (255 < (nm.size : Int))), f 9, f 10, f 11, f 12, f 13, f 14, f 15, f 16, f 17, f 18, f 19, f 20, f 21, f 22, f 23, f 24, f 25, f 26, f 27, f 28, f 29, f 30, f 31, f 32, f 33, f 34, f 35, f 36, f 37, f 38, f 39, f 40, f 41, f 42, f 43, f 44, f 45, f 46, f 47, f 48, f 49, f 50, f 51, f 52, f 53, f 54, f 55, f 56, f 57, f 58, f 59, f 60, f 61, f 62, f 63, f 64, f 65, f 66, f 67, f 68, f 69, f 70, f 71, f 72, f 73, f 74, f 75, f 76, f 77, f 78, f 79, f 80, f 81, f 82, f 83, f 84, f 85, f 86, f 87, f 88, f 89, f 90, f 91, f 92, f 93, f 94, f 95, f 96, f 97, f 98, f 99, f 100, f 101, f 102, f 103, f 104, f 105, f 106, f 107, f 108, f 109, f 110, f 111, f 112, f 113, f 114, f 115, f 116, f 117, f 118, f 119, f 120, f 121, f 122, f 123, f 124, f 125, f 126, f 127, f 128, f 129, f 130, f 131, f 132, f 133, f 134, f 135, f 136, f 137, f 138, f 139]) (fun f => by as_aux_lemma => kernel_rfl) ?_
  · clear hBlk
    exact ob_nil
  intro f w2 hb2
  clear hBlk
  simp only [List.drop_succ_cons, List.drop_zero]
  replace R := Lib.hid (RowAt.below hb2 rfl R.out)
  replace HS := Lib.hid (HS.out.b hb2)
  replace Hb := Lib.hid (Hb.out.trans (Below.mono hb2 Hb.out.size))
  have kk := Below.cell_some hb2 K0.out
  clear hb2 K0
  obtain ⟨c, hc⟩ : ∃ c : Bool, (decide (255 < (nm.size : Int))) = c := ⟨_, rfl⟩
  rw [hc] at HE ⊢
  clear hc
  cases c with
  | true =>
    go_wp2_with fail
    go_ret
    exact ⟨by rw [HE.out]; rfl, Hb.out⟩
  | false =>
    go_upto_region 7 with fail
    clear kk
    have hBlk : BlkOk (fun k => (bo, 0)) w2 [(0, [.int .i64 1, .string nm, .int .u64 ver, .int .i64 o.w.rep, .int .i64 o.w.cpu, .int .i64 o.w.mem, .slice o.w.L.ao o.w.L.la o.w.L.ca, .slice o.w.S.ao o.w.S.la o.w.S.ca, .slice o.w.T.ao o.w.T.la o.w.T.ca, .int .i64 o.w.warm, .string o.p.owner, .string o.p.node, .int .i64 o.p.phase, .int .i64 o.p.since, .int .i64 o.p.cpu, .int .i64 o.p.mem, .slice o.p.L.ao o.p.L.la o.p.L.ca, .slice o.p.S.ao o.p.S.la o.p.S.ca, .slice o.p.T.ao o.p.T.la o.p.T.ca, .int .i64 o.p.warm, .string o.n.group, .int .i64 o.n.cpu, .int .i64 o.n.mem, .slice o.n.L.ao o.n.L.la o.n.L.ca, .slice o.n.T.ao o.n.T.la o.n.T.ca, .int .i64 o.n.since, .bool o.n.closed, .int .i64 o.g.min, .int .i64 o.g.max, .int .i64 o.g.target, .int .i64 o.g.cpu, .int .i64 o.g.mem, .slice o.g.L.ao o.g.L.la o.g.L.ca, .slice o.g.T.ao o.g.T.la o.g.T.ca, .int .i64 o.g.prio, .string o.h.target, .int .i64 o.h.min, .int .i64 o.h.max, .slice o.h.M.ao o.h.M.la o.h.M.ca, .int .i64 o.h.tol, .int .i64 o.h.up.win, .int .i64 o.h.up.pick, .slice o.h.up.P.ao o.h.up.P.la o.h.up.P.ca, .int .i64 o.h.down.win, .int .i64 o.h.down.pick, .slice o.h.down.P.ao o.h.down.P.la o.h.down.P.ca, .slice o.h.past.ao o.h.past.la o.h.past.ca])] := (blk_cons (k := 0) R.out.from_ blk_nil)
    refine region_chain (N := 140) (Kept w2) (fun k => (bo, 0)) ⟨objSta, [(0, [.int .i64 1, .string nm, .int .u64 ver, .int .i64 o.w.rep, .int .i64 o.w.cpu, .int .i64 o.w.mem, .slice o.w.L.ao o.w.L.la o.w.L.ca, .slice o.w.S.ao o.w.S.la o.w.S.ca, .slice o.w.T.ao o.w.T.la o.w.T.ca, .int .i64 o.w.warm, .string o.p.owner, .string o.p.node, .int .i64 o.p.phase, .int .i64 o.p.since, .int .i64 o.p.cpu, .int .i64 o.p.mem, .slice o.p.L.ao o.p.L.la o.p.L.ca, .slice o.p.S.ao o.p.S.la o.p.S.ca, .slice o.p.T.ao o.p.T.la o.p.T.ca, .int .i64 o.p.warm, .string o.n.group, .int .i64 o.n.cpu, .int .i64 o.n.mem, .slice o.n.L.ao o.n.L.la o.n.L.ca, .slice o.n.T.ao o.n.T.la o.n.T.ca, .int .i64 o.n.since, .bool o.n.closed, .int .i64 o.g.min, .int .i64 o.g.max, .int .i64 o.g.target, .int .i64 o.g.cpu, .int .i64 o.g.mem, .slice o.g.L.ao o.g.L.la o.g.L.ca, .slice o.g.T.ao o.g.T.la o.g.T.ca, .int .i64 o.g.prio, .string o.h.target, .int .i64 o.h.min, .int .i64 o.h.max, .slice o.h.M.ao o.h.M.la o.h.M.ca, .int .i64 o.h.tol, .int .i64 o.h.up.win, .int .i64 o.h.up.pick, .slice o.h.up.P.ao o.h.up.P.la o.h.up.P.ca, .int .i64 o.h.down.win, .int .i64 o.h.down.pick, .slice o.h.down.P.ao o.h.down.P.la o.h.down.P.ca, .slice o.h.past.ao o.h.past.la o.h.past.ca])], [(47, .bool (shortL o.p.L.xs)), (53, .bool (shortA o.p.S.xs)), (59, .bool (shortL o.p.T.xs))], []⟩ 31 (Kept.refl w2) (tab_ok objSta_ok hBlk)
      [(1, .ptr 0 0)] [(2, .val (.bool (((((decide ((o.p.owner.size : Int) ≤ 255)) && (decide ((o.p.node.size : Int) ≤ 255))) && (shortL o.p.L.xs)) && (shortA o.p.S.xs)) && (shortL o.p.T.xs))))] [.call 30 [.val (.slice o.p.T.ao o.p.T.la o.p.T.ca)] (.bool (shortL o.p.T.xs)), .call 31 [.val (.slice o.p.S.ao o.p.S.la o.p.S.ca)] (.bool (shortA o.p.S.xs)), .call 30 [.val (.slice o.p.L.ao o.p.L.la o.p.L.ca)] (.bool (shortL o.p.L.xs))] rfl (by as_aux_lemma => kernel_rfl) (by as_aux_lemma => kernel_rfl) ?_ none (by as_aux_lemma => kernel_rfl) (fun f3 => [f3 0, f3 1, .bool (((((decide ((o.p.owner.size : Int) ≤ 255)) && (decide ((o.p.node.size : Int) ≤ 255))) && (shortL o.p.L.xs)) && (shortA o.p.S.xs)) && (shortL o.p.T.xs)), f3 3, f3 4, f3 5, f3 6, f3 7, f3 8, f3 9, f3 10, f3 11, f3 12, f3 13, f3 14, f3 15, f3 16, f3 17, f3 18, f3 19, f3 20, f3 21, f3 22, f3 23, f3 24, f3 25, f3 26, f3 27, f3 28, f3 29, f3 30, f3 31, f3 32, f3 33, f3 34, f3 35, f3 36, f3 37, f3 38, f3 39, f3 40, f3 41, f3 42, f3 43, f3 44, f3 45, f3 46, f3 47, f3 48, f3 49, f3 50, f3 51, f3 52, f3 53, f3 54, f3 55, f3 56, f3 57, f3 58, f3 59, f3 60, f3 61, f3 62, f3 63, f3 64, f3 65, f3 66, f3 67, f3 68, f3 69, f3 70, f3 71, f3 72, f3 73, f3 74, f3 75, f3 76, f3 77, f3 78, f3 79, f3 80, f3 81, f3 82, f3 83, f3 84, f3 85, f3 86, f3 87, f3 88, f3 89, f3 90, f3 91, f3 92, f3 93, f3 94, f3 95, f3 96, f3 97, f3 98, f3 99, f3 100, f3 101, f3 102, f3 103, f3 104, f3 105, f3 106, f3 107, f3 108, f3 109, f3 110, f3 111, f3 112, f3 113, f3 114, f3 115, f3 116, f3 117, f3 118, f3 119, f3 120, f3 121, f3 122, f3 123, f3 124, f3 125, f3 126, f3 127, f3 128, f3 129, f3 130, f3 131, f3 132, f3 133, f3 134, f3 135, f3 136, f3 137, f3 138, f3 139]) (fun f3 => by as_aux_lemma => kernel_rfl) ?_
    · clear hBlk
      exact (ob_cons (ob_kept Try.func30 (by kernel_rfl) rfl fun w' hw' => shortL_any _ _ _ _ w' (HS.out.p.b hw').T) (ob_cons (ob_kept Try.func31 (by kernel_rfl) rfl fun w' hw' => shortA_any _ _ _ _ w' (HS.out.p.b hw').S) (ob_cons (ob_kept Try.func30 (by kernel_rfl) rfl fun w' hw' => shortL_any _ _ _ _ w' (HS.out.p.b hw').L) ob_nil)))
    intro f3 w4 hb4
    clear hBlk
    simp only [List.drop_succ_cons, List.drop_zero]
    replace Hb := Lib.hid (Hb.out.trans (Below.mono hb4 Hb.out.size))
    clear hb4 R
    go_wp2_with fail
    go_ret
    exact ⟨by rw [HE.out]; rfl, Hb.out⟩

set_option maxRecDepth 100000 in
set_option maxHeartbeats 12800000 in
theorem short_n (nm : ByteArray) (ver : Int) (o : ShapesV) (w : World) (h : ShapesAt w o) :
    Calls Try.prog 10 #[.agg #[.int .i64 2, .string nm, .int .u64 ver, .int .i64 o.w.rep, .int .i64 o.w.cpu, .int .i64 o.w.mem, .slice o.w.L.ao o.w.L.la o.w.L.ca, .slice o.w.S.ao o.w.S.la o.w.S.ca, .slice o.w.T.ao o.w.T.la o.w.T.ca, .int .i64 o.w.warm, .string o.p.owner, .string o.p.node, .int .i64 o.p.phase, .int .i64 o.p.since, .int .i64 o.p.cpu, .int .i64 o.p.mem, .slice o.p.L.ao o.p.L.la o.p.L.ca, .slice o.p.S.ao o.p.S.la o.p.S.ca, .slice o.p.T.ao o.p.T.la o.p.T.ca, .int .i64 o.p.warm, .string o.n.group, .int .i64 o.n.cpu, .int .i64 o.n.mem, .slice o.n.L.ao o.n.L.la o.n.L.ca, .slice o.n.T.ao o.n.T.la o.n.T.ca, .int .i64 o.n.since, .bool o.n.closed, .int .i64 o.g.min, .int .i64 o.g.max, .int .i64 o.g.target, .int .i64 o.g.cpu, .int .i64 o.g.mem, .slice o.g.L.ao o.g.L.la o.g.L.ca, .slice o.g.T.ao o.g.T.la o.g.T.ca, .int .i64 o.g.prio, .string o.h.target, .int .i64 o.h.min, .int .i64 o.h.max, .slice o.h.M.ao o.h.M.la o.h.M.ca, .int .i64 o.h.tol, .int .i64 o.h.up.win, .int .i64 o.h.up.pick, .slice o.h.up.P.ao o.h.up.P.la o.h.up.P.ca, .int .i64 o.h.down.win, .int .i64 o.h.down.pick, .slice o.h.down.P.ao o.h.down.P.la o.h.down.P.ca, .slice o.h.past.ao o.h.past.la o.h.past.ca]] w fun e w' => e = .returned (.bool (shortO 2 nm o)) ∧ Below w.heap.size w w' := by
  have HE : Hid (shortO 2 nm o = (!(decide (255 < (nm.size : Int))) && (((decide ((o.n.group.size : Int) ≤ 255)) && (shortL o.n.L.xs)) && (shortL o.n.T.xs)))) := rfl
  obtain ⟨TOT, hTOT⟩ : ∃ t, shortO 2 nm o = t := ⟨_, rfl⟩
  rw [hTOT] at HE ⊢
  clear hTOT
  go_enter Try.func10, Try.ntmps10
  go_upto_region 1 with fail
  have hb0 : Below w.heap.size w (w.alloc (.cells #[.int .i64 2, .string nm, .int .u64 ver, .int .i64 o.w.rep, .int .i64 o.w.cpu, .int .i64 o.w.mem, .slice o.w.L.ao o.w.L.la o.w.L.ca, .slice o.w.S.ao o.w.S.la o.w.S.ca, .slice o.w.T.ao o.w.T.la o.w.T.ca, .int .i64 o.w.warm, .string o.p.owner, .string o.p.node, .int .i64 o.p.phase, .int .i64 o.p.since, .int .i64 o.p.cpu, .int .i64 o.p.mem, .slice o.p.L.ao o.p.L.la o.p.L.ca, .slice o.p.S.ao o.p.S.la o.p.S.ca, .slice o.p.T.ao o.p.T.la o.p.T.ca, .int .i64 o.p.warm, .string o.n.group, .int .i64 o.n.cpu, .int .i64 o.n.mem, .slice o.n.L.ao o.n.L.la o.n.L.ca, .slice o.n.T.ao o.n.T.la o.n.T.ca, .int .i64 o.n.since, .bool o.n.closed, .int .i64 o.g.min, .int .i64 o.g.max, .int .i64 o.g.target, .int .i64 o.g.cpu, .int .i64 o.g.mem, .slice o.g.L.ao o.g.L.la o.g.L.ca, .slice o.g.T.ao o.g.T.la o.g.T.ca, .int .i64 o.g.prio, .string o.h.target, .int .i64 o.h.min, .int .i64 o.h.max, .slice o.h.M.ao o.h.M.la o.h.M.ca, .int .i64 o.h.tol, .int .i64 o.h.up.win, .int .i64 o.h.up.pick, .slice o.h.up.P.ao o.h.up.P.la o.h.up.P.ca, .int .i64 o.h.down.win, .int .i64 o.h.down.pick, .slice o.h.down.P.ao o.h.down.P.la o.h.down.P.ca, .slice o.h.past.ao o.h.past.la o.h.past.ca] 44)) := (Below.refl w.heap.size w).alloc (Nat.le_refl _) _
  have R : Hid (RowAt (w.alloc (.cells #[.int .i64 2, .string nm, .int .u64 ver, .int .i64 o.w.rep, .int .i64 o.w.cpu, .int .i64 o.w.mem, .slice o.w.L.ao o.w.L.la o.w.L.ca, .slice o.w.S.ao o.w.S.la o.w.S.ca, .slice o.w.T.ao o.w.T.la o.w.T.ca, .int .i64 o.w.warm, .string o.p.owner, .string o.p.node, .int .i64 o.p.phase, .int .i64 o.p.since, .int .i64 o.p.cpu, .int .i64 o.p.mem, .slice o.p.L.ao o.p.L.la o.p.L.ca, .slice o.p.S.ao o.p.S.la o.p.S.ca, .slice o.p.T.ao o.p.T.la o.p.T.ca, .int .i64 o.p.warm, .string o.n.group, .int .i64 o.n.cpu, .int .i64 o.n.mem, .slice o.n.L.ao o.n.L.la o.n.L.ca, .slice o.n.T.ao o.n.T.la o.n.T.ca, .int .i64 o.n.since, .bool o.n.closed, .int .i64 o.g.min, .int .i64 o.g.max, .int .i64 o.g.target, .int .i64 o.g.cpu, .int .i64 o.g.mem, .slice o.g.L.ao o.g.L.la o.g.L.ca, .slice o.g.T.ao o.g.T.la o.g.T.ca, .int .i64 o.g.prio, .string o.h.target, .int .i64 o.h.min, .int .i64 o.h.max, .slice o.h.M.ao o.h.M.la o.h.M.ca, .int .i64 o.h.tol, .int .i64 o.h.up.win, .int .i64 o.h.up.pick, .slice o.h.up.P.ao o.h.up.P.la o.h.up.P.ca, .int .i64 o.h.down.win, .int .i64 o.h.down.pick, .slice o.h.down.P.ao o.h.down.P.la o.h.down.P.ca, .slice o.h.past.ao o.h.past.la o.h.past.ca] 44)) w.heap.size [.int .i64 2, .string nm, .int .u64 ver, .int .i64 o.w.rep, .int .i64 o.w.cpu, .int .i64 o.w.mem, .slice o.w.L.ao o.w.L.la o.w.L.ca, .slice o.w.S.ao o.w.S.la o.w.S.ca, .slice o.w.T.ao o.w.T.la o.w.T.ca, .int .i64 o.w.warm, .string o.p.owner, .string o.p.node, .int .i64 o.p.phase, .int .i64 o.p.since, .int .i64 o.p.cpu, .int .i64 o.p.mem, .slice o.p.L.ao o.p.L.la o.p.L.ca, .slice o.p.S.ao o.p.S.la o.p.S.ca, .slice o.p.T.ao o.p.T.la o.p.T.ca, .int .i64 o.p.warm, .string o.n.group, .int .i64 o.n.cpu, .int .i64 o.n.mem, .slice o.n.L.ao o.n.L.la o.n.L.ca, .slice o.n.T.ao o.n.T.la o.n.T.ca, .int .i64 o.n.since, .bool o.n.closed, .int .i64 o.g.min, .int .i64 o.g.max, .int .i64 o.g.target, .int .i64 o.g.cpu, .int .i64 o.g.mem, .slice o.g.L.ao o.g.L.la o.g.L.ca, .slice o.g.T.ao o.g.T.la o.g.T.ca, .int .i64 o.g.prio, .string o.h.target, .int .i64 o.h.min, .int .i64 o.h.max, .slice o.h.M.ao o.h.M.la o.h.M.ca, .int .i64 o.h.tol, .int .i64 o.h.up.win, .int .i64 o.h.up.pick, .slice o.h.up.P.ao o.h.up.P.la o.h.up.P.ca, .int .i64 o.h.down.win, .int .i64 o.h.down.pick, .slice o.h.down.P.ao o.h.down.P.la o.h.down.P.ca, .slice o.h.past.ao o.h.past.la o.h.past.ca]) := RowAt.of_heap (t := 44) (fr := (0, 0)) (by rw [heap_alloc_new])
  have kk : (w.alloc (.cells #[.int .i64 2, .string nm, .int .u64 ver, .int .i64 o.w.rep, .int .i64 o.w.cpu, .int .i64 o.w.mem, .slice o.w.L.ao o.w.L.la o.w.L.ca, .slice o.w.S.ao o.w.S.la o.w.S.ca, .slice o.w.T.ao o.w.T.la o.w.T.ca, .int .i64 o.w.warm, .string o.p.owner, .string o.p.node, .int .i64 o.p.phase, .int .i64 o.p.since, .int .i64 o.p.cpu, .int .i64 o.p.mem, .slice o.p.L.ao o.p.L.la o.p.L.ca, .slice o.p.S.ao o.p.S.la o.p.S.ca, .slice o.p.T.ao o.p.T.la o.p.T.ca, .int .i64 o.p.warm, .string o.n.group, .int .i64 o.n.cpu, .int .i64 o.n.mem, .slice o.n.L.ao o.n.L.la o.n.L.ca, .slice o.n.T.ao o.n.T.la o.n.T.ca, .int .i64 o.n.since, .bool o.n.closed, .int .i64 o.g.min, .int .i64 o.g.max, .int .i64 o.g.target, .int .i64 o.g.cpu, .int .i64 o.g.mem, .slice o.g.L.ao o.g.L.la o.g.L.ca, .slice o.g.T.ao o.g.T.la o.g.T.ca, .int .i64 o.g.prio, .string o.h.target, .int .i64 o.h.min, .int .i64 o.h.max, .slice o.h.M.ao o.h.M.la o.h.M.ca, .int .i64 o.h.tol, .int .i64 o.h.up.win, .int .i64 o.h.up.pick, .slice o.h.up.P.ao o.h.up.P.la o.h.up.P.ca, .int .i64 o.h.down.win, .int .i64 o.h.down.pick, .slice o.h.down.P.ao o.h.down.P.la o.h.down.P.ca, .slice o.h.past.ao o.h.past.la o.h.past.ca] 44)).cell? ⟨w.heap.size, 0, none⟩ = some (.int .i64 2) := R.out 0 _ rfl
  generalize w.alloc (.cells #[.int .i64 2, .string nm, .int .u64 ver, .int .i64 o.w.rep, .int .i64 o.w.cpu, .int .i64 o.w.mem, .slice o.w.L.ao o.w.L.la o.w.L.ca, .slice o.w.S.ao o.w.S.la o.w.S.ca, .slice o.w.T.ao o.w.T.la o.w.T.ca, .int .i64 o.w.warm, .string o.p.owner, .string o.p.node, .int .i64 o.p.phase, .int .i64 o.p.since, .int .i64 o.p.cpu, .int .i64 o.p.mem, .slice o.p.L.ao o.p.L.la o.p.L.ca, .slice o.p.S.ao o.p.S.la o.p.S.ca, .slice o.p.T.ao o.p.T.la o.p.T.ca, .int .i64 o.p.warm, .string o.n.group, .int .i64 o.n.cpu, .int .i64 o.n.mem, .slice o.n.L.ao o.n.L.la o.n.L.ca, .slice o.n.T.ao o.n.T.la o.n.T.ca, .int .i64 o.n.since, .bool o.n.closed, .int .i64 o.g.min, .int .i64 o.g.max, .int .i64 o.g.target, .int .i64 o.g.cpu, .int .i64 o.g.mem, .slice o.g.L.ao o.g.L.la o.g.L.ca, .slice o.g.T.ao o.g.T.la o.g.T.ca, .int .i64 o.g.prio, .string o.h.target, .int .i64 o.h.min, .int .i64 o.h.max, .slice o.h.M.ao o.h.M.la o.h.M.ca, .int .i64 o.h.tol, .int .i64 o.h.up.win, .int .i64 o.h.up.pick, .slice o.h.up.P.ao o.h.up.P.la o.h.up.P.ca, .int .i64 o.h.down.win, .int .i64 o.h.down.pick, .slice o.h.down.P.ao o.h.down.P.la o.h.down.P.ca, .slice o.h.past.ao o.h.past.la o.h.past.ca] 44) = w1 at hb0 R kk ⊢
  generalize Value.agg #[.int .i64 2, .string nm, .int .u64 ver, .int .i64 o.w.rep, .int .i64 o.w.cpu, .int .i64 o.w.mem, .slice o.w.L.ao o.w.L.la o.w.L.ca, .slice o.w.S.ao o.w.S.la o.w.S.ca, .slice o.w.T.ao o.w.T.la o.w.T.ca, .int .i64 o.w.warm, .string o.p.owner, .string o.p.node, .int .i64 o.p.phase, .int .i64 o.p.since, .int .i64 o.p.cpu, .int .i64 o.p.mem, .slice o.p.L.ao o.p.L.la o.p.L.ca, .slice o.p.S.ao o.p.S.la o.p.S.ca, .slice o.p.T.ao o.p.T.la o.p.T.ca, .int .i64 o.p.warm, .string o.n.group, .int .i64 o.n.cpu, .int .i64 o.n.mem, .slice o.n.L.ao o.n.L.la o.n.L.ca, .slice o.n.T.ao o.n.T.la o.n.T.ca, .int .i64 o.n.since, .bool o.n.closed, .int .i64 o.g.min, .int .i64 o.g.max, .int .i64 o.g.target, .int .i64 o.g.cpu, .int .i64 o.g.mem, .slice o.g.L.ao o.g.L.la o.g.L.ca, .slice o.g.T.ao o.g.T.la o.g.T.ca, .int .i64 o.g.prio, .string o.h.target, .int .i64 o.h.min, .int .i64 o.h.max, .slice o.h.M.ao o.h.M.la o.h.M.ca, .int .i64 o.h.tol, .int .i64 o.h.up.win, .int .i64 o.h.up.pick, .slice o.h.up.P.ao o.h.up.P.la o.h.up.P.ca, .int .i64 o.h.down.win, .int .i64 o.h.down.pick, .slice o.h.down.P.ao o.h.down.P.la o.h.down.P.ca, .slice o.h.past.ao o.h.past.la o.h.past.ca] = v0
  have HS := Lib.hid (h.b hb0)
  have Hb := Lib.hid hb0
  obtain ⟨bo, hbo⟩ : ∃ n, w.heap.size = n := ⟨_, rfl⟩
  rw [hbo] at R kk ⊢
  clear h hb0 hbo
  have K0 := Lib.hid kk
  clear kk
  have hBlk : BlkOk (fun k => (bo, 0)) w1 [(0, [.int .i64 2, .string nm, .int .u64 ver, .int .i64 o.w.rep, .int .i64 o.w.cpu, .int .i64 o.w.mem, .slice o.w.L.ao o.w.L.la o.w.L.ca, .slice o.w.S.ao o.w.S.la o.w.S.ca, .slice o.w.T.ao o.w.T.la o.w.T.ca, .int .i64 o.w.warm, .string o.p.owner, .string o.p.node, .int .i64 o.p.phase, .int .i64 o.p.since, .int .i64 o.p.cpu, .int .i64 o.p.mem, .slice o.p.L.ao o.p.L.la o.p.L.ca, .slice o.p.S.ao o.p.S.la o.p.S.ca, .slice o.p.T.ao o.p.T.la o.p.T.ca, .int .i64 o.p.warm, .string o.n.group, .int .i64 o.n.cpu, .int .i64 o.n.mem, .slice o.n.L.ao o.n.L.la o.n.L.ca, .slice o.n.T.ao o.n.T.la o.n.T.ca, .int .i64 o.n.since, .bool o.n.closed, .int .i64 o.g.min, .int .i64 o.g.max, .int .i64 o.g.target, .int .i64 o.g.cpu, .int .i64 o.g.mem, .slice o.g.L.ao o.g.L.la o.g.L.ca, .slice o.g.T.ao o.g.T.la o.g.T.ca, .int .i64 o.g.prio, .string o.h.target, .int .i64 o.h.min, .int .i64 o.h.max, .slice o.h.M.ao o.h.M.la o.h.M.ca, .int .i64 o.h.tol, .int .i64 o.h.up.win, .int .i64 o.h.up.pick, .slice o.h.up.P.ao o.h.up.P.la o.h.up.P.ca, .int .i64 o.h.down.win, .int .i64 o.h.down.pick, .slice o.h.down.P.ao o.h.down.P.la o.h.down.P.ca, .slice o.h.past.ao o.h.past.la o.h.past.ca])] := (blk_cons (k := 0) R.out.from_ blk_nil)
  refine region_chain (N := 140) (Kept w1) (fun k => (bo, 0)) ⟨objSta, [(0, [.int .i64 2, .string nm, .int .u64 ver, .int .i64 o.w.rep, .int .i64 o.w.cpu, .int .i64 o.w.mem, .slice o.w.L.ao o.w.L.la o.w.L.ca, .slice o.w.S.ao o.w.S.la o.w.S.ca, .slice o.w.T.ao o.w.T.la o.w.T.ca, .int .i64 o.w.warm, .string o.p.owner, .string o.p.node, .int .i64 o.p.phase, .int .i64 o.p.since, .int .i64 o.p.cpu, .int .i64 o.p.mem, .slice o.p.L.ao o.p.L.la o.p.L.ca, .slice o.p.S.ao o.p.S.la o.p.S.ca, .slice o.p.T.ao o.p.T.la o.p.T.ca, .int .i64 o.p.warm, .string o.n.group, .int .i64 o.n.cpu, .int .i64 o.n.mem, .slice o.n.L.ao o.n.L.la o.n.L.ca, .slice o.n.T.ao o.n.T.la o.n.T.ca, .int .i64 o.n.since, .bool o.n.closed, .int .i64 o.g.min, .int .i64 o.g.max, .int .i64 o.g.target, .int .i64 o.g.cpu, .int .i64 o.g.mem, .slice o.g.L.ao o.g.L.la o.g.L.ca, .slice o.g.T.ao o.g.T.la o.g.T.ca, .int .i64 o.g.prio, .string o.h.target, .int .i64 o.h.min, .int .i64 o.h.max, .slice o.h.M.ao o.h.M.la o.h.M.ca, .int .i64 o.h.tol, .int .i64 o.h.up.win, .int .i64 o.h.up.pick, .slice o.h.up.P.ao o.h.up.P.la o.h.up.P.ca, .int .i64 o.h.down.win, .int .i64 o.h.down.pick, .slice o.h.down.P.ao o.h.down.P.la o.h.down.P.ca, .slice o.h.past.ao o.h.past.la o.h.past.ca])], [], []⟩ 4 (Kept.refl w1) (tab_ok objSta_ok hBlk)
    [(1, .ptr 0 0)] [(1, .ptr 0 0), (8, .val (.bool (decide (255 < (nm.size : Int)))))] [] rfl (by as_aux_lemma => kernel_rfl) (by as_aux_lemma => kernel_rfl) ?_ none (by as_aux_lemma => kernel_rfl) (fun f => [f 0, .pointer (some ⟨bo, 0, none⟩), f 2, f 3, f 4, f 5, f 6, f 7, .bool (decide (255 < (nm.size : Int))), f 9, f 10, f 11, f 12, f 13, f 14, f 15, f 16, f 17, f 18, f 19, f 20, f 21, f 22, f 23, f 24, f 25, f 26, f 27, f 28, f 29, f 30, f 31, f 32, f 33, f 34, f 35, f 36, f 37, f 38, f 39, f 40, f 41, f 42, f 43, f 44, f 45, f 46, f 47, f 48, f 49, f 50, f 51, f 52, f 53, f 54, f 55, f 56, f 57, f 58, f 59, f 60, f 61, f 62, f 63, f 64, f 65, f 66, f 67, f 68, f 69, f 70, f 71, f 72, f 73, f 74, f 75, f 76, f 77, f 78, f 79, f 80, f 81, f 82, f 83, f 84, f 85, f 86, f 87, f 88, f 89, f 90, f 91, f 92, f 93, f 94, f 95, f 96, f 97, f 98, f 99, f 100, f 101, f 102, f 103, f 104, f 105, f 106, f 107, f 108, f 109, f 110, f 111, f 112, f 113, f 114, f 115, f 116, f 117, f 118, f 119, f 120, f 121, f 122, f 123, f 124, f 125, f 126, f 127, f 128, f 129, f 130, f 131, f 132, f 133, f 134, f 135, f 136, f 137, f 138, f 139]) (fun f => by as_aux_lemma => kernel_rfl) ?_
  · clear hBlk
    exact ob_nil
  intro f w2 hb2
  clear hBlk
  simp only [List.drop_succ_cons, List.drop_zero]
  replace R := Lib.hid (RowAt.below hb2 rfl R.out)
  replace HS := Lib.hid (HS.out.b hb2)
  replace Hb := Lib.hid (Hb.out.trans (Below.mono hb2 Hb.out.size))
  have kk := Below.cell_some hb2 K0.out
  clear hb2 K0
  obtain ⟨c, hc⟩ : ∃ c : Bool, (decide (255 < (nm.size : Int))) = c := ⟨_, rfl⟩
  rw [hc] at HE ⊢
  clear hc
  cases c with
  | true =>
    go_wp2_with fail
    go_ret
    exact ⟨by rw [HE.out]; rfl, Hb.out⟩
  | false =>
    go_upto_region 9 with fail
    clear kk
    have hBlk : BlkOk (fun k => (bo, 0)) w2 [(0, [.int .i64 2, .string nm, .int .u64 ver, .int .i64 o.w.rep, .int .i64 o.w.cpu, .int .i64 o.w.mem, .slice o.w.L.ao o.w.L.la o.w.L.ca, .slice o.w.S.ao o.w.S.la o.w.S.ca, .slice o.w.T.ao o.w.T.la o.w.T.ca, .int .i64 o.w.warm, .string o.p.owner, .string o.p.node, .int .i64 o.p.phase, .int .i64 o.p.since, .int .i64 o.p.cpu, .int .i64 o.p.mem, .slice o.p.L.ao o.p.L.la o.p.L.ca, .slice o.p.S.ao o.p.S.la o.p.S.ca, .slice o.p.T.ao o.p.T.la o.p.T.ca, .int .i64 o.p.warm, .string o.n.group, .int .i64 o.n.cpu, .int .i64 o.n.mem, .slice o.n.L.ao o.n.L.la o.n.L.ca, .slice o.n.T.ao o.n.T.la o.n.T.ca, .int .i64 o.n.since, .bool o.n.closed, .int .i64 o.g.min, .int .i64 o.g.max, .int .i64 o.g.target, .int .i64 o.g.cpu, .int .i64 o.g.mem, .slice o.g.L.ao o.g.L.la o.g.L.ca, .slice o.g.T.ao o.g.T.la o.g.T.ca, .int .i64 o.g.prio, .string o.h.target, .int .i64 o.h.min, .int .i64 o.h.max, .slice o.h.M.ao o.h.M.la o.h.M.ca, .int .i64 o.h.tol, .int .i64 o.h.up.win, .int .i64 o.h.up.pick, .slice o.h.up.P.ao o.h.up.P.la o.h.up.P.ca, .int .i64 o.h.down.win, .int .i64 o.h.down.pick, .slice o.h.down.P.ao o.h.down.P.la o.h.down.P.ca, .slice o.h.past.ao o.h.past.la o.h.past.ca])] := (blk_cons (k := 0) R.out.from_ blk_nil)
    refine region_chain (N := 140) (Kept w2) (fun k => (bo, 0)) ⟨objSta, [(0, [.int .i64 2, .string nm, .int .u64 ver, .int .i64 o.w.rep, .int .i64 o.w.cpu, .int .i64 o.w.mem, .slice o.w.L.ao o.w.L.la o.w.L.ca, .slice o.w.S.ao o.w.S.la o.w.S.ca, .slice o.w.T.ao o.w.T.la o.w.T.ca, .int .i64 o.w.warm, .string o.p.owner, .string o.p.node, .int .i64 o.p.phase, .int .i64 o.p.since, .int .i64 o.p.cpu, .int .i64 o.p.mem, .slice o.p.L.ao o.p.L.la o.p.L.ca, .slice o.p.S.ao o.p.S.la o.p.S.ca, .slice o.p.T.ao o.p.T.la o.p.T.ca, .int .i64 o.p.warm, .string o.n.group, .int .i64 o.n.cpu, .int .i64 o.n.mem, .slice o.n.L.ao o.n.L.la o.n.L.ca, .slice o.n.T.ao o.n.T.la o.n.T.ca, .int .i64 o.n.since, .bool o.n.closed, .int .i64 o.g.min, .int .i64 o.g.max, .int .i64 o.g.target, .int .i64 o.g.cpu, .int .i64 o.g.mem, .slice o.g.L.ao o.g.L.la o.g.L.ca, .slice o.g.T.ao o.g.T.la o.g.T.ca, .int .i64 o.g.prio, .string o.h.target, .int .i64 o.h.min, .int .i64 o.h.max, .slice o.h.M.ao o.h.M.la o.h.M.ca, .int .i64 o.h.tol, .int .i64 o.h.up.win, .int .i64 o.h.up.pick, .slice o.h.up.P.ao o.h.up.P.la o.h.up.P.ca, .int .i64 o.h.down.win, .int .i64 o.h.down.pick, .slice o.h.down.P.ao o.h.down.P.la o.h.down.P.ca, .slice o.h.past.ao o.h.past.la o.h.past.ca])], [(72, .bool (shortL o.n.L.xs)), (78, .bool (shortL o.n.T.xs))], []⟩ 18 (Kept.refl w2) (tab_ok objSta_ok hBlk)
      [(1, .ptr 0 0)] [(2, .val (.bool (((decide ((o.n.group.size : Int) ≤ 255)) && (shortL o.n.L.xs)) && (shortL o.n.T.xs))))] [.call 30 [.val (.slice o.n.T.ao o.n.T.la o.n.T.ca)] (.bool (shortL o.n.T.xs)), .call 30 [.val (.slice o.n.L.ao o.n.L.la o.n.L.ca)] (.bool (shortL o.n.L.xs))] rfl (by as_aux_lemma => kernel_rfl) (by as_aux_lemma => kernel_rfl) ?_ none (by as_aux_lemma => kernel_rfl) (fun f3 => [f3 0, f3 1, .bool (((decide ((o.n.group.size : Int) ≤ 255)) && (shortL o.n.L.xs)) && (shortL o.n.T.xs)), f3 3, f3 4, f3 5, f3 6, f3 7, f3 8, f3 9, f3 10, f3 11, f3 12, f3 13, f3 14, f3 15, f3 16, f3 17, f3 18, f3 19, f3 20, f3 21, f3 22, f3 23, f3 24, f3 25, f3 26, f3 27, f3 28, f3 29, f3 30, f3 31, f3 32, f3 33, f3 34, f3 35, f3 36, f3 37, f3 38, f3 39, f3 40, f3 41, f3 42, f3 43, f3 44, f3 45, f3 46, f3 47, f3 48, f3 49, f3 50, f3 51, f3 52, f3 53, f3 54, f3 55, f3 56, f3 57, f3 58, f3 59, f3 60, f3 61, f3 62, f3 63, f3 64, f3 65, f3 66, f3 67, f3 68, f3 69, f3 70, f3 71, f3 72, f3 73, f3 74, f3 75, f3 76, f3 77, f3 78, f3 79, f3 80, f3 81, f3 82, f3 83, f3 84, f3 85, f3 86, f3 87, f3 88, f3 89, f3 90, f3 91, f3 92, f3 93, f3 94, f3 95, f3 96, f3 97, f3 98, f3 99, f3 100, f3 101, f3 102, f3 103, f3 104, f3 105, f3 106, f3 107, f3 108, f3 109, f3 110, f3 111, f3 112, f3 113, f3 114, f3 115, f3 116, f3 117, f3 118, f3 119, f3 120, f3 121, f3 122, f3 123, f3 124, f3 125, f3 126, f3 127, f3 128, f3 129, f3 130, f3 131, f3 132, f3 133, f3 134, f3 135, f3 136, f3 137, f3 138, f3 139]) (fun f3 => by as_aux_lemma => kernel_rfl) ?_
    · clear hBlk
      exact (ob_cons (ob_kept Try.func30 (by kernel_rfl) rfl fun w' hw' => shortL_any _ _ _ _ w' (HS.out.n.b hw').T) (ob_cons (ob_kept Try.func30 (by kernel_rfl) rfl fun w' hw' => shortL_any _ _ _ _ w' (HS.out.n.b hw').L) ob_nil))
    intro f3 w4 hb4
    clear hBlk
    simp only [List.drop_succ_cons, List.drop_zero]
    replace Hb := Lib.hid (Hb.out.trans (Below.mono hb4 Hb.out.size))
    clear hb4 R
    go_wp2_with fail
    go_ret
    exact ⟨by rw [HE.out]; rfl, Hb.out⟩

set_option maxRecDepth 100000 in
set_option maxHeartbeats 12800000 in
theorem short_g (nm : ByteArray) (ver : Int) (o : ShapesV) (w : World) (h : ShapesAt w o) :
    Calls Try.prog 10 #[.agg #[.int .i64 3, .string nm, .int .u64 ver, .int .i64 o.w.rep, .int .i64 o.w.cpu, .int .i64 o.w.mem, .slice o.w.L.ao o.w.L.la o.w.L.ca, .slice o.w.S.ao o.w.S.la o.w.S.ca, .slice o.w.T.ao o.w.T.la o.w.T.ca, .int .i64 o.w.warm, .string o.p.owner, .string o.p.node, .int .i64 o.p.phase, .int .i64 o.p.since, .int .i64 o.p.cpu, .int .i64 o.p.mem, .slice o.p.L.ao o.p.L.la o.p.L.ca, .slice o.p.S.ao o.p.S.la o.p.S.ca, .slice o.p.T.ao o.p.T.la o.p.T.ca, .int .i64 o.p.warm, .string o.n.group, .int .i64 o.n.cpu, .int .i64 o.n.mem, .slice o.n.L.ao o.n.L.la o.n.L.ca, .slice o.n.T.ao o.n.T.la o.n.T.ca, .int .i64 o.n.since, .bool o.n.closed, .int .i64 o.g.min, .int .i64 o.g.max, .int .i64 o.g.target, .int .i64 o.g.cpu, .int .i64 o.g.mem, .slice o.g.L.ao o.g.L.la o.g.L.ca, .slice o.g.T.ao o.g.T.la o.g.T.ca, .int .i64 o.g.prio, .string o.h.target, .int .i64 o.h.min, .int .i64 o.h.max, .slice o.h.M.ao o.h.M.la o.h.M.ca, .int .i64 o.h.tol, .int .i64 o.h.up.win, .int .i64 o.h.up.pick, .slice o.h.up.P.ao o.h.up.P.la o.h.up.P.ca, .int .i64 o.h.down.win, .int .i64 o.h.down.pick, .slice o.h.down.P.ao o.h.down.P.la o.h.down.P.ca, .slice o.h.past.ao o.h.past.la o.h.past.ca]] w fun e w' => e = .returned (.bool (shortO 3 nm o)) ∧ Below w.heap.size w w' := by
  have HE : Hid (shortO 3 nm o = (!(decide (255 < (nm.size : Int))) && ((shortL o.g.L.xs) && (shortL o.g.T.xs)))) := rfl
  obtain ⟨TOT, hTOT⟩ : ∃ t, shortO 3 nm o = t := ⟨_, rfl⟩
  rw [hTOT] at HE ⊢
  clear hTOT
  go_enter Try.func10, Try.ntmps10
  go_upto_region 1 with fail
  have hb0 : Below w.heap.size w (w.alloc (.cells #[.int .i64 3, .string nm, .int .u64 ver, .int .i64 o.w.rep, .int .i64 o.w.cpu, .int .i64 o.w.mem, .slice o.w.L.ao o.w.L.la o.w.L.ca, .slice o.w.S.ao o.w.S.la o.w.S.ca, .slice o.w.T.ao o.w.T.la o.w.T.ca, .int .i64 o.w.warm, .string o.p.owner, .string o.p.node, .int .i64 o.p.phase, .int .i64 o.p.since, .int .i64 o.p.cpu, .int .i64 o.p.mem, .slice o.p.L.ao o.p.L.la o.p.L.ca, .slice o.p.S.ao o.p.S.la o.p.S.ca, .slice o.p.T.ao o.p.T.la o.p.T.ca, .int .i64 o.p.warm, .string o.n.group, .int .i64 o.n.cpu, .int .i64 o.n.mem, .slice o.n.L.ao o.n.L.la o.n.L.ca, .slice o.n.T.ao o.n.T.la o.n.T.ca, .int .i64 o.n.since, .bool o.n.closed, .int .i64 o.g.min, .int .i64 o.g.max, .int .i64 o.g.target, .int .i64 o.g.cpu, .int .i64 o.g.mem, .slice o.g.L.ao o.g.L.la o.g.L.ca, .slice o.g.T.ao o.g.T.la o.g.T.ca, .int .i64 o.g.prio, .string o.h.target, .int .i64 o.h.min, .int .i64 o.h.max, .slice o.h.M.ao o.h.M.la o.h.M.ca, .int .i64 o.h.tol, .int .i64 o.h.up.win, .int .i64 o.h.up.pick, .slice o.h.up.P.ao o.h.up.P.la o.h.up.P.ca, .int .i64 o.h.down.win, .int .i64 o.h.down.pick, .slice o.h.down.P.ao o.h.down.P.la o.h.down.P.ca, .slice o.h.past.ao o.h.past.la o.h.past.ca] 44)) := (Below.refl w.heap.size w).alloc (Nat.le_refl _) _
  have R : Hid (RowAt (w.alloc (.cells #[.int .i64 3, .string nm, .int .u64 ver, .int .i64 o.w.rep, .int .i64 o.w.cpu, .int .i64 o.w.mem, .slice o.w.L.ao o.w.L.la o.w.L.ca, .slice o.w.S.ao o.w.S.la o.w.S.ca, .slice o.w.T.ao o.w.T.la o.w.T.ca, .int .i64 o.w.warm, .string o.p.owner, .string o.p.node, .int .i64 o.p.phase, .int .i64 o.p.since, .int .i64 o.p.cpu, .int .i64 o.p.mem, .slice o.p.L.ao o.p.L.la o.p.L.ca, .slice o.p.S.ao o.p.S.la o.p.S.ca, .slice o.p.T.ao o.p.T.la o.p.T.ca, .int .i64 o.p.warm, .string o.n.group, .int .i64 o.n.cpu, .int .i64 o.n.mem, .slice o.n.L.ao o.n.L.la o.n.L.ca, .slice o.n.T.ao o.n.T.la o.n.T.ca, .int .i64 o.n.since, .bool o.n.closed, .int .i64 o.g.min, .int .i64 o.g.max, .int .i64 o.g.target, .int .i64 o.g.cpu, .int .i64 o.g.mem, .slice o.g.L.ao o.g.L.la o.g.L.ca, .slice o.g.T.ao o.g.T.la o.g.T.ca, .int .i64 o.g.prio, .string o.h.target, .int .i64 o.h.min, .int .i64 o.h.max, .slice o.h.M.ao o.h.M.la o.h.M.ca, .int .i64 o.h.tol, .int .i64 o.h.up.win, .int .i64 o.h.up.pick, .slice o.h.up.P.ao o.h.up.P.la o.h.up.P.ca, .int .i64 o.h.down.win, .int .i64 o.h.down.pick, .slice o.h.down.P.ao o.h.down.P.la o.h.down.P.ca, .slice o.h.past.ao o.h.past.la o.h.past.ca] 44)) w.heap.size [.int .i64 3, .string nm, .int .u64 ver, .int .i64 o.w.rep, .int .i64 o.w.cpu, .int .i64 o.w.mem, .slice o.w.L.ao o.w.L.la o.w.L.ca, .slice o.w.S.ao o.w.S.la o.w.S.ca, .slice o.w.T.ao o.w.T.la o.w.T.ca, .int .i64 o.w.warm, .string o.p.owner, .string o.p.node, .int .i64 o.p.phase, .int .i64 o.p.since, .int .i64 o.p.cpu, .int .i64 o.p.mem, .slice o.p.L.ao o.p.L.la o.p.L.ca, .slice o.p.S.ao o.p.S.la o.p.S.ca, .slice o.p.T.ao o.p.T.la o.p.T.ca, .int .i64 o.p.warm, .string o.n.group, .int .i64 o.n.cpu, .int .i64 o.n.mem, .slice o.n.L.ao o.n.L.la o.n.L.ca, .slice o.n.T.ao o.n.T.la o.n.T.ca, .int .i64 o.n.since, .bool o.n.closed, .int .i64 o.g.min, .int .i64 o.g.max, .int .i64 o.g.target, .int .i64 o.g.cpu, .int .i64 o.g.mem, .slice o.g.L.ao o.g.L.la o.g.L.ca, .slice o.g.T.ao o.g.T.la o.g.T.ca, .int .i64 o.g.prio, .string o.h.target, .int .i64 o.h.min, .int .i64 o.h.max, .slice o.h.M.ao o.h.M.la o.h.M.ca, .int .i64 o.h.tol, .int .i64 o.h.up.win, .int .i64 o.h.up.pick, .slice o.h.up.P.ao o.h.up.P.la o.h.up.P.ca, .int .i64 o.h.down.win, .int .i64 o.h.down.pick, .slice o.h.down.P.ao o.h.down.P.la o.h.down.P.ca, .slice o.h.past.ao o.h.past.la o.h.past.ca]) := RowAt.of_heap (t := 44) (fr := (0, 0)) (by rw [heap_alloc_new])
  have kk : (w.alloc (.cells #[.int .i64 3, .string nm, .int .u64 ver, .int .i64 o.w.rep, .int .i64 o.w.cpu, .int .i64 o.w.mem, .slice o.w.L.ao o.w.L.la o.w.L.ca, .slice o.w.S.ao o.w.S.la o.w.S.ca, .slice o.w.T.ao o.w.T.la o.w.T.ca, .int .i64 o.w.warm, .string o.p.owner, .string o.p.node, .int .i64 o.p.phase, .int .i64 o.p.since, .int .i64 o.p.cpu, .int .i64 o.p.mem, .slice o.p.L.ao o.p.L.la o.p.L.ca, .slice o.p.S.ao o.p.S.la o.p.S.ca, .slice o.p.T.ao o.p.T.la o.p.T.ca, .int .i64 o.p.warm, .string o.n.group, .int .i64 o.n.cpu, .int .i64 o.n.mem, .slice o.n.L.ao o.n.L.la o.n.L.ca, .slice o.n.T.ao o.n.T.la o.n.T.ca, .int .i64 o.n.since, .bool o.n.closed, .int .i64 o.g.min, .int .i64 o.g.max, .int .i64 o.g.target, .int .i64 o.g.cpu, .int .i64 o.g.mem, .slice o.g.L.ao o.g.L.la o.g.L.ca, .slice o.g.T.ao o.g.T.la o.g.T.ca, .int .i64 o.g.prio, .string o.h.target, .int .i64 o.h.min, .int .i64 o.h.max, .slice o.h.M.ao o.h.M.la o.h.M.ca, .int .i64 o.h.tol, .int .i64 o.h.up.win, .int .i64 o.h.up.pick, .slice o.h.up.P.ao o.h.up.P.la o.h.up.P.ca, .int .i64 o.h.down.win, .int .i64 o.h.down.pick, .slice o.h.down.P.ao o.h.down.P.la o.h.down.P.ca, .slice o.h.past.ao o.h.past.la o.h.past.ca] 44)).cell? ⟨w.heap.size, 0, none⟩ = some (.int .i64 3) := R.out 0 _ rfl
  generalize w.alloc (.cells #[.int .i64 3, .string nm, .int .u64 ver, .int .i64 o.w.rep, .int .i64 o.w.cpu, .int .i64 o.w.mem, .slice o.w.L.ao o.w.L.la o.w.L.ca, .slice o.w.S.ao o.w.S.la o.w.S.ca, .slice o.w.T.ao o.w.T.la o.w.T.ca, .int .i64 o.w.warm, .string o.p.owner, .string o.p.node, .int .i64 o.p.phase, .int .i64 o.p.since, .int .i64 o.p.cpu, .int .i64 o.p.mem, .slice o.p.L.ao o.p.L.la o.p.L.ca, .slice o.p.S.ao o.p.S.la o.p.S.ca, .slice o.p.T.ao o.p.T.la o.p.T.ca, .int .i64 o.p.warm, .string o.n.group, .int .i64 o.n.cpu, .int .i64 o.n.mem, .slice o.n.L.ao o.n.L.la o.n.L.ca, .slice o.n.T.ao o.n.T.la o.n.T.ca, .int .i64 o.n.since, .bool o.n.closed, .int .i64 o.g.min, .int .i64 o.g.max, .int .i64 o.g.target, .int .i64 o.g.cpu, .int .i64 o.g.mem, .slice o.g.L.ao o.g.L.la o.g.L.ca, .slice o.g.T.ao o.g.T.la o.g.T.ca, .int .i64 o.g.prio, .string o.h.target, .int .i64 o.h.min, .int .i64 o.h.max, .slice o.h.M.ao o.h.M.la o.h.M.ca, .int .i64 o.h.tol, .int .i64 o.h.up.win, .int .i64 o.h.up.pick, .slice o.h.up.P.ao o.h.up.P.la o.h.up.P.ca, .int .i64 o.h.down.win, .int .i64 o.h.down.pick, .slice o.h.down.P.ao o.h.down.P.la o.h.down.P.ca, .slice o.h.past.ao o.h.past.la o.h.past.ca] 44) = w1 at hb0 R kk ⊢
  generalize Value.agg #[.int .i64 3, .string nm, .int .u64 ver, .int .i64 o.w.rep, .int .i64 o.w.cpu, .int .i64 o.w.mem, .slice o.w.L.ao o.w.L.la o.w.L.ca, .slice o.w.S.ao o.w.S.la o.w.S.ca, .slice o.w.T.ao o.w.T.la o.w.T.ca, .int .i64 o.w.warm, .string o.p.owner, .string o.p.node, .int .i64 o.p.phase, .int .i64 o.p.since, .int .i64 o.p.cpu, .int .i64 o.p.mem, .slice o.p.L.ao o.p.L.la o.p.L.ca, .slice o.p.S.ao o.p.S.la o.p.S.ca, .slice o.p.T.ao o.p.T.la o.p.T.ca, .int .i64 o.p.warm, .string o.n.group, .int .i64 o.n.cpu, .int .i64 o.n.mem, .slice o.n.L.ao o.n.L.la o.n.L.ca, .slice o.n.T.ao o.n.T.la o.n.T.ca, .int .i64 o.n.since, .bool o.n.closed, .int .i64 o.g.min, .int .i64 o.g.max, .int .i64 o.g.target, .int .i64 o.g.cpu, .int .i64 o.g.mem, .slice o.g.L.ao o.g.L.la o.g.L.ca, .slice o.g.T.ao o.g.T.la o.g.T.ca, .int .i64 o.g.prio, .string o.h.target, .int .i64 o.h.min, .int .i64 o.h.max, .slice o.h.M.ao o.h.M.la o.h.M.ca, .int .i64 o.h.tol, .int .i64 o.h.up.win, .int .i64 o.h.up.pick, .slice o.h.up.P.ao o.h.up.P.la o.h.up.P.ca, .int .i64 o.h.down.win, .int .i64 o.h.down.pick, .slice o.h.down.P.ao o.h.down.P.la o.h.down.P.ca, .slice o.h.past.ao o.h.past.la o.h.past.ca] = v0
  have HS := Lib.hid (h.b hb0)
  have Hb := Lib.hid hb0
  obtain ⟨bo, hbo⟩ : ∃ n, w.heap.size = n := ⟨_, rfl⟩
  rw [hbo] at R kk ⊢
  clear h hb0 hbo
  have K0 := Lib.hid kk
  clear kk
  have hBlk : BlkOk (fun k => (bo, 0)) w1 [(0, [.int .i64 3, .string nm, .int .u64 ver, .int .i64 o.w.rep, .int .i64 o.w.cpu, .int .i64 o.w.mem, .slice o.w.L.ao o.w.L.la o.w.L.ca, .slice o.w.S.ao o.w.S.la o.w.S.ca, .slice o.w.T.ao o.w.T.la o.w.T.ca, .int .i64 o.w.warm, .string o.p.owner, .string o.p.node, .int .i64 o.p.phase, .int .i64 o.p.since, .int .i64 o.p.cpu, .int .i64 o.p.mem, .slice o.p.L.ao o.p.L.la o.p.L.ca, .slice o.p.S.ao o.p.S.la o.p.S.ca, .slice o.p.T.ao o.p.T.la o.p.T.ca, .int .i64 o.p.warm, .string o.n.group, .int .i64 o.n.cpu, .int .i64 o.n.mem, .slice o.n.L.ao o.n.L.la o.n.L.ca, .slice o.n.T.ao o.n.T.la o.n.T.ca, .int .i64 o.n.since, .bool o.n.closed, .int .i64 o.g.min, .int .i64 o.g.max, .int .i64 o.g.target, .int .i64 o.g.cpu, .int .i64 o.g.mem, .slice o.g.L.ao o.g.L.la o.g.L.ca, .slice o.g.T.ao o.g.T.la o.g.T.ca, .int .i64 o.g.prio, .string o.h.target, .int .i64 o.h.min, .int .i64 o.h.max, .slice o.h.M.ao o.h.M.la o.h.M.ca, .int .i64 o.h.tol, .int .i64 o.h.up.win, .int .i64 o.h.up.pick, .slice o.h.up.P.ao o.h.up.P.la o.h.up.P.ca, .int .i64 o.h.down.win, .int .i64 o.h.down.pick, .slice o.h.down.P.ao o.h.down.P.la o.h.down.P.ca, .slice o.h.past.ao o.h.past.la o.h.past.ca])] := (blk_cons (k := 0) R.out.from_ blk_nil)
  refine region_chain (N := 140) (Kept w1) (fun k => (bo, 0)) ⟨objSta, [(0, [.int .i64 3, .string nm, .int .u64 ver, .int .i64 o.w.rep, .int .i64 o.w.cpu, .int .i64 o.w.mem, .slice o.w.L.ao o.w.L.la o.w.L.ca, .slice o.w.S.ao o.w.S.la o.w.S.ca, .slice o.w.T.ao o.w.T.la o.w.T.ca, .int .i64 o.w.warm, .string o.p.owner, .string o.p.node, .int .i64 o.p.phase, .int .i64 o.p.since, .int .i64 o.p.cpu, .int .i64 o.p.mem, .slice o.p.L.ao o.p.L.la o.p.L.ca, .slice o.p.S.ao o.p.S.la o.p.S.ca, .slice o.p.T.ao o.p.T.la o.p.T.ca, .int .i64 o.p.warm, .string o.n.group, .int .i64 o.n.cpu, .int .i64 o.n.mem, .slice o.n.L.ao o.n.L.la o.n.L.ca, .slice o.n.T.ao o.n.T.la o.n.T.ca, .int .i64 o.n.since, .bool o.n.closed, .int .i64 o.g.min, .int .i64 o.g.max, .int .i64 o.g.target, .int .i64 o.g.cpu, .int .i64 o.g.mem, .slice o.g.L.ao o.g.L.la o.g.L.ca, .slice o.g.T.ao o.g.T.la o.g.T.ca, .int .i64 o.g.prio, .string o.h.target, .int .i64 o.h.min, .int .i64 o.h.max, .slice o.h.M.ao o.h.M.la o.h.M.ca, .int .i64 o.h.tol, .int .i64 o.h.up.win, .int .i64 o.h.up.pick, .slice o.h.up.P.ao o.h.up.P.la o.h.up.P.ca, .int .i64 o.h.down.win, .int .i64 o.h.down.pick, .slice o.h.down.P.ao o.h.down.P.la o.h.down.P.ca, .slice o.h.past.ao o.h.past.la o.h.past.ca])], [], []⟩ 4 (Kept.refl w1) (tab_ok objSta_ok hBlk)
    [(1, .ptr 0 0)] [(1, .ptr 0 0), (8, .val (.bool (decide (255 < (nm.size : Int)))))] [] rfl (by as_aux_lemma => kernel_rfl) (by as_aux_lemma => kernel_rfl) ?_ none (by as_aux_lemma => kernel_rfl) (fun f => [f 0, .pointer (some ⟨bo, 0, none⟩), f 2, f 3, f 4, f 5, f 6, f 7, .bool (decide (255 < (nm.size : Int))), f 9, f 10, f 11, f 12, f 13, f 14, f 15, f 16, f 17, f 18, f 19, f 20, f 21, f 22, f 23, f 24, f 25, f 26, f 27, f 28, f 29, f 30, f 31, f 32, f 33, f 34, f 35, f 36, f 37, f 38, f 39, f 40, f 41, f 42, f 43, f 44, f 45, f 46, f 47, f 48, f 49, f 50, f 51, f 52, f 53, f 54, f 55, f 56, f 57, f 58, f 59, f 60, f 61, f 62, f 63, f 64, f 65, f 66, f 67, f 68, f 69, f 70, f 71, f 72, f 73, f 74, f 75, f 76, f 77, f 78, f 79, f 80, f 81, f 82, f 83, f 84, f 85, f 86, f 87, f 88, f 89, f 90, f 91, f 92, f 93, f 94, f 95, f 96, f 97, f 98, f 99, f 100, f 101, f 102, f 103, f 104, f 105, f 106, f 107, f 108, f 109, f 110, f 111, f 112, f 113, f 114, f 115, f 116, f 117, f 118, f 119, f 120, f 121, f 122, f 123, f 124, f 125, f 126, f 127, f 128, f 129, f 130, f 131, f 132, f 133, f 134, f 135, f 136, f 137, f 138, f 139]) (fun f => by as_aux_lemma => kernel_rfl) ?_
  · clear hBlk
    exact ob_nil
  intro f w2 hb2
  clear hBlk
  simp only [List.drop_succ_cons, List.drop_zero]
  replace R := Lib.hid (RowAt.below hb2 rfl R.out)
  replace HS := Lib.hid (HS.out.b hb2)
  replace Hb := Lib.hid (Hb.out.trans (Below.mono hb2 Hb.out.size))
  have kk := Below.cell_some hb2 K0.out
  clear hb2 K0
  obtain ⟨c, hc⟩ : ∃ c : Bool, (decide (255 < (nm.size : Int))) = c := ⟨_, rfl⟩
  rw [hc] at HE ⊢
  clear hc
  cases c with
  | true =>
    go_wp2_with fail
    go_ret
    exact ⟨by rw [HE.out]; rfl, Hb.out⟩
  | false =>
    go_upto_region 11 with fail
    clear kk
    have hBlk : BlkOk (fun k => (bo, 0)) w2 [(0, [.int .i64 3, .string nm, .int .u64 ver, .int .i64 o.w.rep, .int .i64 o.w.cpu, .int .i64 o.w.mem, .slice o.w.L.ao o.w.L.la o.w.L.ca, .slice o.w.S.ao o.w.S.la o.w.S.ca, .slice o.w.T.ao o.w.T.la o.w.T.ca, .int .i64 o.w.warm, .string o.p.owner, .string o.p.node, .int .i64 o.p.phase, .int .i64 o.p.since, .int .i64 o.p.cpu, .int .i64 o.p.mem, .slice o.p.L.ao o.p.L.la o.p.L.ca, .slice o.p.S.ao o.p.S.la o.p.S.ca, .slice o.p.T.ao o.p.T.la o.p.T.ca, .int .i64 o.p.warm, .string o.n.group, .int .i64 o.n.cpu, .int .i64 o.n.mem, .slice o.n.L.ao o.n.L.la o.n.L.ca, .slice o.n.T.ao o.n.T.la o.n.T.ca, .int .i64 o.n.since, .bool o.n.closed, .int .i64 o.g.min, .int .i64 o.g.max, .int .i64 o.g.target, .int .i64 o.g.cpu, .int .i64 o.g.mem, .slice o.g.L.ao o.g.L.la o.g.L.ca, .slice o.g.T.ao o.g.T.la o.g.T.ca, .int .i64 o.g.prio, .string o.h.target, .int .i64 o.h.min, .int .i64 o.h.max, .slice o.h.M.ao o.h.M.la o.h.M.ca, .int .i64 o.h.tol, .int .i64 o.h.up.win, .int .i64 o.h.up.pick, .slice o.h.up.P.ao o.h.up.P.la o.h.up.P.ca, .int .i64 o.h.down.win, .int .i64 o.h.down.pick, .slice o.h.down.P.ao o.h.down.P.la o.h.down.P.ca, .slice o.h.past.ao o.h.past.la o.h.past.ca])] := (blk_cons (k := 0) R.out.from_ blk_nil)
    refine region_chain (N := 140) (Kept w2) (fun k => (bo, 0)) ⟨objSta, [(0, [.int .i64 3, .string nm, .int .u64 ver, .int .i64 o.w.rep, .int .i64 o.w.cpu, .int .i64 o.w.mem, .slice o.w.L.ao o.w.L.la o.w.L.ca, .slice o.w.S.ao o.w.S.la o.w.S.ca, .slice o.w.T.ao o.w.T.la o.w.T.ca, .int .i64 o.w.warm, .string o.p.owner, .string o.p.node, .int .i64 o.p.phase, .int .i64 o.p.since, .int .i64 o.p.cpu, .int .i64 o.p.mem, .slice o.p.L.ao o.p.L.la o.p.L.ca, .slice o.p.S.ao o.p.S.la o.p.S.ca, .slice o.p.T.ao o.p.T.la o.p.T.ca, .int .i64 o.p.warm, .string o.n.group, .int .i64 o.n.cpu, .int .i64 o.n.mem, .slice o.n.L.ao o.n.L.la o.n.L.ca, .slice o.n.T.ao o.n.T.la o.n.T.ca, .int .i64 o.n.since, .bool o.n.closed, .int .i64 o.g.min, .int .i64 o.g.max, .int .i64 o.g.target, .int .i64 o.g.cpu, .int .i64 o.g.mem, .slice o.g.L.ao o.g.L.la o.g.L.ca, .slice o.g.T.ao o.g.T.la o.g.T.ca, .int .i64 o.g.prio, .string o.h.target, .int .i64 o.h.min, .int .i64 o.h.max, .slice o.h.M.ao o.h.M.la o.h.M.ca, .int .i64 o.h.tol, .int .i64 o.h.up.win, .int .i64 o.h.up.pick, .slice o.h.up.P.ao o.h.up.P.la o.h.up.P.ca, .int .i64 o.h.down.win, .int .i64 o.h.down.pick, .slice o.h.down.P.ao o.h.down.P.la o.h.down.P.ca, .slice o.h.past.ao o.h.past.la o.h.past.ca])], [(85, .bool (shortL o.g.L.xs)), (90, .bool (shortL o.g.T.xs))], []⟩ 11 (Kept.refl w2) (tab_ok objSta_ok hBlk)
      [(1, .ptr 0 0)] [(2, .val (.bool ((shortL o.g.L.xs) && (shortL o.g.T.xs))))] [.call 30 [.val (.slice o.g.T.ao o.g.T.la o.g.T.ca)] (.bool (shortL o.g.T.xs)), .call 30 [.val (.slice o.g.L.ao o.g.L.la o.g.L.ca)] (.bool (shortL o.g.L.xs))] rfl (by as_aux_lemma => kernel_rfl) (by as_aux_lemma => kernel_rfl) ?_ none (by as_aux_lemma => kernel_rfl) (fun f3 => [f3 0, f3 1, .bool ((shortL o.g.L.xs) && (shortL o.g.T.xs)), f3 3, f3 4, f3 5, f3 6, f3 7, f3 8, f3 9, f3 10, f3 11, f3 12, f3 13, f3 14, f3 15, f3 16, f3 17, f3 18, f3 19, f3 20, f3 21, f3 22, f3 23, f3 24, f3 25, f3 26, f3 27, f3 28, f3 29, f3 30, f3 31, f3 32, f3 33, f3 34, f3 35, f3 36, f3 37, f3 38, f3 39, f3 40, f3 41, f3 42, f3 43, f3 44, f3 45, f3 46, f3 47, f3 48, f3 49, f3 50, f3 51, f3 52, f3 53, f3 54, f3 55, f3 56, f3 57, f3 58, f3 59, f3 60, f3 61, f3 62, f3 63, f3 64, f3 65, f3 66, f3 67, f3 68, f3 69, f3 70, f3 71, f3 72, f3 73, f3 74, f3 75, f3 76, f3 77, f3 78, f3 79, f3 80, f3 81, f3 82, f3 83, f3 84, f3 85, f3 86, f3 87, f3 88, f3 89, f3 90, f3 91, f3 92, f3 93, f3 94, f3 95, f3 96, f3 97, f3 98, f3 99, f3 100, f3 101, f3 102, f3 103, f3 104, f3 105, f3 106, f3 107, f3 108, f3 109, f3 110, f3 111, f3 112, f3 113, f3 114, f3 115, f3 116, f3 117, f3 118, f3 119, f3 120, f3 121, f3 122, f3 123, f3 124, f3 125, f3 126, f3 127, f3 128, f3 129, f3 130, f3 131, f3 132, f3 133, f3 134, f3 135, f3 136, f3 137, f3 138, f3 139]) (fun f3 => by as_aux_lemma => kernel_rfl) ?_
    · clear hBlk
      exact (ob_cons (ob_kept Try.func30 (by kernel_rfl) rfl fun w' hw' => shortL_any _ _ _ _ w' (HS.out.g.b hw').T) (ob_cons (ob_kept Try.func30 (by kernel_rfl) rfl fun w' hw' => shortL_any _ _ _ _ w' (HS.out.g.b hw').L) ob_nil))
    intro f3 w4 hb4
    clear hBlk
    simp only [List.drop_succ_cons, List.drop_zero]
    replace Hb := Lib.hid (Hb.out.trans (Below.mono hb4 Hb.out.size))
    clear hb4 R
    go_wp2_with fail
    go_ret
    exact ⟨by rw [HE.out]; rfl, Hb.out⟩

set_option maxRecDepth 100000 in
set_option maxHeartbeats 12800000 in
theorem short_h (kd : Int) (hk : kd ≠ 0 ∧ kd ≠ 1 ∧ kd ≠ 2 ∧ kd ≠ 3) (nm : ByteArray) (ver : Int) (o : ShapesV) (w : World) (h : ShapesAt w o) :
    Calls Try.prog 10 #[.agg #[.int .i64 kd, .string nm, .int .u64 ver, .int .i64 o.w.rep, .int .i64 o.w.cpu, .int .i64 o.w.mem, .slice o.w.L.ao o.w.L.la o.w.L.ca, .slice o.w.S.ao o.w.S.la o.w.S.ca, .slice o.w.T.ao o.w.T.la o.w.T.ca, .int .i64 o.w.warm, .string o.p.owner, .string o.p.node, .int .i64 o.p.phase, .int .i64 o.p.since, .int .i64 o.p.cpu, .int .i64 o.p.mem, .slice o.p.L.ao o.p.L.la o.p.L.ca, .slice o.p.S.ao o.p.S.la o.p.S.ca, .slice o.p.T.ao o.p.T.la o.p.T.ca, .int .i64 o.p.warm, .string o.n.group, .int .i64 o.n.cpu, .int .i64 o.n.mem, .slice o.n.L.ao o.n.L.la o.n.L.ca, .slice o.n.T.ao o.n.T.la o.n.T.ca, .int .i64 o.n.since, .bool o.n.closed, .int .i64 o.g.min, .int .i64 o.g.max, .int .i64 o.g.target, .int .i64 o.g.cpu, .int .i64 o.g.mem, .slice o.g.L.ao o.g.L.la o.g.L.ca, .slice o.g.T.ao o.g.T.la o.g.T.ca, .int .i64 o.g.prio, .string o.h.target, .int .i64 o.h.min, .int .i64 o.h.max, .slice o.h.M.ao o.h.M.la o.h.M.ca, .int .i64 o.h.tol, .int .i64 o.h.up.win, .int .i64 o.h.up.pick, .slice o.h.up.P.ao o.h.up.P.la o.h.up.P.ca, .int .i64 o.h.down.win, .int .i64 o.h.down.pick, .slice o.h.down.P.ao o.h.down.P.la o.h.down.P.ca, .slice o.h.past.ao o.h.past.la o.h.past.ca]] w fun e w' => e = .returned (.bool (shortO kd nm o)) ∧ Below w.heap.size w w' := by
  have q0 : (kd == 0) = false := by simpa using hk.1
  have q1 : (kd == 1) = false := by simpa using hk.2.1
  have q2 : (kd == 2) = false := by simpa using hk.2.2.1
  have q3 : (kd == 3) = false := by simpa using hk.2.2.2
  have HE : Hid (shortO kd nm o = (!(decide (255 < (nm.size : Int))) && ((o.h.M.xs.drop 0).all (fun x => !(longM x)) && (((((decide ((o.h.target.size : Int) ≤ 255)) && (decide ((o.h.M.la : Int) ≤ 255))) && (decide ((o.h.past.la : Int) ≤ 255))) && (decide ((o.h.up.P.la : Int) ≤ 255))) && (decide ((o.h.down.P.la : Int) ≤ 255)))))) := by
    show _ = _
    unfold shortO shortK
    rw [if_neg hk.1, if_neg hk.2.1, if_neg hk.2.2.1, if_neg hk.2.2.2]
    rfl
  clear hk
  obtain ⟨TOT, hTOT⟩ : ∃ t, shortO kd nm o = t := ⟨_, rfl⟩
  rw [hTOT] at HE ⊢
  clear hTOT
  go_enter Try.func10, Try.ntmps10
  go_upto_region 1 with fail
  have hb0 : Below w.heap.size w (w.alloc (.cells #[.int .i64 kd, .string nm, .int .u64 ver, .int .i64 o.w.rep, .int .i64 o.w.cpu, .int .i64 o.w.mem, .slice o.w.L.ao o.w.L.la o.w.L.ca, .slice o.w.S.ao o.w.S.la o.w.S.ca, .slice o.w.T.ao o.w.T.la o.w.T.ca, .int .i64 o.w.warm, .string o.p.owner, .string o.p.node, .int .i64 o.p.phase, .int .i64 o.p.since, .int .i64 o.p.cpu, .int .i64 o.p.mem, .slice o.p.L.ao o.p.L.la o.p.L.ca, .slice o.p.S.ao o.p.S.la o.p.S.ca, .slice o.p.T.ao o.p.T.la o.p.T.ca, .int .i64 o.p.warm, .string o.n.group, .int .i64 o.n.cpu, .int .i64 o.n.mem, .slice o.n.L.ao o.n.L.la o.n.L.ca, .slice o.n.T.ao o.n.T.la o.n.T.ca, .int .i64 o.n.since, .bool o.n.closed, .int .i64 o.g.min, .int .i64 o.g.max, .int .i64 o.g.target, .int .i64 o.g.cpu, .int .i64 o.g.mem, .slice o.g.L.ao o.g.L.la o.g.L.ca, .slice o.g.T.ao o.g.T.la o.g.T.ca, .int .i64 o.g.prio, .string o.h.target, .int .i64 o.h.min, .int .i64 o.h.max, .slice o.h.M.ao o.h.M.la o.h.M.ca, .int .i64 o.h.tol, .int .i64 o.h.up.win, .int .i64 o.h.up.pick, .slice o.h.up.P.ao o.h.up.P.la o.h.up.P.ca, .int .i64 o.h.down.win, .int .i64 o.h.down.pick, .slice o.h.down.P.ao o.h.down.P.la o.h.down.P.ca, .slice o.h.past.ao o.h.past.la o.h.past.ca] 44)) := (Below.refl w.heap.size w).alloc (Nat.le_refl _) _
  have R : Hid (RowAt (w.alloc (.cells #[.int .i64 kd, .string nm, .int .u64 ver, .int .i64 o.w.rep, .int .i64 o.w.cpu, .int .i64 o.w.mem, .slice o.w.L.ao o.w.L.la o.w.L.ca, .slice o.w.S.ao o.w.S.la o.w.S.ca, .slice o.w.T.ao o.w.T.la o.w.T.ca, .int .i64 o.w.warm, .string o.p.owner, .string o.p.node, .int .i64 o.p.phase, .int .i64 o.p.since, .int .i64 o.p.cpu, .int .i64 o.p.mem, .slice o.p.L.ao o.p.L.la o.p.L.ca, .slice o.p.S.ao o.p.S.la o.p.S.ca, .slice o.p.T.ao o.p.T.la o.p.T.ca, .int .i64 o.p.warm, .string o.n.group, .int .i64 o.n.cpu, .int .i64 o.n.mem, .slice o.n.L.ao o.n.L.la o.n.L.ca, .slice o.n.T.ao o.n.T.la o.n.T.ca, .int .i64 o.n.since, .bool o.n.closed, .int .i64 o.g.min, .int .i64 o.g.max, .int .i64 o.g.target, .int .i64 o.g.cpu, .int .i64 o.g.mem, .slice o.g.L.ao o.g.L.la o.g.L.ca, .slice o.g.T.ao o.g.T.la o.g.T.ca, .int .i64 o.g.prio, .string o.h.target, .int .i64 o.h.min, .int .i64 o.h.max, .slice o.h.M.ao o.h.M.la o.h.M.ca, .int .i64 o.h.tol, .int .i64 o.h.up.win, .int .i64 o.h.up.pick, .slice o.h.up.P.ao o.h.up.P.la o.h.up.P.ca, .int .i64 o.h.down.win, .int .i64 o.h.down.pick, .slice o.h.down.P.ao o.h.down.P.la o.h.down.P.ca, .slice o.h.past.ao o.h.past.la o.h.past.ca] 44)) w.heap.size [.int .i64 kd, .string nm, .int .u64 ver, .int .i64 o.w.rep, .int .i64 o.w.cpu, .int .i64 o.w.mem, .slice o.w.L.ao o.w.L.la o.w.L.ca, .slice o.w.S.ao o.w.S.la o.w.S.ca, .slice o.w.T.ao o.w.T.la o.w.T.ca, .int .i64 o.w.warm, .string o.p.owner, .string o.p.node, .int .i64 o.p.phase, .int .i64 o.p.since, .int .i64 o.p.cpu, .int .i64 o.p.mem, .slice o.p.L.ao o.p.L.la o.p.L.ca, .slice o.p.S.ao o.p.S.la o.p.S.ca, .slice o.p.T.ao o.p.T.la o.p.T.ca, .int .i64 o.p.warm, .string o.n.group, .int .i64 o.n.cpu, .int .i64 o.n.mem, .slice o.n.L.ao o.n.L.la o.n.L.ca, .slice o.n.T.ao o.n.T.la o.n.T.ca, .int .i64 o.n.since, .bool o.n.closed, .int .i64 o.g.min, .int .i64 o.g.max, .int .i64 o.g.target, .int .i64 o.g.cpu, .int .i64 o.g.mem, .slice o.g.L.ao o.g.L.la o.g.L.ca, .slice o.g.T.ao o.g.T.la o.g.T.ca, .int .i64 o.g.prio, .string o.h.target, .int .i64 o.h.min, .int .i64 o.h.max, .slice o.h.M.ao o.h.M.la o.h.M.ca, .int .i64 o.h.tol, .int .i64 o.h.up.win, .int .i64 o.h.up.pick, .slice o.h.up.P.ao o.h.up.P.la o.h.up.P.ca, .int .i64 o.h.down.win, .int .i64 o.h.down.pick, .slice o.h.down.P.ao o.h.down.P.la o.h.down.P.ca, .slice o.h.past.ao o.h.past.la o.h.past.ca]) := RowAt.of_heap (t := 44) (fr := (0, 0)) (by rw [heap_alloc_new])
  have kk : (w.alloc (.cells #[.int .i64 kd, .string nm, .int .u64 ver, .int .i64 o.w.rep, .int .i64 o.w.cpu, .int .i64 o.w.mem, .slice o.w.L.ao o.w.L.la o.w.L.ca, .slice o.w.S.ao o.w.S.la o.w.S.ca, .slice o.w.T.ao o.w.T.la o.w.T.ca, .int .i64 o.w.warm, .string o.p.owner, .string o.p.node, .int .i64 o.p.phase, .int .i64 o.p.since, .int .i64 o.p.cpu, .int .i64 o.p.mem, .slice o.p.L.ao o.p.L.la o.p.L.ca, .slice o.p.S.ao o.p.S.la o.p.S.ca, .slice o.p.T.ao o.p.T.la o.p.T.ca, .int .i64 o.p.warm, .string o.n.group, .int .i64 o.n.cpu, .int .i64 o.n.mem, .slice o.n.L.ao o.n.L.la o.n.L.ca, .slice o.n.T.ao o.n.T.la o.n.T.ca, .int .i64 o.n.since, .bool o.n.closed, .int .i64 o.g.min, .int .i64 o.g.max, .int .i64 o.g.target, .int .i64 o.g.cpu, .int .i64 o.g.mem, .slice o.g.L.ao o.g.L.la o.g.L.ca, .slice o.g.T.ao o.g.T.la o.g.T.ca, .int .i64 o.g.prio, .string o.h.target, .int .i64 o.h.min, .int .i64 o.h.max, .slice o.h.M.ao o.h.M.la o.h.M.ca, .int .i64 o.h.tol, .int .i64 o.h.up.win, .int .i64 o.h.up.pick, .slice o.h.up.P.ao o.h.up.P.la o.h.up.P.ca, .int .i64 o.h.down.win, .int .i64 o.h.down.pick, .slice o.h.down.P.ao o.h.down.P.la o.h.down.P.ca, .slice o.h.past.ao o.h.past.la o.h.past.ca] 44)).cell? ⟨w.heap.size, 0, none⟩ = some (.int .i64 kd) := R.out 0 _ rfl
  generalize w.alloc (.cells #[.int .i64 kd, .string nm, .int .u64 ver, .int .i64 o.w.rep, .int .i64 o.w.cpu, .int .i64 o.w.mem, .slice o.w.L.ao o.w.L.la o.w.L.ca, .slice o.w.S.ao o.w.S.la o.w.S.ca, .slice o.w.T.ao o.w.T.la o.w.T.ca, .int .i64 o.w.warm, .string o.p.owner, .string o.p.node, .int .i64 o.p.phase, .int .i64 o.p.since, .int .i64 o.p.cpu, .int .i64 o.p.mem, .slice o.p.L.ao o.p.L.la o.p.L.ca, .slice o.p.S.ao o.p.S.la o.p.S.ca, .slice o.p.T.ao o.p.T.la o.p.T.ca, .int .i64 o.p.warm, .string o.n.group, .int .i64 o.n.cpu, .int .i64 o.n.mem, .slice o.n.L.ao o.n.L.la o.n.L.ca, .slice o.n.T.ao o.n.T.la o.n.T.ca, .int .i64 o.n.since, .bool o.n.closed, .int .i64 o.g.min, .int .i64 o.g.max, .int .i64 o.g.target, .int .i64 o.g.cpu, .int .i64 o.g.mem, .slice o.g.L.ao o.g.L.la o.g.L.ca, .slice o.g.T.ao o.g.T.la o.g.T.ca, .int .i64 o.g.prio, .string o.h.target, .int .i64 o.h.min, .int .i64 o.h.max, .slice o.h.M.ao o.h.M.la o.h.M.ca, .int .i64 o.h.tol, .int .i64 o.h.up.win, .int .i64 o.h.up.pick, .slice o.h.up.P.ao o.h.up.P.la o.h.up.P.ca, .int .i64 o.h.down.win, .int .i64 o.h.down.pick, .slice o.h.down.P.ao o.h.down.P.la o.h.down.P.ca, .slice o.h.past.ao o.h.past.la o.h.past.ca] 44) = w1 at hb0 R kk ⊢
  generalize Value.agg #[.int .i64 kd, .string nm, .int .u64 ver, .int .i64 o.w.rep, .int .i64 o.w.cpu, .int .i64 o.w.mem, .slice o.w.L.ao o.w.L.la o.w.L.ca, .slice o.w.S.ao o.w.S.la o.w.S.ca, .slice o.w.T.ao o.w.T.la o.w.T.ca, .int .i64 o.w.warm, .string o.p.owner, .string o.p.node, .int .i64 o.p.phase, .int .i64 o.p.since, .int .i64 o.p.cpu, .int .i64 o.p.mem, .slice o.p.L.ao o.p.L.la o.p.L.ca, .slice o.p.S.ao o.p.S.la o.p.S.ca, .slice o.p.T.ao o.p.T.la o.p.T.ca, .int .i64 o.p.warm, .string o.n.group, .int .i64 o.n.cpu, .int .i64 o.n.mem, .slice o.n.L.ao o.n.L.la o.n.L.ca, .slice o.n.T.ao o.n.T.la o.n.T.ca, .int .i64 o.n.since, .bool o.n.closed, .int .i64 o.g.min, .int .i64 o.g.max, .int .i64 o.g.target, .int .i64 o.g.cpu, .int .i64 o.g.mem, .slice o.g.L.ao o.g.L.la o.g.L.ca, .slice o.g.T.ao o.g.T.la o.g.T.ca, .int .i64 o.g.prio, .string o.h.target, .int .i64 o.h.min, .int .i64 o.h.max, .slice o.h.M.ao o.h.M.la o.h.M.ca, .int .i64 o.h.tol, .int .i64 o.h.up.win, .int .i64 o.h.up.pick, .slice o.h.up.P.ao o.h.up.P.la o.h.up.P.ca, .int .i64 o.h.down.win, .int .i64 o.h.down.pick, .slice o.h.down.P.ao o.h.down.P.la o.h.down.P.ca, .slice o.h.past.ao o.h.past.la o.h.past.ca] = v0
  have HS := Lib.hid (h.b hb0)
  have Hb := Lib.hid hb0
  obtain ⟨bo, hbo⟩ : ∃ n, w.heap.size = n := ⟨_, rfl⟩
  rw [hbo] at R kk ⊢
  clear h hb0 hbo
  have K0 := Lib.hid kk
  clear kk
  have hBlk : BlkOk (fun k => (bo, 0)) w1 [(0, [.int .i64 kd, .string nm, .int .u64 ver, .int .i64 o.w.rep, .int .i64 o.w.cpu, .int .i64 o.w.mem, .slice o.w.L.ao o.w.L.la o.w.L.ca, .slice o.w.S.ao o.w.S.la o.w.S.ca, .slice o.w.T.ao o.w.T.la o.w.T.ca, .int .i64 o.w.warm, .string o.p.owner, .string o.p.node, .int .i64 o.p.phase, .int .i64 o.p.since, .int .i64 o.p.cpu, .int .i64 o.p.mem, .slice o.p.L.ao o.p.L.la o.p.L.ca, .slice o.p.S.ao o.p.S.la o.p.S.ca, .slice o.p.T.ao o.p.T.la o.p.T.ca, .int .i64 o.p.warm, .string o.n.group, .int .i64 o.n.cpu, .int .i64 o.n.mem, .slice o.n.L.ao o.n.L.la o.n.L.ca, .slice o.n.T.ao o.n.T.la o.n.T.ca, .int .i64 o.n.since, .bool o.n.closed, .int .i64 o.g.min, .int .i64 o.g.max, .int .i64 o.g.target, .int .i64 o.g.cpu, .int .i64 o.g.mem, .slice o.g.L.ao o.g.L.la o.g.L.ca, .slice o.g.T.ao o.g.T.la o.g.T.ca, .int .i64 o.g.prio, .string o.h.target, .int .i64 o.h.min, .int .i64 o.h.max, .slice o.h.M.ao o.h.M.la o.h.M.ca, .int .i64 o.h.tol, .int .i64 o.h.up.win, .int .i64 o.h.up.pick, .slice o.h.up.P.ao o.h.up.P.la o.h.up.P.ca, .int .i64 o.h.down.win, .int .i64 o.h.down.pick, .slice o.h.down.P.ao o.h.down.P.la o.h.down.P.ca, .slice o.h.past.ao o.h.past.la o.h.past.ca])] := (blk_cons (k := 0) R.out.from_ blk_nil)
  refine region_chain (N := 140) (Kept w1) (fun k => (bo, 0)) ⟨objSta, [(0, [.int .i64 kd, .string nm, .int .u64 ver, .int .i64 o.w.rep, .int .i64 o.w.cpu, .int .i64 o.w.mem, .slice o.w.L.ao o.w.L.la o.w.L.ca, .slice o.w.S.ao o.w.S.la o.w.S.ca, .slice o.w.T.ao o.w.T.la o.w.T.ca, .int .i64 o.w.warm, .string o.p.owner, .string o.p.node, .int .i64 o.p.phase, .int .i64 o.p.since, .int .i64 o.p.cpu, .int .i64 o.p.mem, .slice o.p.L.ao o.p.L.la o.p.L.ca, .slice o.p.S.ao o.p.S.la o.p.S.ca, .slice o.p.T.ao o.p.T.la o.p.T.ca, .int .i64 o.p.warm, .string o.n.group, .int .i64 o.n.cpu, .int .i64 o.n.mem, .slice o.n.L.ao o.n.L.la o.n.L.ca, .slice o.n.T.ao o.n.T.la o.n.T.ca, .int .i64 o.n.since, .bool o.n.closed, .int .i64 o.g.min, .int .i64 o.g.max, .int .i64 o.g.target, .int .i64 o.g.cpu, .int .i64 o.g.mem, .slice o.g.L.ao o.g.L.la o.g.L.ca, .slice o.g.T.ao o.g.T.la o.g.T.ca, .int .i64 o.g.prio, .string o.h.target, .int .i64 o.h.min, .int .i64 o.h.max, .slice o.h.M.ao o.h.M.la o.h.M.ca, .int .i64 o.h.tol, .int .i64 o.h.up.win, .int .i64 o.h.up.pick, .slice o.h.up.P.ao o.h.up.P.la o.h.up.P.ca, .int .i64 o.h.down.win, .int .i64 o.h.down.pick, .slice o.h.down.P.ao o.h.down.P.la o.h.down.P.ca, .slice o.h.past.ao o.h.past.la o.h.past.ca])], [], []⟩ 4 (Kept.refl w1) (tab_ok objSta_ok hBlk)
    [(1, .ptr 0 0)] [(1, .ptr 0 0), (8, .val (.bool (decide (255 < (nm.size : Int)))))] [] rfl (by as_aux_lemma => kernel_rfl) (by as_aux_lemma => kernel_rfl) ?_ none (by as_aux_lemma => kernel_rfl) (fun f => [f 0, .pointer (some ⟨bo, 0, none⟩), f 2, f 3, f 4, f 5, f 6, f 7, .bool (decide (255 < (nm.size : Int))), f 9, f 10, f 11, f 12, f 13, f 14, f 15, f 16, f 17, f 18, f 19, f 20, f 21, f 22, f 23, f 24, f 25, f 26, f 27, f 28, f 29, f 30, f 31, f 32, f 33, f 34, f 35, f 36, f 37, f 38, f 39, f 40, f 41, f 42, f 43, f 44, f 45, f 46, f 47, f 48, f 49, f 50, f 51, f 52, f 53, f 54, f 55, f 56, f 57, f 58, f 59, f 60, f 61, f 62, f 63, f 64, f 65, f 66, f 67, f 68, f 69, f 70, f 71, f 72, f 73, f 74, f 75, f 76, f 77, f 78, f 79, f 80, f 81, f 82, f 83, f 84, f 85, f 86, f 87, f 88, f 89, f 90, f 91, f 92, f 93, f 94, f 95, f 96, f 97, f 98, f 99, f 100, f 101, f 102, f 103, f 104, f 105, f 106, f 107, f 108, f 109, f 110, f 111, f 112, f 113, f 114, f 115, f 116, f 117, f 118, f 119, f 120, f 121, f 122, f 123, f 124, f 125, f 126, f 127, f 128, f 129, f 130, f 131, f 132, f 133, f 134, f 135, f 136, f 137, f 138, f 139]) (fun f => by as_aux_lemma => kernel_rfl) ?_
  · clear hBlk
    exact ob_nil
  intro f w2 hb2
  clear hBlk
  simp only [List.drop_succ_cons, List.drop_zero]
  replace R := Lib.hid (RowAt.below hb2 rfl R.out)
  replace HS := Lib.hid (HS.out.b hb2)
  replace Hb := Lib.hid (Hb.out.trans (Below.mono hb2 Hb.out.size))
  have kk := Below.cell_some hb2 K0.out
  clear hb2 K0
  obtain ⟨c, hc⟩ : ∃ c : Bool, (decide (255 < (nm.size : Int))) = c := ⟨_, rfl⟩
  rw [hc] at HE ⊢
  clear hc
  cases c with
  | true =>
    go_wp2_with fail
    go_ret
    exact ⟨by rw [HE.out]; rfl, Hb.out⟩
  | false =>
    go_upto_region 12 with fail
    clear kk
    have hBlk : BlkOk (fun k => (bo, 0)) w2 [(0, [.int .i64 kd, .string nm, .int .u64 ver, .int .i64 o.w.rep, .int .i64 o.w.cpu, .int .i64 o.w.mem, .slice o.w.L.ao o.w.L.la o.w.L.ca, .slice o.w.S.ao o.w.S.la o.w.S.ca, .slice o.w.T.ao o.w.T.la o.w.T.ca, .int .i64 o.w.warm, .string o.p.owner, .string o.p.node, .int .i64 o.p.phase, .int .i64 o.p.since, .int .i64 o.p.cpu, .int .i64 o.p.mem, .slice o.p.L.ao o.p.L.la o.p.L.ca, .slice o.p.S.ao o.p.S.la o.p.S.ca, .slice o.p.T.ao o.p.T.la o.p.T.ca, .int .i64 o.p.warm, .string o.n.group, .int .i64 o.n.cpu, .int .i64 o.n.mem, .slice o.n.L.ao o.n.L.la o.n.L.ca, .slice o.n.T.ao o.n.T.la o.n.T.ca, .int .i64 o.n.since, .bool o.n.closed, .int .i64 o.g.min, .int .i64 o.g.max, .int .i64 o.g.target, .int .i64 o.g.cpu, .int .i64 o.g.mem, .slice o.g.L.ao o.g.L.la o.g.L.ca, .slice o.g.T.ao o.g.T.la o.g.T.ca, .int .i64 o.g.prio, .string o.h.target, .int .i64 o.h.min, .int .i64 o.h.max, .slice o.h.M.ao o.h.M.la o.h.M.ca, .int .i64 o.h.tol, .int .i64 o.h.up.win, .int .i64 o.h.up.pick, .slice o.h.up.P.ao o.h.up.P.la o.h.up.P.ca, .int .i64 o.h.down.win, .int .i64 o.h.down.pick, .slice o.h.down.P.ao o.h.down.P.la o.h.down.P.ca, .slice o.h.past.ao o.h.past.la o.h.past.ca])] := (blk_cons (k := 0) R.out.from_ blk_nil)
    refine region_chain (N := 140) (Kept w2) (fun k => (bo, 0)) ⟨objSta, [(0, [.int .i64 kd, .string nm, .int .u64 ver, .int .i64 o.w.rep, .int .i64 o.w.cpu, .int .i64 o.w.mem, .slice o.w.L.ao o.w.L.la o.w.L.ca, .slice o.w.S.ao o.w.S.la o.w.S.ca, .slice o.w.T.ao o.w.T.la o.w.T.ca, .int .i64 o.w.warm, .string o.p.owner, .string o.p.node, .int .i64 o.p.phase, .int .i64 o.p.since, .int .i64 o.p.cpu, .int .i64 o.p.mem, .slice o.p.L.ao o.p.L.la o.p.L.ca, .slice o.p.S.ao o.p.S.la o.p.S.ca, .slice o.p.T.ao o.p.T.la o.p.T.ca, .int .i64 o.p.warm, .string o.n.group, .int .i64 o.n.cpu, .int .i64 o.n.mem, .slice o.n.L.ao o.n.L.la o.n.L.ca, .slice o.n.T.ao o.n.T.la o.n.T.ca, .int .i64 o.n.since, .bool o.n.closed, .int .i64 o.g.min, .int .i64 o.g.max, .int .i64 o.g.target, .int .i64 o.g.cpu, .int .i64 o.g.mem, .slice o.g.L.ao o.g.L.la o.g.L.ca, .slice o.g.T.ao o.g.T.la o.g.T.ca, .int .i64 o.g.prio, .string o.h.target, .int .i64 o.h.min, .int .i64 o.h.max, .slice o.h.M.ao o.h.M.la o.h.M.ca, .int .i64 o.h.tol, .int .i64 o.h.up.win, .int .i64 o.h.up.pick, .slice o.h.up.P.ao o.h.up.P.la o.h.up.P.ca, .int .i64 o.h.down.win, .int .i64 o.h.down.pick, .slice o.h.down.P.ao o.h.down.P.la o.h.down.P.ca, .slice o.h.past.ao o.h.past.la o.h.past.ca])], [], []⟩ 5 (Kept.refl w2) (tab_ok objSta_ok hBlk)
      [(1, .ptr 0 0)] [(1, .ptr 0 0), (94, .val (.slice o.h.M.ao o.h.M.la o.h.M.ca)), (95, .val (.int .i64 (o.h.M.la : Int))), (96, .val (.int .i64 0))] [] rfl (by as_aux_lemma => kernel_rfl) (by as_aux_lemma => kernel_rfl) ?_ none (by as_aux_lemma => kernel_rfl) (fun f3 => [f3 0, .pointer (some ⟨bo, 0, none⟩), f3 2, f3 3, f3 4, f3 5, f3 6, f3 7, f3 8, f3 9, f3 10, f3 11, f3 12, f3 13, f3 14, f3 15, f3 16, f3 17, f3 18, f3 19, f3 20, f3 21, f3 22, f3 23, f3 24, f3 25, f3 26, f3 27, f3 28, f3 29, f3 30, f3 31, f3 32, f3 33, f3 34, f3 35, f3 36, f3 37, f3 38, f3 39, f3 40, f3 41, f3 42, f3 43, f3 44, f3 45, f3 46, f3 47, f3 48, f3 49, f3 50, f3 51, f3 52, f3 53, f3 54, f3 55, f3 56, f3 57, f3 58, f3 59, f3 60, f3 61, f3 62, f3 63, f3 64, f3 65, f3 66, f3 67, f3 68, f3 69, f3 70, f3 71, f3 72, f3 73, f3 74, f3 75, f3 76, f3 77, f3 78, f3 79, f3 80, f3 81, f3 82, f3 83, f3 84, f3 85, f3 86, f3 87, f3 88, f3 89, f3 90, f3 91, f3 92, f3 93, .slice o.h.M.ao o.h.M.la o.h.M.ca, .int .i64 (o.h.M.la : Int), .int .i64 0, f3 97, f3 98, f3 99, f3 100, f3 101, f3 102, f3 103, f3 104, f3 105, f3 106, f3 107, f3 108, f3 109, f3 110, f3 111, f3 112, f3 113, f3 114, f3 115, f3 116, f3 117, f3 118, f3 119, f3 120, f3 121, f3 122, f3 123, f3 124, f3 125, f3 126, f3 127, f3 128, f3 129, f3 130, f3 131, f3 132, f3 133, f3 134, f3 135, f3 136, f3 137, f3 138, f3 139]) (fun f3 => by as_aux_lemma => kernel_rfl) ?_
    · clear hBlk
      exact ob_nil
    intro f3 w4 hb4
    clear hBlk
    simp only [List.drop_succ_cons, List.drop_zero]
    replace R := Lib.hid (RowAt.below hb4 rfl R.out)
    replace HS := Lib.hid (HS.out.b hb4)
    replace Hb := Lib.hid (Hb.out.trans (Below.mono hb4 Hb.out.size))
    clear hb4
    have gM : SlR (Flat Metric.cells) 3 w4 o.h.M.ao o.h.M.la o.h.M.ca o.h.M.xs := HS.out.h.M
    have aM := gM.hmax; have aMc := gM.hcap; have lM := gM.hlen
    unfold maxLen at aM
    obtain ⟨ma, hma⟩ : ∃ a, o.h.M.ao = a := ⟨_, rfl⟩
    rw [hma] at gM R ⊢
    have G := Lib.hid gM
    have LX := Lib.hid lM
    clear gM lM hma HS
    go_wp2_with fail
    go_loopw [96] (fun vi wr => ∃ (k : Nat), k ≤ o.h.M.la ∧ vi = .int .i64 k ∧ Hid (TOT = ((o.h.M.xs.drop k).all (fun x => !(longM x)) && (((((decide ((o.h.target.size : Int) ≤ 255)) && (decide ((o.h.M.la : Int) ≤ 255))) && (decide ((o.h.past.la : Int) ≤ 255))) && (decide ((o.h.up.P.la : Int) ≤ 255))) && (decide ((o.h.down.P.la : Int) ≤ 255))))) ∧ Hid (Below w4.heap.size w4 wr)) (fun vi _ => o.h.M.la - (intOf vi).toNat)
    case atStart => exact ⟨0, Nat.zero_le _, rfl, (show _ = _ by rw [HE.out]; rfl), Below.refl _ _⟩
    case round =>
      obtain ⟨k, hk, rfl, HP, HB⟩ := hrel
      obtain ⟨wq, rfl⟩ : ∃ wq : World, wq = wr := ⟨_, rfl⟩
      by_cases hlt : k < o.h.M.la
      · obtain ⟨b, off, rfl⟩ := G.out.ptr (by decide) (by omega)
        have kx : k < o.h.M.xs.length := by rw [LX.out]; exact hlt
        have hc := (G.out.flatKeeps (Keeps.below HB.out)).flat kx
        have c0 := hc 0 _ rfl
        have c1 := hc 1 _ rfl
        have c2 := hc 2 _ rfl
        rw [Nat.add_zero] at c0
        have HN : Hid (TOT = ((!(longM o.h.M.xs[k]) && (o.h.M.xs.drop (k + 1)).all (fun x => !(longM x))) && (((((decide ((o.h.target.size : Int) ≤ 255)) && (decide ((o.h.M.la : Int) ≤ 255))) && (decide ((o.h.past.la : Int) ≤ 255))) && (decide ((o.h.up.P.la : Int) ≤ 255))) && (decide ((o.h.down.P.la : Int) ≤ 255))))) := by
          show _ = _
          rw [HP.out, drop_all kx]
        obtain ⟨y, hy⟩ : ∃ y, o.h.M.xs[k] = y := ⟨_, rfl⟩
        rw [hy] at c0 c1 c2 HN
        clear hy hc HP kx
        obtain ⟨xk, xn, xt⟩ := y
        dsimp only at c0 c1 c2
        go_upto_region 15 with fail
        have hbn : Below wq.heap.size wq (wq.alloc (.cells #[.int .i64 xk, .string xn, .int .i64 xt] 59)) := (Below.refl wq.heap.size wq).alloc (Nat.le_refl _) _
        have RN : Hid (RowAt (wq.alloc (.cells #[.int .i64 xk, .string xn, .int .i64 xt] 59)) wq.heap.size [.int .i64 xk, .string xn, .int .i64 xt]) := RowAt.of_heap (t := 59) (fr := (0, 0)) (by rw [heap_alloc_new])
        generalize wq.alloc (.cells #[.int .i64 xk, .string xn, .int .i64 xt] 59) = wn at hbn RN ⊢
        replace HB := Lib.hid (HB.out.trans (Below.mono hbn HB.out.size))
        obtain ⟨bn, hbn2⟩ : ∃ n, wq.heap.size = n := ⟨_, rfl⟩
        rw [hbn2] at RN ⊢
        clear hbn hbn2 c0 c1 c2
        have hBlk : BlkOk (fun k => if k = 0 then (bn, 0) else (bo, 0)) wn [(0, [.int .i64 xk, .string xn, .int .i64 xt])] := (blk_cons (k := 0) RN.out.from_ blk_nil)
        refine region_chain (N := 140) (Kept wn) (fun k => if k = 0 then (bn, 0) else (bo, 0)) ⟨objSta, [(0, [.int .i64 xk, .string xn, .int .i64 xt])], [], []⟩ 4 (Kept.refl wn) (tab_ok objSta_ok hBlk)
          [(1, .ptr 1 0), (94, .val (.slice (some ⟨b, off, none⟩) o.h.M.la o.h.M.ca)), (95, .val (.int .i64 (o.h.M.la : Int))), (96, .val (.int .i64 (k : Int))), (4, .ptr 0 0)] [(1, .ptr 1 0), (94, .val (.slice (some ⟨b, off, none⟩) o.h.M.la o.h.M.ca)), (95, .val (.int .i64 (o.h.M.la : Int))), (96, .val (.int .i64 (k : Int))), (103, .val (.bool (decide (255 < (xn.size : Int)))))] [] rfl (by as_aux_lemma => kernel_rfl) (by as_aux_lemma => kernel_rfl) ?_ (some [2, 4, 97, 98, 99, 100, 101, 102, 103, 104]) (by as_aux_lemma => kernel_rfl) (fun f6 => [f3 0, .pointer (some ⟨bo, 0, none⟩), f6 2, f3 3, f6 4, f3 5, f3 6, f3 7, f3 8, f3 9, f3 10, f3 11, f3 12, f3 13, f3 14, f3 15, f3 16, f3 17, f3 18, f3 19, f3 20, f3 21, f3 22, f3 23, f3 24, f3 25, f3 26, f3 27, f3 28, f3 29, f3 30, f3 31, f3 32, f3 33, f3 34, f3 35, f3 36, f3 37, f3 38, f3 39, f3 40, f3 41, f3 42, f3 43, f3 44, f3 45, f3 46, f3 47, f3 48, f3 49, f3 50, f3 51, f3 52, f3 53, f3 54, f3 55, f3 56, f3 57, f3 58, f3 59, f3 60, f3 61, f3 62, f3 63, f3 64, f3 65, f3 66, f3 67, f3 68, f3 69, f3 70, f3 71, f3 72, f3 73, f3 74, f3 75, f3 76, f3 77, f3 78, f3 79, f3 80, f3 81, f3 82, f3 83, f3 84, f3 85, f3 86, f3 87, f3 88, f3 89, f3 90, f3 91, f3 92, f3 93, .slice (some ⟨b, off, none⟩) o.h.M.la o.h.M.ca, .int .i64 (o.h.M.la : Int), .int .i64 (k : Int), f6 97, f6 98, f6 99, f6 100, f6 101, f6 102, .bool (decide (255 < (xn.size : Int))), f6 104, f3 105, f3 106, f3 107, f3 108, f3 109, f3 110, f3 111, f3 112, f3 113, f3 114, f3 115, f3 116, f3 117, f3 118, f3 119, f3 120, f3 121, f3 122, f3 123, f3 124, f3 125, f3 126, f3 127, f3 128, f3 129, f3 130, f3 131, f3 132, f3 133, f3 134, f3 135, f3 136, f3 137, f3 138, f3 139]) (fun f6 => by as_aux_lemma => kernel_rfl) ?_
        · clear hBlk
          exact ob_nil
        intro f6 wm hbm
        clear hBlk
        simp only [List.drop_succ_cons, List.drop_zero]
        replace HB := Lib.hid (HB.out.trans (Below.mono hbm HB.out.size))
        clear hbm RN
        obtain ⟨c, hcc⟩ : ∃ c : Bool, longM ⟨xk, xn, xt⟩ = c := ⟨_, rfl⟩
        rw [hcc] at HN
        unfold longM at hcc
        dsimp only at hcc
        rw [hcc]
        clear hcc
        cases c with
        | true =>
          replace Hb := Lib.hid (Hb.out.trans (Below.mono HB.out Hb.out.size))
          go_wp2_with fail
          go_ret
          exact ⟨by rw [HN.out]; rfl, Hb.out⟩
        | false =>
          go_wp2_with fail
          go_roundw
          case rel => exact ⟨k + 1, by omega, by go_num, (show _ = _ by rw [HN.out]; rfl), HB.out⟩
          case measure => simp [intOf]; omega
      · obtain rfl : k = o.h.M.la := by omega
        have HF : Hid (TOT = (((((decide ((o.h.target.size : Int) ≤ 255)) && (decide ((o.h.M.la : Int) ≤ 255))) && (decide ((o.h.past.la : Int) ≤ 255))) && (decide ((o.h.up.P.la : Int) ≤ 255))) && (decide ((o.h.down.P.la : Int) ≤ 255)))) := by
          show _ = _
          rw [HP.out, List.drop_of_length_le (Nat.le_of_eq LX.out)]
          rfl
        replace R := Lib.hid (RowAt.below HB.out rfl R.out)
        replace Hb := Lib.hid (Hb.out.trans (Below.mono HB.out Hb.out.size))
        clear HP HB
        go_upto_region 18 with fail
        have hBlk : BlkOk (fun k => (bo, 0)) wq [(0, [.int .i64 kd, .string nm, .int .u64 ver, .int .i64 o.w.rep, .int .i64 o.w.cpu, .int .i64 o.w.mem, .slice o.w.L.ao o.w.L.la o.w.L.ca, .slice o.w.S.ao o.w.S.la o.w.S.ca, .slice o.w.T.ao o.w.T.la o.w.T.ca, .int .i64 o.w.warm, .string o.p.owner, .string o.p.node, .int .i64 o.p.phase, .int .i64 o.p.since, .int .i64 o.p.cpu, .int .i64 o.p.mem, .slice o.p.L.ao o.p.L.la o.p.L.ca, .slice o.p.S.ao o.p.S.la o.p.S.ca, .slice o.p.T.ao o.p.T.la o.p.T.ca, .int .i64 o.p.warm, .string o.n.group, .int .i64 o.n.cpu, .int .i64 o.n.mem, .slice o.n.L.ao o.n.L.la o.n.L.ca, .slice o.n.T.ao o.n.T.la o.n.T.ca, .int .i64 o.n.since, .bool o.n.closed, .int .i64 o.g.min, .int .i64 o.g.max, .int .i64 o.g.target, .int .i64 o.g.cpu, .int .i64 o.g.mem, .slice o.g.L.ao o.g.L.la o.g.L.ca, .slice o.g.T.ao o.g.T.la o.g.T.ca, .int .i64 o.g.prio, .string o.h.target, .int .i64 o.h.min, .int .i64 o.h.max, .slice ma o.h.M.la o.h.M.ca, .int .i64 o.h.tol, .int .i64 o.h.up.win, .int .i64 o.h.up.pick, .slice o.h.up.P.ao o.h.up.P.la o.h.up.P.ca, .int .i64 o.h.down.win, .int .i64 o.h.down.pick, .slice o.h.down.P.ao o.h.down.P.la o.h.down.P.ca, .slice o.h.past.ao o.h.past.la o.h.past.ca])] := (blk_cons (k := 0) R.out.from_ blk_nil)
        refine region_chain (N := 140) (Kept wq) (fun k => (bo, 0)) ⟨objSta, [(0, [.int .i64 kd, .string nm, .int .u64 ver, .int .i64 o.w.rep, .int .i64 o.w.cpu, .int .i64 o.w.mem, .slice o.w.L.ao o.w.L.la o.w.L.ca, .slice o.w.S.ao o.w.S.la o.w.S.ca, .slice o.w.T.ao o.w.T.la o.w.T.ca, .int .i64 o.w.warm, .string o.p.owner, .string o.p.node, .int .i64 o.p.phase, .int .i64 o.p.since, .int .i64 o.p.cpu, .int .i64 o.p.mem, .slice o.p.L.ao o.p.L.la o.p.L.ca, .slice o.p.S.ao o.p.S.la o.p.S.ca, .slice o.p.T.ao o.p.T.la o.p.T.ca, .int .i64 o.p.warm, .string o.n.group, .int .i64 o.n.cpu, .int .i64 o.n.mem, .slice o.n.L.ao o.n.L.la o.n.L.ca, .slice o.n.T.ao o.n.T.la o.n.T.ca, .int .i64 o.n.since, .bool o.n.closed, .int .i64 o.g.min, .int .i64 o.g.max, .int .i64 o.g.target, .int .i64 o.g.cpu, .int .i64 o.g.mem, .slice o.g.L.ao o.g.L.la o.g.L.ca, .slice o.g.T.ao o.g.T.la o.g.T.ca, .int .i64 o.g.prio, .string o.h.target, .int .i64 o.h.min, .int .i64 o.h.max, .slice ma o.h.M.la o.h.M.ca, .int .i64 o.h.tol, .int .i64 o.h.up.win, .int .i64 o.h.up.pick, .slice o.h.up.P.ao o.h.up.P.la o.h.up.P.ca, .int .i64 o.h.down.win, .int .i64 o.h.down.pick, .slice o.h.down.P.ao o.h.down.P.la o.h.down.P.ca, .slice o.h.past.ao o.h.past.la o.h.past.ca])], [], []⟩ 36 (Kept.refl wq) (tab_ok objSta_ok hBlk)
          [(1, .ptr 0 0)] [(2, .val (.bool (((((decide ((o.h.target.size : Int) ≤ 255)) && (decide ((o.h.M.la : Int) ≤ 255))) && (decide ((o.h.past.la : Int) ≤ 255))) && (decide ((o.h.up.P.la : Int) ≤ 255))) && (decide ((o.h.down.P.la : Int) ≤ 255)))))] [] rfl (by as_aux_lemma => kernel_rfl) (by as_aux_lemma => kernel_rfl) ?_ none (by as_aux_lemma => kernel_rfl) (fun f7 => [f7 0, f7 1, .bool (((((decide ((o.h.target.size : Int) ≤ 255)) && (decide ((o.h.M.la : Int) ≤ 255))) && (decide ((o.h.past.la : Int) ≤ 255))) && (decide ((o.h.up.P.la : Int) ≤ 255))) && (decide ((o.h.down.P.la : Int) ≤ 255))), f7 3, f7 4, f7 5, f7 6, f7 7, f7 8, f7 9, f7 10, f7 11, f7 12, f7 13, f7 14, f7 15, f7 16, f7 17, f7 18, f7 19, f7 20, f7 21, f7 22, f7 23, f7 24, f7 25, f7 26, f7 27, f7 28, f7 29, f7 30, f7 31, f7 32, f7 33, f7 34, f7 35, f7 36, f7 37, f7 38, f7 39, f7 40, f7 41, f7 42, f7 43, f7 44, f7 45, f7 46, f7 47, f7 48, f7 49, f7 50, f7 51, f7 52, f7 53, f7 54, f7 55, f7 56, f7 57, f7 58, f7 59, f7 60, f7 61, f7 62, f7 63, f7 64, f7 65, f7 66, f7 67, f7 68, f7 69, f7 70, f7 71, f7 72, f7 73, f7 74, f7 75, f7 76, f7 77, f7 78, f7 79, f7 80, f7 81, f7 82, f7 83, f7 84, f7 85, f7 86, f7 87, f7 88, f7 89, f7 90, f7 91, f7 92, f7 93, f7 94, f7 95, f7 96, f7 97, f7 98, f7 99, f7 100, f7 101, f7 102, f7 103, f7 104, f7 105, f7 106, f7 107, f7 108, f7 109, f7 110, f7 111, f7 112, f7 113, f7 114, f7 115, f7 116, f7 117, f7 118, f7 119, f7 120, f7 121, f7 122, f7 123, f7 124, f7 125, f7 126, f7 127, f7 128, f7 129, f7 130, f7 131, f7 132, f7 133, f7 134, f7 135, f7 136, f7 137, f7 138, f7 139]) (fun f7 => by as_aux_lemma => kernel_rfl) ?_
        · clear hBlk
          exact ob_nil
        intro f7 w8 hb8
        clear hBlk
        simp only [List.drop_succ_cons, List.drop_zero]
        replace Hb := Lib.hid (Hb.out.trans (Below.mono hb8 Hb.out.size))
        clear hb8 R
        go_wp2_with fail
        go_ret
        exact ⟨by rw [HF.out]; rfl, Hb.out⟩

theorem short_any (kd : Int) (nm : ByteArray) (ver : Int) (o : ShapesV) (w : World) (h : ShapesAt w o) :
    Calls Try.prog 10 #[.agg #[.int .i64 kd, .string nm, .int .u64 ver, .int .i64 o.w.rep, .int .i64 o.w.cpu, .int .i64 o.w.mem, .slice o.w.L.ao o.w.L.la o.w.L.ca, .slice o.w.S.ao o.w.S.la o.w.S.ca, .slice o.w.T.ao o.w.T.la o.w.T.ca, .int .i64 o.w.warm, .string o.p.owner, .string o.p.node, .int .i64 o.p.phase, .int .i64 o.p.since, .int .i64 o.p.cpu, .int .i64 o.p.mem, .slice o.p.L.ao o.p.L.la o.p.L.ca, .slice o.p.S.ao o.p.S.la o.p.S.ca, .slice o.p.T.ao o.p.T.la o.p.T.ca, .int .i64 o.p.warm, .string o.n.group, .int .i64 o.n.cpu, .int .i64 o.n.mem, .slice o.n.L.ao o.n.L.la o.n.L.ca, .slice o.n.T.ao o.n.T.la o.n.T.ca, .int .i64 o.n.since, .bool o.n.closed, .int .i64 o.g.min, .int .i64 o.g.max, .int .i64 o.g.target, .int .i64 o.g.cpu, .int .i64 o.g.mem, .slice o.g.L.ao o.g.L.la o.g.L.ca, .slice o.g.T.ao o.g.T.la o.g.T.ca, .int .i64 o.g.prio, .string o.h.target, .int .i64 o.h.min, .int .i64 o.h.max, .slice o.h.M.ao o.h.M.la o.h.M.ca, .int .i64 o.h.tol, .int .i64 o.h.up.win, .int .i64 o.h.up.pick, .slice o.h.up.P.ao o.h.up.P.la o.h.up.P.ca, .int .i64 o.h.down.win, .int .i64 o.h.down.pick, .slice o.h.down.P.ao o.h.down.P.la o.h.down.P.ca, .slice o.h.past.ao o.h.past.la o.h.past.ca]] w fun e w' => e = .returned (.bool (shortO kd nm o)) ∧ Below w.heap.size w w' := by
  by_cases h0 : kd = 0
  · subst h0; exact short_w nm ver o w h
  by_cases h1 : kd = 1
  · subst h1; exact short_p nm ver o w h
  by_cases h2 : kd = 2
  · subst h2; exact short_n nm ver o w h
  by_cases h3 : kd = 3
  · subst h3; exact short_g nm ver o w h
  exact short_h kd ⟨h0, h1, h2, h3⟩ nm ver o w h
end Go.Proofs.Ytmoeddpbmclckaa
