/- The contracts of the reference's resources, labels, asks, behavior. Condition: the slices read; the text's length is a number. -/
import Derived.Test.YtpbppgfogepjeaaRefStrM
import Derived.Test.YtpbppgfogepjeaaShapesM
import Derived.Test.YtpbppgfogepjeaaObjSta
import Derived.Test.YtpbppgfogepjeaaOwnStM
import Derived.Laws.Rows
namespace Go.Proofs.Ytpbppgfogepjeaa
open Go.ChangeShapes Go.WideShapes Go.ChangeAt Go.RowKit Go.Deep

def resS (c m : Int) : ByteArray := intS c ++ intS m
theorem resS_size (c m : Int) : (resS c m).size = 16 := by unfold resS; rw [ByteArray.size_append, intS_size, intS_size]
def labS (out : ByteArray) (x : Label) : ByteArray := (out ++ textS x.key) ++ textS x.val
def askS (out : ByteArray) (x : Require) : ByteArray := ((out ++ textS x.key) ++ textS x.val) ++ intS x.op
def polS (out : ByteArray) (x : Policy) : ByteArray := ((out ++ truthS x.percent) ++ intS x.value) ++ intS x.period
def labelsS (xs : List Label) : ByteArray := xs.foldl labS (putS (u64 (xs.length : Int)) 1)
def asksS (xs : List Require) : ByteArray := xs.foldl askS (putS (u64 (xs.length : Int)) 1)
def behS (win pick : Int) (xs : List Policy) : ByteArray := xs.foldl polS ((intS win ++ intS pick) ++ putS (u64 (xs.length : Int)) 1)
theorem labS_le (out : ByteArray) (x : Label) : out.size ≤ (labS out x).size := by unfold labS; rw [ByteArray.size_append, ByteArray.size_append]; omega
theorem askS_le (out : ByteArray) (x : Require) : out.size ≤ (askS out x).size := by unfold askS; rw [ByteArray.size_append, ByteArray.size_append, ByteArray.size_append]; omega
theorem polS_le (out : ByteArray) (x : Policy) : out.size ≤ (polS out x).size := by unfold polS; rw [ByteArray.size_append, ByteArray.size_append, ByteArray.size_append]; omega
theorem foldl_le {α : Type} {f : ByteArray → α → ByteArray} (hf : ∀ o x, o.size ≤ (f o x).size) : ∀ (xs : List α) (o : ByteArray), o.size ≤ (xs.foldl f o).size
  | [], _ => Nat.le_refl _
  | x :: r, o => Nat.le_trans (hf o x) (foldl_le hf r (f o x))

set_option maxHeartbeats 1000000 in
theorem refRes_any (c m : Int) (w : World) : Calls Try.prog 60 #[.agg #[.int .i64 c, .int .i64 m]] w fun e w' => e = .returned (.string (resS c m)) ∧ Below w.heap.size w w' := by
  go_enter Try.func60, Try.ntmps60
  go_upto_region 1 with fail
  have Hb : Hid (Below w.heap.size w (w.alloc (.cells #[.int .i64 c, .int .i64 m] 25))) := (Below.refl w.heap.size w).alloc (Nat.le_refl _) _
  have R : Hid (RowAt (w.alloc (.cells #[.int .i64 c, .int .i64 m] 25)) w.heap.size [.int .i64 c, .int .i64 m]) := RowAt.of_heap (t := 25) (fr := (0, 0)) (by rw [heap_alloc_new])
  generalize w.alloc (.cells #[.int .i64 c, .int .i64 m] 25) = w1 at Hb R ⊢
  obtain ⟨bo, hbo⟩ : ∃ n, w.heap.size = n := ⟨_, rfl⟩
  rw [hbo] at R ⊢
  clear hbo
  have hBlk : BlkOk (fun k => (bo, 0)) w1 [(0, [.int .i64 c, .int .i64 m])] := (blk_cons (k := 0) R.out.from_ blk_nil)
  refine region_chain_all (N := 10) (Kept w1) (fun k => (bo, 0)) ⟨objSta, [(0, [.int .i64 c, .int .i64 m])], [(5, .string (intS c)), (8, .string (intS m))], []⟩ (by kernel_rfl) (by as_aux_lemma => kernel_rfl) (Kept.drawn w1) (tab_ok objSta_ok hBlk)
    [(1, .ptr 0 0)] [(2, .val (.string (intS c ++ intS m)))] [.cat (intS c) (intS m), .call 59 [.val (.int .i64 m)] (.string (intS m)), .call 59 [.val (.int .i64 c)] (.string (intS c))] rfl (by as_aux_lemma => kernel_rfl) (by as_aux_lemma => kernel_rfl) ?_ none (by as_aux_lemma => kernel_rfl) (fun f => [f 0, f 1, .string (intS c ++ intS m), f 3, f 4, f 5, f 6, f 7, f 8, f 9]) (fun f => by as_aux_lemma => kernel_rfl) ?_
  · clear hBlk
    exact (ob_cons (show _ + _ ≤ _ by rw [intS_size, intS_size]; decide) (ob_cons (ob_kept Try.func59 (by kernel_rfl) rfl fun w' _ => int_any m w') (ob_cons (ob_kept Try.func59 (by kernel_rfl) rfl fun w' _ => int_any c w') ob_nil)))
  intro f w2 hb2
  clear hBlk
  replace Hb := Lib.hid (Hb.out.trans (Below.mono hb2 Hb.out.size))
  clear hb2
  go_wp2_with fail
  go_ret
  exact ⟨rfl, Hb.out⟩

set_option maxRecDepth 100000 in
set_option maxHeartbeats 1600000 in
theorem refLabels_any (xs : List Label) (ao : Option Addr) (la ca : Nat) (w : World) (hS : SlR (Flat Label.cells) 2 w ao la ca xs) (hm : (labelsS xs).size ≤ 9223372036854775807) :
    Calls Try.prog 61 #[.slice ao la ca] w fun e w' => e = .returned (.string (labelsS xs)) ∧ Below w.heap.size w w' := by
  have hac := hS.hcap; have ha := hS.hmax
  unfold maxLen at ha
  have G := Lib.hid hS
  have LX := Lib.hid hS.hlen
  obtain ⟨TOT, hT⟩ : ∃ t, labelsS xs = t := ⟨_, rfl⟩
  rw [hT] at hm ⊢
  have TM := Lib.hid hm
  have hb := u64_b (la : Int)
  have hcv : ∀ w, (convert 3 22 (.int .i64 (la : Int))).run Try.prog w = .ok (.int .u64 (u64 (la : Int))) w := fun w => by kernel_rfl
  have HPU := Lib.hid (put_any (u64 (la : Int)) 1 (by decide) hb.1 hb.2 w)
  have HT : Hid (TOT = (xs.drop 0).foldl labS ⟨(putL (u64 (la : Int)) 1).toArray⟩) := by
    show _ = _
    rw [← hT, ← LX.out]
    rfl
  obtain ⟨uy, huy⟩ : ∃ y, u64 (la : Int) = y := ⟨_, rfl⟩
  rw [huy] at HPU HT hcv
  clear hS hm hT hb huy
  go_enter Try.func61, Try.ntmps61
  go_wp2_with fail
  refine HPU.out.mono ?_
  rintro e w4 ⟨rfl, hb4⟩
  have Hb := Lib.hid hb4
  replace G := Lib.hid (G.out.flatKeeps (Keeps.below hb4))
  clear hb4 HPU hcv
  go_upto_region 2 with fail
  obtain ⟨p3, hp3⟩ : ∃ o : ByteArray, (⟨(putL uy 1).toArray⟩ : ByteArray) = o := ⟨_, rfl⟩
  rw [hp3] at HT ⊢
  clear hp3
  have hBlk : BlkOk (fun k => ((0 : Nat), 0)) w4 [] := blk_nil
  refine region_chain (N := 27) (Kept w4) (fun k => ((0 : Nat), 0)) ⟨objSta, [], [], []⟩ 3 (Kept.refl w4) (tab_ok objSta_ok hBlk)
    [(0, .val (.slice ao la ca)), (3, .val (.string p3))] [(3, .val (.string p3)), (10, .val (.slice ao la ca)), (11, .val (.int .i64 (la : Int))), (12, .val (.int .i64 0))] [] rfl (by as_aux_lemma => kernel_rfl) (by as_aux_lemma => kernel_rfl) ?_ none (by as_aux_lemma => kernel_rfl) (fun f5 => [f5 0, f5 1, f5 2, .string p3, f5 4, f5 5, f5 6, f5 7, f5 8, f5 9, .slice ao la ca, .int .i64 (la : Int), .int .i64 0, f5 13, f5 14, f5 15, f5 16, f5 17, f5 18, f5 19, f5 20, f5 21, f5 22, f5 23, f5 24, f5 25, f5 26]) (fun f5 => by as_aux_lemma => kernel_rfl) ?_
  · clear hBlk
    exact ob_nil
  intro f5 w5 hb5
  clear hBlk
  simp only [List.drop_succ_cons, List.drop_zero]
  replace G := Lib.hid (G.out.flatKeeps (Keeps.below hb5))
  replace Hb := Lib.hid (Hb.out.trans (Below.mono hb5 Hb.out.size))
  clear hb5
  go_wp2_with fail
  go_loopw [3, 12] (fun vo vi wr => ∃ (k : Nat) (out : ByteArray), k ≤ la ∧ vo = .string out ∧ vi = .int .i64 k ∧ Hid (TOT = (xs.drop k).foldl labS out) ∧ Hid (Below w5.heap.size w5 wr)) (fun _ vi _ => la - (intOf vi).toNat)
  case atStart => exact ⟨0, _, Nat.zero_le _, rfl, rfl, HT.out, Below.refl _ _⟩
  case round =>
    obtain ⟨k, out, hk, rfl, rfl, HP, HB⟩ := hrel
    obtain ⟨wq, rfl⟩ : ∃ wq : World, wq = wr := ⟨_, rfl⟩
    by_cases hlt : k < la
    · obtain ⟨b, off, rfl⟩ := G.out.ptr (by decide) (by omega)
      have kx : k < xs.length := by rw [LX.out]; exact hlt
      have hc := (G.out.flatKeeps (Keeps.below HB.out)).flat kx
      have c0 := hc 0 _ rfl
      have c1 := hc 1 _ rfl
      rw [Nat.add_zero] at c0
      have HN : Hid (TOT = (xs.drop (k + 1)).foldl labS (labS out xs[k])) := by
        show _ = _
        rw [HP.out, List.drop_eq_getElem_cons kx, List.foldl_cons]
      have HZ : Hid ((labS out xs[k]).size ≤ 9223372036854775807) := Nat.le_trans (foldl_le labS_le (xs.drop (k + 1)) _) (by rw [← HN.out]; exact TM.out)
      obtain ⟨y, hy⟩ : ∃ y, xs[k] = y := ⟨_, rfl⟩
      rw [hy] at c0 c1 HN HZ
      clear hy hc HP
      obtain ⟨xk, xv⟩ := y
      dsimp only at c0 c1
      have Z : out.size + (1 + xk.size) + (1 + xv.size) ≤ 9223372036854775807 := by
        have := HZ.out
        unfold labS at this
        rw [ByteArray.size_append, ByteArray.size_append, textS_size, textS_size] at this
        omega
      have ZZ := Lib.hid Z
      clear Z kx
      go_upto_region 5 with fail
      have hbn : Below wq.heap.size wq (wq.alloc (.cells #[.string xk, .string xv] 110)) := (Below.refl wq.heap.size wq).alloc (Nat.le_refl _) _
      have RN : Hid (RowAt (wq.alloc (.cells #[.string xk, .string xv] 110)) wq.heap.size [.string xk, .string xv]) := RowAt.of_heap (t := 110) (fr := (0, 0)) (by rw [heap_alloc_new])
      generalize wq.alloc (.cells #[.string xk, .string xv] 110) = wn at hbn RN ⊢
      replace HB := Lib.hid (HB.out.trans (Below.mono hbn HB.out.size))
      obtain ⟨bn, hbn2⟩ : ∃ n, wq.heap.size = n := ⟨_, rfl⟩
      rw [hbn2] at RN ⊢
      clear hbn hbn2 c0 c1
      have hBlk : BlkOk (fun k => (bn, 0)) wn [(0, [.string xk, .string xv])] := (blk_cons (k := 0) RN.out.from_ blk_nil)
      refine region_chain_all (N := 27) (Kept wn) (fun k => (bn, 0)) ⟨objSta, [(0, [.string xk, .string xv])], [(19, .string (textS xk)), (23, .string (textS xv))], []⟩ (by kernel_rfl) (by as_aux_lemma => kernel_rfl) (Kept.drawn wn) (tab_ok objSta_ok hBlk)
        [(10, .val (.slice (some ⟨b, off, none⟩) la ca)), (11, .val (.int .i64 (la : Int))), (12, .val (.int .i64 (k : Int))), (3, .val (.string out)), (5, .ptr 0 0)] [(10, .val (.slice (some ⟨b, off, none⟩) la ca)), (11, .val (.int .i64 (la : Int))), (12, .val (.int .i64 (k : Int))), (3, .val (.string ((out ++ textS xk) ++ textS xv)))] [.cat (out ++ textS xk) (textS xv), .call 58 [.val (.string xv)] (.string (textS xv)), .cat (out) (textS xk), .call 58 [.val (.string xk)] (.string (textS xk))] rfl (by as_aux_lemma => kernel_rfl) (by as_aux_lemma => kernel_rfl) ?_ (some [3, 5, 12, 13, 14, 15, 16, 17, 18, 19, 20, 21, 22, 23, 24, 25]) (by as_aux_lemma => kernel_rfl) (fun f6 => [f5 0, f5 1, f5 2, .string ((out ++ textS xk) ++ textS xv), f5 4, f6 5, f5 6, f5 7, f5 8, f5 9, .slice (some ⟨b, off, none⟩) la ca, .int .i64 (la : Int), .int .i64 (k : Int), f6 13, f6 14, f6 15, f6 16, f6 17, f6 18, f6 19, f6 20, f6 21, f6 22, f6 23, f6 24, f6 25, f5 26]) (fun f6 => by as_aux_lemma => kernel_rfl) ?_
      · clear hBlk
        exact (ob_cons (show _ + _ ≤ _ by have := ZZ.out; rw [ByteArray.size_append, textS_size, textS_size]; omega) (ob_cons (ob_kept Try.func58 (by kernel_rfl) rfl fun w' _ => text_any xv (by have := ZZ.out; omega) w') (ob_cons (show _ + _ ≤ _ by have := ZZ.out; rw [textS_size]; omega) (ob_cons (ob_kept Try.func58 (by kernel_rfl) rfl fun w' _ => text_any xk (by have := ZZ.out; omega) w') ob_nil))))
      intro f6 wm hbm
      clear hBlk
      replace HB := Lib.hid (HB.out.trans (Below.mono hbm HB.out.size))
      have HN2 : Hid (TOT = (xs.drop (k + 1)).foldl labS ((out ++ textS xk) ++ textS xv)) := HN.out
      obtain ⟨o2, ho2⟩ : ∃ o, ((out ++ textS xk) ++ textS xv) = o := ⟨_, rfl⟩
      rw [ho2] at HN2 ⊢
      clear ho2 hbm RN HN HZ ZZ
      go_wp2_with fail
      go_roundw
      case rel => exact ⟨k + 1, o2, by omega, rfl, by go_num, HN2.out, HB.out⟩
      case measure => simp [intOf]; omega
    · obtain rfl : k = la := by omega
      have HE : Hid (TOT = out) := by
        show _ = _
        rw [HP.out, List.drop_of_length_le (Nat.le_of_eq LX.out)]
        rfl
      clear HP
      replace HB := Lib.hid (Hb.out.trans (HB.out.mono Hb.out.size))
      go_wp2_with fail
      go_ret
      exact ⟨by rw [HE.out]; rfl, HB.out⟩

set_option maxRecDepth 100000 in
set_option maxHeartbeats 1600000 in
theorem refAsksS_any (xs : List Require) (ao : Option Addr) (la ca : Nat) (w : World) (hS : SlR (Flat Require.cells) 3 w ao la ca xs) (hm : (asksS xs).size ≤ 9223372036854775807) :
    Calls Try.prog 62 #[.slice ao la ca] w fun e w' => e = .returned (.string (asksS xs)) ∧ Below w.heap.size w w' := by
  have hac := hS.hcap; have ha := hS.hmax
  unfold maxLen at ha
  have G := Lib.hid hS
  have LX := Lib.hid hS.hlen
  obtain ⟨TOT, hT⟩ : ∃ t, asksS xs = t := ⟨_, rfl⟩
  rw [hT] at hm ⊢
  have TM := Lib.hid hm
  have hb := u64_b (la : Int)
  have hcv : ∀ w, (convert 3 22 (.int .i64 (la : Int))).run Try.prog w = .ok (.int .u64 (u64 (la : Int))) w := fun w => by kernel_rfl
  have HPU := Lib.hid (put_any (u64 (la : Int)) 1 (by decide) hb.1 hb.2 w)
  have HT : Hid (TOT = (xs.drop 0).foldl askS ⟨(putL (u64 (la : Int)) 1).toArray⟩) := by
    show _ = _
    rw [← hT, ← LX.out]
    rfl
  obtain ⟨uy, huy⟩ : ∃ y, u64 (la : Int) = y := ⟨_, rfl⟩
  rw [huy] at HPU HT hcv
  clear hS hm hT hb huy
  go_enter Try.func62, Try.ntmps62
  go_wp2_with fail
  refine HPU.out.mono ?_
  rintro e w4 ⟨rfl, hb4⟩
  have Hb := Lib.hid hb4
  replace G := Lib.hid (G.out.flatKeeps (Keeps.below hb4))
  clear hb4 HPU hcv
  go_upto_region 2 with fail
  obtain ⟨p3, hp3⟩ : ∃ o : ByteArray, (⟨(putL uy 1).toArray⟩ : ByteArray) = o := ⟨_, rfl⟩
  rw [hp3] at HT ⊢
  clear hp3
  have hBlk : BlkOk (fun k => ((0 : Nat), 0)) w4 [] := blk_nil
  refine region_chain (N := 31) (Kept w4) (fun k => ((0 : Nat), 0)) ⟨objSta, [], [], []⟩ 3 (Kept.refl w4) (tab_ok objSta_ok hBlk)
    [(0, .val (.slice ao la ca)), (3, .val (.string p3))] [(3, .val (.string p3)), (10, .val (.slice ao la ca)), (11, .val (.int .i64 (la : Int))), (12, .val (.int .i64 0))] [] rfl (by as_aux_lemma => kernel_rfl) (by as_aux_lemma => kernel_rfl) ?_ none (by as_aux_lemma => kernel_rfl) (fun f5 => [f5 0, f5 1, f5 2, .string p3, f5 4, f5 5, f5 6, f5 7, f5 8, f5 9, .slice ao la ca, .int .i64 (la : Int), .int .i64 0, f5 13, f5 14, f5 15, f5 16, f5 17, f5 18, f5 19, f5 20, f5 21, f5 22, f5 23, f5 24, f5 25, f5 26, f5 27, f5 28, f5 29, f5 30]) (fun f5 => by as_aux_lemma => kernel_rfl) ?_
  · clear hBlk
    exact ob_nil
  intro f5 w5 hb5
  clear hBlk
  simp only [List.drop_succ_cons, List.drop_zero]
  replace G := Lib.hid (G.out.flatKeeps (Keeps.below hb5))
  replace Hb := Lib.hid (Hb.out.trans (Below.mono hb5 Hb.out.size))
  clear hb5
  go_wp2_with fail
  go_loopw [3, 12] (fun vo vi wr => ∃ (k : Nat) (out : ByteArray), k ≤ la ∧ vo = .string out ∧ vi = .int .i64 k ∧ Hid (TOT = (xs.drop k).foldl askS out) ∧ Hid (Below w5.heap.size w5 wr)) (fun _ vi _ => la - (intOf vi).toNat)
  case atStart => exact ⟨0, _, Nat.zero_le _, rfl, rfl, HT.out, Below.refl _ _⟩
  case round =>
    obtain ⟨k, out, hk, rfl, rfl, HP, HB⟩ := hrel
    obtain ⟨wq, rfl⟩ : ∃ wq : World, wq = wr := ⟨_, rfl⟩
    by_cases hlt : k < la
    · obtain ⟨b, off, rfl⟩ := G.out.ptr (by decide) (by omega)
      have kx : k < xs.length := by rw [LX.out]; exact hlt
      have hc := (G.out.flatKeeps (Keeps.below HB.out)).flat kx
      have c0 := hc 0 _ rfl
      have c1 := hc 1 _ rfl
      have c2 := hc 2 _ rfl
      rw [Nat.add_zero] at c0
      have HN : Hid (TOT = (xs.drop (k + 1)).foldl askS (askS out xs[k])) := by
        show _ = _
        rw [HP.out, List.drop_eq_getElem_cons kx, List.foldl_cons]
      have HZ : Hid ((askS out xs[k]).size ≤ 9223372036854775807) := Nat.le_trans (foldl_le askS_le (xs.drop (k + 1)) _) (by rw [← HN.out]; exact TM.out)
      obtain ⟨y, hy⟩ : ∃ y, xs[k] = y := ⟨_, rfl⟩
      rw [hy] at c0 c1 c2 HN HZ
      clear hy hc HP
      obtain ⟨xk, xv, xo⟩ := y
      dsimp only at c0 c1 c2
      have Z : out.size + (1 + xk.size) + (1 + xv.size) + 8 ≤ 9223372036854775807 := by
        have := HZ.out
        unfold askS at this
        rw [ByteArray.size_append, ByteArray.size_append, ByteArray.size_append, textS_size, textS_size, intS_size] at this
        omega
      have ZZ := Lib.hid Z
      clear Z kx
      go_upto_region 5 with fail
      have hbn : Below wq.heap.size wq (wq.alloc (.cells #[.string xk, .string xv, .int .i64 xo] 113)) := (Below.refl wq.heap.size wq).alloc (Nat.le_refl _) _
      have RN : Hid (RowAt (wq.alloc (.cells #[.string xk, .string xv, .int .i64 xo] 113)) wq.heap.size [.string xk, .string xv, .int .i64 xo]) := RowAt.of_heap (t := 113) (fr := (0, 0)) (by rw [heap_alloc_new])
      generalize wq.alloc (.cells #[.string xk, .string xv, .int .i64 xo] 113) = wn at hbn RN ⊢
      replace HB := Lib.hid (HB.out.trans (Below.mono hbn HB.out.size))
      obtain ⟨bn, hbn2⟩ : ∃ n, wq.heap.size = n := ⟨_, rfl⟩
      rw [hbn2] at RN ⊢
      clear hbn hbn2 c0 c1 c2
      have hBlk : BlkOk (fun k => (bn, 0)) wn [(0, [.string xk, .string xv, .int .i64 xo])] := (blk_cons (k := 0) RN.out.from_ blk_nil)
      refine region_chain_all (N := 31) (Kept wn) (fun k => (bn, 0)) ⟨objSta, [(0, [.string xk, .string xv, .int .i64 xo])], [(19, .string (textS xk)), (23, .string (textS xv)), (27, .string (intS xo))], []⟩ (by kernel_rfl) (by as_aux_lemma => kernel_rfl) (Kept.drawn wn) (tab_ok objSta_ok hBlk)
        [(10, .val (.slice (some ⟨b, off, none⟩) la ca)), (11, .val (.int .i64 (la : Int))), (12, .val (.int .i64 (k : Int))), (3, .val (.string out)), (5, .ptr 0 0)] [(10, .val (.slice (some ⟨b, off, none⟩) la ca)), (11, .val (.int .i64 (la : Int))), (12, .val (.int .i64 (k : Int))), (3, .val (.string (((out ++ textS xk) ++ textS xv) ++ intS xo)))] [.cat ((out ++ textS xk) ++ textS xv) (intS xo), .call 59 [.val (.int .i64 xo)] (.string (intS xo)), .cat (out ++ textS xk) (textS xv), .call 58 [.val (.string xv)] (.string (textS xv)), .cat (out) (textS xk), .call 58 [.val (.string xk)] (.string (textS xk))] rfl (by as_aux_lemma => kernel_rfl) (by as_aux_lemma => kernel_rfl) ?_ (some [3, 5, 12, 13, 14, 15, 16, 17, 18, 19, 20, 21, 22, 23, 24, 25, 26, 27, 28, 29]) (by as_aux_lemma => kernel_rfl) (fun f6 => [f5 0, f5 1, f5 2, .string (((out ++ textS xk) ++ textS xv) ++ intS xo), f5 4, f6 5, f5 6, f5 7, f5 8, f5 9, .slice (some ⟨b, off, none⟩) la ca, .int .i64 (la : Int), .int .i64 (k : Int), f6 13, f6 14, f6 15, f6 16, f6 17, f6 18, f6 19, f6 20, f6 21, f6 22, f6 23, f6 24, f6 25, f6 26, f6 27, f6 28, f6 29, f5 30]) (fun f6 => by as_aux_lemma => kernel_rfl) ?_
      · clear hBlk
        exact (ob_cons (show _ + _ ≤ _ by have := ZZ.out; rw [ByteArray.size_append, ByteArray.size_append, textS_size, textS_size, intS_size]; omega) (ob_cons (ob_kept Try.func59 (by kernel_rfl) rfl fun w' _ => int_any xo w') (ob_cons (show _ + _ ≤ _ by have := ZZ.out; rw [ByteArray.size_append, textS_size, textS_size]; omega) (ob_cons (ob_kept Try.func58 (by kernel_rfl) rfl fun w' _ => text_any xv (by have := ZZ.out; omega) w') (ob_cons (show _ + _ ≤ _ by have := ZZ.out; rw [textS_size]; omega) (ob_cons (ob_kept Try.func58 (by kernel_rfl) rfl fun w' _ => text_any xk (by have := ZZ.out; omega) w') ob_nil))))))
      intro f6 wm hbm
      clear hBlk
      replace HB := Lib.hid (HB.out.trans (Below.mono hbm HB.out.size))
      have HN2 : Hid (TOT = (xs.drop (k + 1)).foldl askS (((out ++ textS xk) ++ textS xv) ++ intS xo)) := HN.out
      obtain ⟨o2, ho2⟩ : ∃ o, (((out ++ textS xk) ++ textS xv) ++ intS xo) = o := ⟨_, rfl⟩
      rw [ho2] at HN2 ⊢
      clear ho2 hbm RN HN HZ ZZ
      go_wp2_with fail
      go_roundw
      case rel => exact ⟨k + 1, o2, by omega, rfl, by go_num, HN2.out, HB.out⟩
      case measure => simp [intOf]; omega
    · obtain rfl : k = la := by omega
      have HE : Hid (TOT = out) := by
        show _ = _
        rw [HP.out, List.drop_of_length_le (Nat.le_of_eq LX.out)]
        rfl
      clear HP
      replace HB := Lib.hid (Hb.out.trans (HB.out.mono Hb.out.size))
      go_wp2_with fail
      go_ret
      exact ⟨by rw [HE.out]; rfl, HB.out⟩

set_option maxRecDepth 100000 in
set_option maxHeartbeats 1600000 in
theorem refBeh_any (win pick : Int) (xs : List Policy) (ao : Option Addr) (la ca : Nat) (w : World) (hS : SlR (Flat Policy.cells) 3 w ao la ca xs) (hm : (behS win pick xs).size ≤ 9223372036854775807) :
    Calls Try.prog 64 #[.agg #[.int .i64 win, .int .i64 pick, .slice ao la ca]] w fun e w' => e = .returned (.string (behS win pick xs)) ∧ Below w.heap.size w w' := by
  have hac := hS.hcap; have ha := hS.hmax
  unfold maxLen at ha
  have G := Lib.hid hS
  have LX := Lib.hid hS.hlen
  obtain ⟨TOT, hT⟩ : ∃ t, behS win pick xs = t := ⟨_, rfl⟩
  rw [hT] at hm ⊢
  have TM := Lib.hid hm
  have HT : Hid (TOT = (xs.drop 0).foldl polS ((intS win ++ intS pick) ++ putS (u64 (la : Int)) 1)) := by
    show _ = _
    rw [← hT, ← LX.out]
    rfl
  clear hS hm hT
  go_enter Try.func64, Try.ntmps64
  go_upto_region 1 with fail
  have hb0 : Below w.heap.size w (w.alloc (.cells #[.int .i64 win, .int .i64 pick, .slice ao la ca] 39)) := (Below.refl w.heap.size w).alloc (Nat.le_refl _) _
  have R : Hid (RowAt (w.alloc (.cells #[.int .i64 win, .int .i64 pick, .slice ao la ca] 39)) w.heap.size [.int .i64 win, .int .i64 pick, .slice ao la ca]) := RowAt.of_heap (t := 39) (fr := (0, 0)) (by rw [heap_alloc_new])
  generalize w.alloc (.cells #[.int .i64 win, .int .i64 pick, .slice ao la ca] 39) = w1 at hb0 R ⊢
  replace G := Lib.hid (G.out.flatKeeps (Keeps.below hb0))
  have Hb := Lib.hid hb0
  obtain ⟨bo, hbo⟩ : ∃ n, w.heap.size = n := ⟨_, rfl⟩
  rw [hbo] at R ⊢
  clear hbo hb0
  have hBlk : BlkOk (fun k => (bo, 0)) w1 [(0, [.int .i64 win, .int .i64 pick, .slice ao la ca])] := (blk_cons (k := 0) R.out.from_ blk_nil)
  refine region_chain_all (N := 41) (Kept w1) (fun k => (bo, 0)) ⟨objSta, [(0, [.int .i64 win, .int .i64 pick, .slice ao la ca])], [(8, .string (intS win)), (11, .string (intS pick)), (17, .string (putS (u64 (la : Int)) 1))], []⟩ (by kernel_rfl) (by as_aux_lemma => kernel_rfl) (Kept.drawn w1) (tab_ok objSta_ok hBlk)
    [(1, .ptr 0 0)] [(1, .ptr 0 0), (3, .val (.string ((intS win ++ intS pick) ++ putS (u64 (la : Int)) 1)))] [.cat (intS win ++ intS pick) (putS (u64 (la : Int)) 1), .call 57 [.val (.int .u64 (u64 (la : Int))), .val (.int .i64 1)] (.string (putS (u64 (la : Int)) 1)), .cat (intS win) (intS pick), .call 59 [.val (.int .i64 pick)] (.string (intS pick)), .call 59 [.val (.int .i64 win)] (.string (intS win))] rfl (by as_aux_lemma => kernel_rfl) (by as_aux_lemma => kernel_rfl) ?_ none (by as_aux_lemma => kernel_rfl) (fun f1 => [f1 0, .pointer (some ⟨bo, 0, none⟩), f1 2, .string ((intS win ++ intS pick) ++ putS (u64 (la : Int)) 1), f1 4, f1 5, f1 6, f1 7, f1 8, f1 9, f1 10, f1 11, f1 12, f1 13, f1 14, f1 15, f1 16, f1 17, f1 18, f1 19, f1 20, f1 21, f1 22, f1 23, f1 24, f1 25, f1 26, f1 27, f1 28, f1 29, f1 30, f1 31, f1 32, f1 33, f1 34, f1 35, f1 36, f1 37, f1 38, f1 39, f1 40]) (fun f1 => by as_aux_lemma => kernel_rfl) ?_
  · clear hBlk
    exact (ob_cons (show _ + _ ≤ _ by rw [ByteArray.size_append, intS_size, intS_size, putS_size]; decide) (ob_cons (ob_kept Try.func57 (by kernel_rfl) rfl fun w' _ => put_any (u64 (la : Int)) 1 (by decide) (u64_b _).1 (u64_b _).2 w') (ob_cons (show _ + _ ≤ _ by rw [intS_size, intS_size]; decide) (ob_cons (ob_kept Try.func59 (by kernel_rfl) rfl fun w' _ => int_any pick w') (ob_cons (ob_kept Try.func59 (by kernel_rfl) rfl fun w' _ => int_any win w') ob_nil)))))
  intro f1 w4 hb4
  clear hBlk
  replace G := Lib.hid (G.out.flatKeeps (Keeps.below hb4))
  replace R := Lib.hid (RowAt.below hb4 rfl R.out)
  replace Hb := Lib.hid (Hb.out.trans (Below.mono hb4 Hb.out.size))
  clear hb4
  go_upto_region 2 with fail
  obtain ⟨p3, hp3⟩ : ∃ o : ByteArray, ((intS win ++ intS pick) ++ putS (u64 (la : Int)) 1) = o := ⟨_, rfl⟩
  rw [hp3] at HT ⊢
  clear hp3
  have hBlk : BlkOk (fun k => (bo, 0)) w4 [(0, [.int .i64 win, .int .i64 pick, .slice ao la ca])] := (blk_cons (k := 0) R.out.from_ blk_nil)
  refine region_chain (N := 41) (Kept w4) (fun k => (bo, 0)) ⟨objSta, [(0, [.int .i64 win, .int .i64 pick, .slice ao la ca])], [], []⟩ 4 (Kept.refl w4) (tab_ok objSta_ok hBlk)
    [(1, .ptr 0 0), (3, .val (.string p3))] [(3, .val (.string p3)), (20, .val (.slice ao la ca)), (21, .val (.int .i64 (la : Int))), (22, .val (.int .i64 0))] [] rfl (by as_aux_lemma => kernel_rfl) (by as_aux_lemma => kernel_rfl) ?_ none (by as_aux_lemma => kernel_rfl) (fun f5 => [f5 0, f5 1, f5 2, .string p3, f5 4, f5 5, f5 6, f5 7, f5 8, f5 9, f5 10, f5 11, f5 12, f5 13, f5 14, f5 15, f5 16, f5 17, f5 18, f5 19, .slice ao la ca, .int .i64 (la : Int), .int .i64 0, f5 23, f5 24, f5 25, f5 26, f5 27, f5 28, f5 29, f5 30, f5 31, f5 32, f5 33, f5 34, f5 35, f5 36, f5 37, f5 38, f5 39, f5 40]) (fun f5 => by as_aux_lemma => kernel_rfl) ?_
  · clear hBlk
    exact ob_nil
  intro f5 w5 hb5
  clear hBlk
  simp only [List.drop_succ_cons, List.drop_zero]
  replace G := Lib.hid (G.out.flatKeeps (Keeps.below hb5))
  replace Hb := Lib.hid (Hb.out.trans (Below.mono hb5 Hb.out.size))
  clear hb5 R
  go_wp2_with fail
  go_loopw [3, 22] (fun vo vi wr => ∃ (k : Nat) (out : ByteArray), k ≤ la ∧ vo = .string out ∧ vi = .int .i64 k ∧ Hid (TOT = (xs.drop k).foldl polS out) ∧ Hid (Below w5.heap.size w5 wr)) (fun _ vi _ => la - (intOf vi).toNat)
  case atStart => exact ⟨0, _, Nat.zero_le _, rfl, rfl, HT.out, Below.refl _ _⟩
  case round =>
    obtain ⟨k, out, hk, rfl, rfl, HP, HB⟩ := hrel
    obtain ⟨wq, rfl⟩ : ∃ wq : World, wq = wr := ⟨_, rfl⟩
    by_cases hlt : k < la
    · obtain ⟨b, off, rfl⟩ := G.out.ptr (by decide) (by omega)
      have kx : k < xs.length := by rw [LX.out]; exact hlt
      have hc := (G.out.flatKeeps (Keeps.below HB.out)).flat kx
      have c0 := hc 0 _ rfl
      have c1 := hc 1 _ rfl
      have c2 := hc 2 _ rfl
      rw [Nat.add_zero] at c0
      have HN : Hid (TOT = (xs.drop (k + 1)).foldl polS (polS out xs[k])) := by
        show _ = _
        rw [HP.out, List.drop_eq_getElem_cons kx, List.foldl_cons]
      have HZ : Hid ((polS out xs[k]).size ≤ 9223372036854775807) := Nat.le_trans (foldl_le polS_le (xs.drop (k + 1)) _) (by rw [← HN.out]; exact TM.out)
      obtain ⟨y, hy⟩ : ∃ y, xs[k] = y := ⟨_, rfl⟩
      rw [hy] at c0 c1 c2 HN HZ
      clear hy hc HP
      obtain ⟨xp, xv, xd⟩ := y
      dsimp only at c0 c1 c2
      have Z : out.size + 1 + 8 + 8 ≤ 9223372036854775807 := by
        have := HZ.out
        unfold polS at this
        rw [ByteArray.size_append, ByteArray.size_append, ByteArray.size_append, truthS_size, intS_size, intS_size] at this
        omega
      have ZZ := Lib.hid Z
      clear Z kx
      go_upto_region 5 with fail
      have hbn : Below wq.heap.size wq (wq.alloc (.cells #[.bool xp, .int .i64 xv, .int .i64 xd] 49)) := (Below.refl wq.heap.size wq).alloc (Nat.le_refl _) _
      have RN : Hid (RowAt (wq.alloc (.cells #[.bool xp, .int .i64 xv, .int .i64 xd] 49)) wq.heap.size [.bool xp, .int .i64 xv, .int .i64 xd]) := RowAt.of_heap (t := 49) (fr := (0, 0)) (by rw [heap_alloc_new])
      generalize wq.alloc (.cells #[.bool xp, .int .i64 xv, .int .i64 xd] 49) = wn at hbn RN ⊢
      replace HB := Lib.hid (HB.out.trans (Below.mono hbn HB.out.size))
      obtain ⟨bn, hbn2⟩ : ∃ n, wq.heap.size = n := ⟨_, rfl⟩
      rw [hbn2] at RN ⊢
      clear hbn hbn2 c0 c1 c2
      have hBlk : BlkOk (fun k => (bn, 0)) wn [(0, [.bool xp, .int .i64 xv, .int .i64 xd])] := (blk_cons (k := 0) RN.out.from_ blk_nil)
      refine region_chain_all (N := 41) (Kept wn) (fun k => (bn, 0)) ⟨objSta, [(0, [.bool xp, .int .i64 xv, .int .i64 xd])], [(29, .string (truthS xp)), (33, .string (intS xv)), (37, .string (intS xd))], []⟩ (by kernel_rfl) (by as_aux_lemma => kernel_rfl) (Kept.drawn wn) (tab_ok objSta_ok hBlk)
        [(20, .val (.slice (some ⟨b, off, none⟩) la ca)), (21, .val (.int .i64 (la : Int))), (22, .val (.int .i64 (k : Int))), (3, .val (.string out)), (5, .ptr 0 0)] [(20, .val (.slice (some ⟨b, off, none⟩) la ca)), (21, .val (.int .i64 (la : Int))), (22, .val (.int .i64 (k : Int))), (3, .val (.string (((out ++ truthS xp) ++ intS xv) ++ intS xd)))] [.cat ((out ++ truthS xp) ++ intS xv) (intS xd), .call 59 [.val (.int .i64 xd)] (.string (intS xd)), .cat (out ++ truthS xp) (intS xv), .call 59 [.val (.int .i64 xv)] (.string (intS xv)), .cat (out) (truthS xp), .call 63 [.val (.bool xp)] (.string (truthS xp))] rfl (by as_aux_lemma => kernel_rfl) (by as_aux_lemma => kernel_rfl) ?_ (some [3, 5, 22, 23, 24, 25, 26, 27, 28, 29, 30, 31, 32, 33, 34, 35, 36, 37, 38, 39]) (by as_aux_lemma => kernel_rfl) (fun f6 => [f5 0, f5 1, f5 2, .string (((out ++ truthS xp) ++ intS xv) ++ intS xd), f5 4, f6 5, f5 6, f5 7, f5 8, f5 9, f5 10, f5 11, f5 12, f5 13, f5 14, f5 15, f5 16, f5 17, f5 18, f5 19, .slice (some ⟨b, off, none⟩) la ca, .int .i64 (la : Int), .int .i64 (k : Int), f6 23, f6 24, f6 25, f6 26, f6 27, f6 28, f6 29, f6 30, f6 31, f6 32, f6 33, f6 34, f6 35, f6 36, f6 37, f6 38, f6 39, f5 40]) (fun f6 => by as_aux_lemma => kernel_rfl) ?_
      · clear hBlk
        exact (ob_cons (show _ + _ ≤ _ by have := ZZ.out; rw [ByteArray.size_append, ByteArray.size_append, truthS_size, intS_size, intS_size]; omega) (ob_cons (ob_kept Try.func59 (by kernel_rfl) rfl fun w' _ => int_any xd w') (ob_cons (show _ + _ ≤ _ by have := ZZ.out; rw [ByteArray.size_append, truthS_size, intS_size]; omega) (ob_cons (ob_kept Try.func59 (by kernel_rfl) rfl fun w' _ => int_any xv w') (ob_cons (show _ + _ ≤ _ by have := ZZ.out; rw [truthS_size]; omega) (ob_cons (ob_kept Try.func63 (by kernel_rfl) rfl fun w' _ => truth_any xp w') ob_nil))))))
      intro f6 wm hbm
      clear hBlk
      replace HB := Lib.hid (HB.out.trans (Below.mono hbm HB.out.size))
      have HN2 : Hid (TOT = (xs.drop (k + 1)).foldl polS (((out ++ truthS xp) ++ intS xv) ++ intS xd)) := HN.out
      obtain ⟨o2, ho2⟩ : ∃ o, (((out ++ truthS xp) ++ intS xv) ++ intS xd) = o := ⟨_, rfl⟩
      rw [ho2] at HN2 ⊢
      clear ho2 hbm RN HN HZ ZZ
      go_wp2_with fail
      go_roundw
      case rel => exact ⟨k + 1, o2, by omega, rfl, by go_num, HN2.out, HB.out⟩
      case measure => simp [intOf]; omega
    · obtain rfl : k = la := by omega
      have HE : Hid (TOT = out) := by
        show _ = _
        rw [HP.out, List.drop_of_length_le (Nat.le_of_eq LX.out)]
        rfl
      clear HP
      replace HB := Lib.hid (Hb.out.trans (HB.out.mono Hb.out.size))
      go_wp2_with fail
      go_ret
      exact ⟨by rw [HE.out]; rfl, HB.out⟩
end Go.Proofs.Ytpbppgfogepjeaa
