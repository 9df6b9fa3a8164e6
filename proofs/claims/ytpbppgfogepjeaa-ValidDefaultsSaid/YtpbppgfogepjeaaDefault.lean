/- The contract of valid.Default. Condition: the object reads; its rows aren't long. -/
import Derived.Test.YtpbppgfogepjeaaShape
import Derived.Test.YtpbppgfogepjeaaClone
import Derived.Test.YtpbppgfogepjeaaCloneLaw2
import Derived.Test.YtpbppgfogepjeaaObI
namespace Go.Proofs.Ytpbppgfogepjeaa
open Go.ChangeShapes Go.WideShapes Go.ChangeAt Go.RowKit Go.Deep

theorem RowV.Like.trans {α : Type} {r s t : RowV α} (h : r.Like s) (k : s.Like t) : r.Like t := ⟨k.1.trans h.1, k.2.trans h.2⟩
structure NewO (B : Nat) (w : World) (o : ShapesV) : Prop where
  wL : NewR Label.cells 2 B w o.w.L
  wS : NewR Require.cells 3 B w o.w.S
  wT : NewR Label.cells 2 B w o.w.T
  pL : NewR Label.cells 2 B w o.p.L
  pS : NewR Require.cells 3 B w o.p.S
  pT : NewR Label.cells 2 B w o.p.T
  nL : NewR Label.cells 2 B w o.n.L
  nT : NewR Label.cells 2 B w o.n.T
  gL : NewR Label.cells 2 B w o.g.L
  gT : NewR Label.cells 2 B w o.g.T
  hM : NewR Metric.cells 3 B w o.h.M
  hU : NewR Policy.cells 3 B w o.h.up.P
  hD : NewR Policy.cells 3 B w o.h.down.P
  hP : NewR Scaled.cells 3 B w o.h.past
section
variable {B : Nat} {w w' : World} {o : ShapesV}
theorem NewO.shapes (h : NewO B w o) : ShapesAt w o := ⟨⟨h.wL.rd, h.wS.rd, h.wT.rd⟩, ⟨h.pL.rd, h.pS.rd, h.pT.rd⟩, ⟨h.nL.rd, h.nT.rd⟩, ⟨h.gL.rd, h.gT.rd⟩, ⟨h.hM.rd, h.hU.rd, h.hD.rd, h.hP.rd⟩⟩
theorem NewO.below (h : NewO B w o) (hb : Below w.heap.size w w') : NewO B w' o := ⟨h.wL.below hb, h.wS.below hb, h.wT.below hb, h.pL.below hb, h.pS.below hb, h.pT.below hb, h.nL.below hb, h.nT.below hb, h.gL.below hb, h.gT.below hb, h.hM.below hb, h.hU.below hb, h.hD.below hb, h.hP.below hb⟩
theorem NewO.fr (h : NewO B w o) {S : Nat → Prop} (hf : Fr S w w') (hS : ∀ k, S k → k < B) : NewO B w' o := ⟨h.wL.fr hf hS, h.wS.fr hf hS, h.wT.fr hf hS, h.pL.fr hf hS, h.pS.fr hf hS, h.pT.fr hf hS, h.nL.fr hf hS, h.nT.fr hf hS, h.gL.fr hf hS, h.gT.fr hf hS, h.hM.fr hf hS, h.hU.fr hf hS, h.hD.fr hf hS, h.hP.fr hf hS⟩
end
theorem newR_own {α : Type} {f : α → List Value} {sz B : Nat} {e : TypeId} {w : World} {r s : RowV α} (hf : ∀ x, (f x).length = sz) (h : w.ownsRow B e sz (.slice r.ao r.la r.ca) r.la (r.xs.flatMap f)) (hL : s.Like r) (hs : s.xs.length = s.la) : NewR f sz B w r :=
  ⟨row_own hf h hL hs, fun a e => by
    rcases h.2 with ⟨e1, _⟩ | ⟨g, _, _, e1, hg, _⟩
    · injection e1 with e1 _ _; rw [e1] at e; cases e
    · injection e1 with e1 _ _; rw [e1] at e; cases e; exact hg, fun a e => (World.ownsRow.lt h a.block (by rw [e]; rfl)).2⟩
theorem newO_own {B : Nat} {w0 w : World} {o : ShapesV} {r : Rows14} (h : r.Own B w) (hL : o.rows.Like r) (hS : ShapesAt w0 o) : NewO B w (o.with r) :=
  ⟨newR_own (fun _ => rfl) h.wL hL.wL hS.w.L.hlen, newR_own (fun _ => rfl) h.wS hL.wS hS.w.S.hlen, newR_own (fun _ => rfl) h.wT hL.wT hS.w.T.hlen, newR_own (fun _ => rfl) h.pL hL.pL hS.p.L.hlen, newR_own (fun _ => rfl) h.pS hL.pS hS.p.S.hlen, newR_own (fun _ => rfl) h.pT hL.pT hS.p.T.hlen,
   newR_own (fun _ => rfl) h.nL hL.nL hS.n.L.hlen, newR_own (fun _ => rfl) h.nT hL.nT hS.n.T.hlen, newR_own (fun _ => rfl) h.gL hL.gL hS.g.L.hlen, newR_own (fun _ => rfl) h.gT hL.gT hS.g.T.hlen, newR_own (fun _ => rfl) h.hM hL.hM hS.h.M.hlen, newR_own (fun _ => rfl) h.hU hL.hU hS.h.U.hlen, newR_own (fun _ => rfl) h.hD hL.hD hS.h.D.hlen, newR_own (fun _ => rfl) h.hP hL.hP hS.h.P.hlen⟩
theorem clone_ob (x : ObI) (w : World) (hS : ShapesAt w x.o) (few : x.o.rows.Few) : Calls Try.prog 27 #[.agg x.cells.toArray] w fun e w' => ∃ r : Rows14, e = .returned (.agg (ObI.mk x.kd x.nm x.ver (x.o.with r)).cells.toArray) ∧ x.o.rows.Like r ∧ NewO w.heap.size w' (x.o.with r) ∧ Below w.heap.size w w' :=
  (clone_any x.kd x.nm x.ver x.o w hS few).mono fun _ _ ⟨r, h1, h2, h3, h4⟩ => ⟨r, h1, h2, newO_own h3 h2 hS, h4⟩
structure DfSt (w0 w : World) (N : Nat) (x : ObI) : Prop where
  var : w.heap[N]? = some (.cells x.cells.toArray 44 (0, 0))
  res : ∃ cs : Array Value, cs.size = 47 ∧ w.heap[N + 1]? = some (.cells cs 44 (0, 0))
  new : NewO (N + 2) w x.o
  below : Below N w0 w
section
variable {w0 w w' : World} {N : Nat} {x : ObI}
theorem DfSt.lt (s : DfSt w0 w N x) : N + 1 < w.heap.size := by
  obtain ⟨_, _, h⟩ := s.res
  exact (Array.getElem?_eq_some_iff.1 h).1
theorem DfSt.b (s : DfSt w0 w N x) (hb : Below w.heap.size w w') : DfSt w0 w' N x := by
  have := s.lt
  obtain ⟨cs, h1, h2⟩ := s.res
  exact ⟨(hb.block N (by omega)).trans s.var, ⟨cs, h1, (hb.block _ (by omega)).trans h2⟩, s.new.below hb, s.below.trans (hb.mono (by omega))⟩
theorem DfSt.set (s : DfSt w0 w N x) {y : ObI} (hy : NewO (N + 2) w y.o) : DfSt w0 (w.setRow N y.cells.toArray) N y := by
  have := s.lt
  obtain ⟨cs, h1, h2⟩ := s.res
  have hf : Fr (fun k => k = N) w (w.setRow N y.cells.toArray) := Fr.setRow (fun k => k = N) w N _ rfl
  exact ⟨setRow_heap s.var, ⟨cs, h1, (hf.block _ (by omega) (by omega)).trans h2⟩, hy.fr hf (fun k hk => by omega), s.below.trans (hf.below (by omega) (fun k hk => by omega))⟩
theorem DfSt.put (s : DfSt w0 w N x) {i : Nat} {v : Value} {y : ObI} (hv : x.cells.toArray.setIfInBounds i v = y.cells.toArray) (hy : NewO (N + 2) w y.o) : DfSt w0 (w.setCell ⟨N, i, none⟩ v) N y := by
  have := s.lt
  obtain ⟨cs, h1, h2⟩ := s.res
  have hf : Fr (fun k => k = N) w (w.setCell ⟨N, i, none⟩ v) := Fr.setC (fun k => k = N) w ⟨N, i, none⟩ _ rfl
  exact ⟨hv ▸ row_setCell s.var v, ⟨cs, h1, (hf.block _ (by omega) (by omega)).trans h2⟩, hy.fr hf (fun k hk => by omega), s.below.trans (hf.below (by omega) (fun k hk => by omega))⟩
end
theorem rowU_like {b : BehV} {s : RowV Policy} (h : b.P.Like s) : (rowU b).Like (rowU { b with P := s }) := by
  have e : fillB { b with P := s } = fillB b := by unfold fillB; dsimp only; rw [h.1]
  unfold rowU
  rw [e]
  split
  · exact ⟨rfl, rfl⟩
  · exact h
theorem rowD_like {b : BehV} {s : RowV Policy} (h : b.P.Like s) : (rowD b).Like (rowD { b with P := s }) := by
  have e : fillB { b with P := s } = fillB b := by unfold fillB; dsimp only; rw [h.1]
  unfold rowD
  rw [e]
  split
  · exact ⟨rfl, rfl⟩
  · exact h
theorem def4 {kd : Int} {o : ShapesV} {r : Rows14} {M : RowV Metric} {U D : RowV Policy} {T : RowV Scaled} (hk : kd = 4) (h : o.rows.Like r) (hM : r.hM.Like M) (hU : (rowU (o.with r).h.up).Like U) (hD : (rowD (o.with r).h.down).Like D) (hT : r.hP.Like T) :
    { o.with r with h := (o.with r).h.rows M U D T } = (defV kd o).with { r with hM := M, hU := U, hD := D, hP := T } ∧ (defV kd o).rows.Like { r with hM := M, hU := U, hD := D, hP := T } := by
  unfold defV
  rw [if_pos hk]
  exact ⟨rfl, ⟨h.wL, h.wT, h.pL, h.pT, h.nL, h.nT, h.gL, h.gT, h.wS, h.pS, h.hM.trans hM, (rowU_like h.hU).trans hU, (rowD_like h.hD).trans hD, h.hP.trans hT⟩⟩
theorem def3 {kd : Int} {o : ShapesV} {r : Rows14} (h4 : kd ≠ 4) (hk : kd = 3) (h : o.rows.Like r) : { o.with r with g := clampV (o.with r).g } = (defV kd o).with r ∧ (defV kd o).rows.Like r := by
  unfold defV
  rw [if_neg h4, if_pos hk]
  exact ⟨rfl, ⟨h.wL, h.wT, h.pL, h.pT, h.nL, h.nT, h.gL, h.gT, h.wS, h.pS, h.hM, h.hU, h.hD, h.hP⟩⟩
theorem def0 {kd : Int} {o : ShapesV} {r : Rows14} (h4 : kd ≠ 4) (h3 : kd ≠ 3) (h : o.rows.Like r) : o.with r = (defV kd o).with r ∧ (defV kd o).rows.Like r := by
  unfold defV
  rw [if_neg h4, if_neg h3]
  exact ⟨rfl, h⟩

set_option maxRecDepth 100000 in
set_option maxHeartbeats 4000000 in
theorem default_any (x : ObI) (w : World) (hS : ShapesAt w x.o) (few : x.o.rows.Few) : Calls Try.prog 8 #[.agg x.cells.toArray] w fun e w' => ∃ r : Rows14, e = .returned (.agg (ObI.mk x.kd x.nm x.ver ((defV x.kd x.o).with r)).cells.toArray) ∧ (defV x.kd x.o).rows.Like r ∧
      ShapesAt w' ((defV x.kd x.o).with r) ∧ Below w.heap.size w w' := by
  have hcl : ∀ W, Below w.heap.size w W → _ := fun W hb => clone_ob x W (hS.b hb) few
  have Few := Lib.hid few
  obtain ⟨xc, hxe⟩ : ∃ c, x.cells = c := ⟨_, rfl⟩
  have hxl : xc.length = 47 := by rw [← hxe]; rfl
  rw [hxe] at hcl ⊢
  have Hcl := Lib.hid hcl
  have Hxe := Lib.hid hxe
  obtain ⟨N, hN⟩ : ∃ N, w.heap.size = N := ⟨_, rfl⟩
  have HN := Lib.hid hN
  clear hcl hxe hS few
  go_enter Try.func8, Try.ntmps8
  go_upto_region 1 with fail
  generalize hw1 : World.alloc (World.alloc w _) _ = w1
  have hb1 : Below w.heap.size w w1 := by rw [← hw1]; exact ((Below.refl _ _).alloc (Nat.le_refl _) _).alloc (by simp) _
  have hz1 : w1.heap.size = N + 2 := by rw [← hw1, ← HN.out]; simp
  have v1 : w1.heap[N]? = some (.cells xc.toArray 44 (0, 0)) := by
    rw [← hw1, ← HN.out, Below.heap_alloc _ _ _ (by simp)]
    exact heap_alloc_new _ _
  have r1 : ∃ cs : Array Value, cs.size = 47 ∧ w1.heap[N + 1]? = some (.cells cs 44 (0, 0)) := by
    refine ⟨(default : ObI).cells.toArray, rfl, ?_⟩
    rw [← hw1, ← HN.out]
    have e := heap_alloc_new (w.alloc (.cells xc.toArray 44)) (.cells (default : ObI).cells.toArray 44)
    rw [World.size_alloc] at e
    exact e
  have V1 := Lib.hid v1
  have R1 := Lib.hid r1
  have HB1 := Lib.hid hb1
  have cx1 : ∀ j u, xc[j]? = some u → w1.cell? ((⟨N, 0, none⟩ : Addr).add j) = some u := fun j u hu => by
    rw [Addr.add_lit, Nat.zero_add, cell_of_row _ _ j _ _ _ v1]
    simpa using hu
  clear v1 r1 hb1 hw1
  try rw [hN]
  go_wp2_with ((with_reducible refine at_slot 3 ?_); go_must (refine wpList_load_at aggObI rfl _ rfl ⟨N, 0, none⟩ rfl xc hxl cx1 ?_))
  refine (Hcl.out w1 HB1.out).mono ?_
  rintro e w2 ⟨r, rfl, hL, hnw, hb2⟩
  rw [hz1] at hnw
  obtain ⟨y, hy⟩ : ∃ y, ObI.mk x.kd x.nm x.ver (x.o.with r) = y := ⟨_, rfl⟩
  have hyo : y.o = x.o.with r := by rw [← hy]
  have hykd : y.kd = x.kd := by rw [← hy]
  rw [hy]
  have hD1 : DfSt w w2 N (ObI.mk x.kd x.nm x.ver x.o) → DfSt w (w2.setRow N y.cells.toArray) N y := fun s => s.set (by rw [hyo]; exact hnw)
  have v2 := (hb2.block N (by omega)).trans V1.out
  have hD3 : DfSt w (w2.setRow N y.cells.toArray) N y := by
    obtain ⟨cs, e1, e2⟩ := R1.out
    have hf : Fr (fun k => k = N) w2 (w2.setRow N y.cells.toArray) := Fr.setRow (fun k => k = N) w2 N _ rfl
    have hz2 : N + 2 ≤ w2.heap.size := by have := hb2.size; omega
    have hB1 := HB1.out
    rw [HN.out] at hB1
    refine ⟨setRow_heap v2, ⟨cs, e1, (hf.block _ (by omega) (by omega)).trans ((hb2.block _ (by omega)).trans e2)⟩, ?_, ((hB1.trans (hb2.mono (by omega))).trans (hf.below (by omega) (fun k hk => by omega)))⟩
    rw [hyo]
    exact hnw.fr hf (fun k hk => by omega)
  obtain ⟨yc, hyc⟩ : ∃ c, y.cells = c := ⟨_, rfl⟩
  have hyl : yc.length = 47 := by rw [← hyc]; rfl
  have hyon : yc.all (fun u => u.oneCell') = true := by rw [← hyc]; exact y.one
  rw [hyc] at hD3 ⊢
  have k0 := y.h0
  rw [hykd] at k0
  have V2 := Lib.hid v2
  clear hD1 v2 hb2 cx1 V1 R1 Hcl hnw
  go_upto_region 2 with (refine wpList_store_into aggObI rfl _ _ rfl rfl N 0 xc.toArray yc yc.toArray rfl rfl V2.out hyl (by simp [hxl]) hyon (all_over (by simp [hxl])) ?_)
  obtain ⟨w3, hw3⟩ : ∃ q, w2.setRow N yc.toArray = q := ⟨_, rfl⟩
  rw [hw3] at hD3 ⊢
  have D3 := Lib.hid hD3
  have v3 := hD3.var
  have q0 : w3.cell? ⟨N, 0, none⟩ = some (.int .i64 x.kd) := by rw [cell_of_row _ _ 0 _ _ _ v3]; simpa using k0
  have hz3 : N + 1 < w3.heap.size := hD3.lt
  have Hyc := Lib.hid hyc
  have Hyo := Lib.hid hyo
  have Hy := Lib.hid hy
  clear hD3 hw3 V2 k0 hyo
  by_cases h4 : x.kd = 4
  · rw [h4] at q0
    have K4 := Lib.hid h4
    clear h4
    have cH : ∀ j u, y.o.h.cells12[j]? = some u → w3.cell? ((⟨N, 35, none⟩ : Addr).add j) = some u := block_part v3 (i := 35) (n := 12) y.o.h.cells12 rfl
    have HSh := shape_any y.o.h w3 D3.out.new.shapes.h (by rw [Hyo.out]; have := Few.out.hM; have := hL.hM.1; show r.hM.la ≤ _; omega) (by rw [Hyo.out]; have := Few.out.hU; have := hL.hU.1; show r.hU.la ≤ _; omega) (by rw [Hyo.out]; have := Few.out.hD; have := hL.hD.1; show r.hD.la ≤ _; omega) (by rw [Hyo.out]; have := Few.out.hP; have := hL.hP.1; show r.hP.la ≤ _; omega)
    obtain ⟨hc, hhc⟩ : ∃ c, y.o.h.cells12 = c := ⟨_, rfl⟩
    have hhl : hc.length = 12 := by rw [← hhc]; rfl
    rw [hhc] at cH HSh
    have HSh := Lib.hid HSh
    clear v3
    go_wp2_with ((with_reducible refine at_slot 10 ?_); go_must (refine wpList_load_at aggHpa12 rfl _ rfl ⟨N, 35, none⟩ rfl hc hhl cH ?_))
    refine HSh.out.mono ?_
    rintro e w4 ⟨M, U, D, T, rfl, lM, lU, lD, lT, nM, nU, nD, nT, hb4⟩
    obtain ⟨z, hz⟩ : ∃ z, ObI.mk y.kd y.nm y.ver { y.o with h := y.o.h.rows M U D T } = z := ⟨_, rfl⟩
    have hn : (y.cells.take 35 ++ (y.o.h.rows M U D T).cells12 ++ y.cells.drop 47) = z.cells := by rw [← hz]; rfl
    have hD4 := D3.out.b hb4
    have hN4 : NewO (N + 2) w4 z.o := by
      have o4 := hD4.new
      rw [← hz]
      exact ⟨o4.wL, o4.wS, o4.wT, o4.pL, o4.pS, o4.pT, o4.nL, o4.nT, o4.gL, o4.gT, nM.mono (by omega), nU.mono (by omega), nD.mono (by omega), nT.mono (by omega)⟩
    have hD5 := hD4.set hN4
    have V4 := Lib.hid hD4.var
    obtain ⟨gc, hgc⟩ : ∃ c, (y.o.h.rows M U D T).cells12 = c := ⟨_, rfl⟩
    have hgl : gc.length = 12 := by rw [← hgc]; rfl
    have hgo : gc.all (fun u => u.oneCell') = true := by rw [← hgc]; rfl
    obtain ⟨zc, hzc⟩ : ∃ c, z.cells = c := ⟨_, rfl⟩
    have hzl : zc.length = 47 := by rw [← hzc]; rfl
    have hzo : zc.all (fun u => u.oneCell') = true := by rw [← hzc]; exact z.one
    rw [hgc, hzc, Hyc.out] at hn
    rw [hgc]
    rw [hzc] at hD5
    rw [Hyc.out] at V4
    have hfin : ∃ r' : Rows14, z = ObI.mk x.kd x.nm x.ver ((defV x.kd x.o).with r') ∧ (defV x.kd x.o).rows.Like r' := by
      rw [Hyo.out] at lM lU lD lT
      obtain ⟨a1, a2⟩ := def4 K4.out hL lM lU lD lT
      exact ⟨_, by rw [← hz, ← Hy.out, ← a1], a2⟩
    have Hfin := Lib.hid hfin
    have Hz := Lib.hid hzc
    have HNz := Lib.hid (hN4)
    clear lM lU lD lT nM nU nD nT hb4 hD4 HSh cH hhc hz hgc hzc hfin hN4
    go_upto_region 7 with (refine wpList_store_into aggHpa12 rfl _ _ rfl rfl N 35 yc.toArray gc zc.toArray rfl rfl V4.out hgl (by simp [hyl]) hgo (by rw [← hn]) ?_)
    obtain ⟨w5, hw5⟩ : ∃ q, w4.setRow N zc.toArray = q := ⟨_, rfl⟩
    rw [hw5] at hD5 ⊢
    have D5 := Lib.hid hD5
    clear hD5 hw5
    have v5 := D5.out.var
    rw [Hz.out] at v5
    obtain ⟨cs, hcs, r5⟩ := D5.out.res
    have c5 : ∀ j u, zc[j]? = some u → w5.cell? ((⟨N, 0, none⟩ : Addr).add j) = some u := fun j u hu => by
      rw [Addr.add_lit, Nat.zero_add, cell_of_row _ _ j _ _ _ v5]
      simpa using hu
    have hf6 : Fr (fun k => k = N + 1) w5 (w5.setRow (N + 1) zc.toArray) := Fr.setRow (fun k => k = N + 1) w5 (N + 1) _ rfl
    have h6 : (w5.setRow (N + 1) zc.toArray).heap[N + 1]? = some (.cells zc.toArray 44 (0, 0)) := setRow_heap r5
    have hB6 := D5.out.below.trans (hf6.below (by have := D5.out.lt; omega) (fun k hk => by omega))
    have hN6 := D5.out.new.fr hf6 (fun k hk => by omega)
    have R5 := Lib.hid r5
    have H6 := Lib.hid h6
    have B6 := Lib.hid hB6
    have N6 := Lib.hid hN6
    clear v5 r5 hf6 h6 hB6 hN6
    go_wp2_with (first
      | ((with_reducible refine at_slot 28 ?_); go_must (refine wpList_load_at aggObI rfl _ rfl ⟨N, 0, none⟩ rfl zc hzl c5 ?_))
      | (refine wpList_store_into aggObI rfl _ _ rfl rfl (N + 1) 0 cs zc zc.toArray rfl rfl R5.out hzl (by omega) hzo (all_over hcs) ?_))
    go_simp
    obtain ⟨r', e1, e2⟩ := Hfin.out
    refine bodyPost_ret (v := .agg zc.toArray) (results_cell_row rfl _ (w5.setRow (N + 1) zc.toArray) (N + 1) 44 _ (0, 0) _ rfl H6.out Try.underlying44 rfl (by rw [show zc.toArray.size = 47 by simp [hzl]]; kernel_rfl)) rfl ⟨r', by rw [← Hz.out, e1], e2, ?_, B6.out⟩
    have := N6.out.shapes
    rw [e1] at this
    exact this
  · by_cases h3 : x.kd = 3
    · rw [h3] at q0
      have K3 := Lib.hid h3
      clear h3
      have t29 : w3.cell? ⟨N, 29, none⟩ = some (.int .i64 y.o.g.target) := by rw [cell_of_row _ _ 29 _ _ _ v3]; rfl
      have t27 : w3.cell? ⟨N, 27, none⟩ = some (.int .i64 y.o.g.min) := by rw [cell_of_row _ _ 27 _ _ _ v3]; rfl
      have t28 : w3.cell? ⟨N, 28, none⟩ = some (.int .i64 y.o.g.max) := by rw [cell_of_row _ _ 28 _ _ _ v3]; rfl
      have fr29 := row_free v3 29
      obtain ⟨z, hz⟩ : ∃ z, ObI.mk y.kd y.nm y.ver { y.o with g := clampV y.o.g } = z := ⟨_, rfl⟩
      obtain ⟨tg, htg⟩ : ∃ q, min (max y.o.g.target y.o.g.min) y.o.g.max = q := ⟨_, rfl⟩
      have hput : y.cells.toArray.setIfInBounds 29 (.int .i64 tg) = z.cells.toArray := by rw [← hz, ← htg]; rfl
      have hN3 : NewO (N + 2) w3 z.o := by
        have o3 := D3.out.new
        rw [← hz]
        exact ⟨o3.wL, o3.wS, o3.wT, o3.pL, o3.pS, o3.pT, o3.nL, o3.nT, o3.gL, o3.gT, o3.hM, o3.hU, o3.hD, o3.hP⟩
      have hD5 : DfSt w (w3.setCell ⟨N, 29, none⟩ (.int .i64 tg)) N z := D3.out.put hput hN3
      obtain ⟨zc, hzc⟩ : ∃ c, z.cells = c := ⟨_, rfl⟩
      have hzl : zc.length = 47 := by rw [← hzc]; rfl
      have hzo : zc.all (fun u => u.oneCell') = true := by rw [← hzc]; exact z.one
      have hfin : ∃ r' : Rows14, z = ObI.mk x.kd x.nm x.ver ((defV x.kd x.o).with r') ∧ (defV x.kd x.o).rows.Like r' := by
        obtain ⟨a1, a2⟩ := def3 h4 K3.out hL
        exact ⟨_, by rw [← hz, ← Hy.out, ← a1], a2⟩
      have Hfin := Lib.hid hfin
      have Hz := Lib.hid hzc
      clear hz hput hN3 hzc hfin v3
      go_upto_region 7 with fail
      obtain ⟨w5, hw5⟩ : ∃ q, w3.setCell ⟨N, 29, none⟩ (.int .i64 tg) = q := ⟨_, rfl⟩
      rw [hw5] at hD5 ⊢
      have D5 := Lib.hid hD5
      clear hD5 hw5
      have v5 := D5.out.var
      rw [Hz.out] at v5
      obtain ⟨cs, hcs, r5⟩ := D5.out.res
      have c5 : ∀ j u, zc[j]? = some u → w5.cell? ((⟨N, 0, none⟩ : Addr).add j) = some u := fun j u hu => by
        rw [Addr.add_lit, Nat.zero_add, cell_of_row _ _ j _ _ _ v5]
        simpa using hu
      have hf6 : Fr (fun k => k = N + 1) w5 (w5.setRow (N + 1) zc.toArray) := Fr.setRow (fun k => k = N + 1) w5 (N + 1) _ rfl
      have h6 : (w5.setRow (N + 1) zc.toArray).heap[N + 1]? = some (.cells zc.toArray 44 (0, 0)) := setRow_heap r5
      have hB6 := D5.out.below.trans (hf6.below (by have := D5.out.lt; omega) (fun k hk => by omega))
      have hN6 := D5.out.new.fr hf6 (fun k hk => by omega)
      have R5 := Lib.hid r5
      have H6 := Lib.hid h6
      have B6 := Lib.hid hB6
      have N6 := Lib.hid hN6
      clear v5 r5 hf6 h6 hB6 hN6
      go_wp2_with (first
        | ((with_reducible refine at_slot 28 ?_); go_must (refine wpList_load_at aggObI rfl _ rfl ⟨N, 0, none⟩ rfl zc hzl c5 ?_))
        | (refine wpList_store_into aggObI rfl _ _ rfl rfl (N + 1) 0 cs zc zc.toArray rfl rfl R5.out hzl (by omega) hzo (all_over hcs) ?_))
      go_simp
      obtain ⟨r', e1, e2⟩ := Hfin.out
      refine bodyPost_ret (v := .agg zc.toArray) (results_cell_row rfl _ (w5.setRow (N + 1) zc.toArray) (N + 1) 44 _ (0, 0) _ rfl H6.out Try.underlying44 rfl (by rw [show zc.toArray.size = 47 by simp [hzl]]; kernel_rfl)) rfl ⟨r', by rw [← Hz.out, e1], e2, ?_, B6.out⟩
      have := N6.out.shapes
      rw [e1] at this
      exact this
    · have hfin : ∃ r' : Rows14, y = ObI.mk x.kd x.nm x.ver ((defV x.kd x.o).with r') ∧ (defV x.kd x.o).rows.Like r' := by
        obtain ⟨a1, a2⟩ := def0 h4 h3 hL
        exact ⟨_, by rw [← Hy.out, ← a1], a2⟩
      have e4 : (x.kd == 4) = false := beq_eq_false_iff_ne.2 h4
      have e3 : (x.kd == 3) = false := beq_eq_false_iff_ne.2 h3
      have Hfin := Lib.hid hfin
      clear hfin v3
      go_upto_region 7 with fail
      obtain ⟨z, hzy⟩ : ∃ z, y = z := ⟨_, rfl⟩
      obtain ⟨w5, hw5⟩ : ∃ q, w3 = q := ⟨_, rfl⟩
      obtain ⟨zc, hzc⟩ : ∃ q, yc = q := ⟨_, rfl⟩
      rw [hw5]
      have D5 : Hid (DfSt w w5 N z) := by rw [← hzy, ← hw5]; exact D3
      have Hz : Hid (z.cells = zc) := by rw [← hzy, ← hzc]; exact Hyc
      have hzl : zc.length = 47 := by rw [← hzc]; exact hyl
      have hzo : zc.all (fun u => u.oneCell') = true := by rw [← hzc]; exact hyon
      have Hfin : Hid (∃ r' : Rows14, z = ObI.mk x.kd x.nm x.ver ((defV x.kd x.o).with r') ∧ (defV x.kd x.o).rows.Like r') := by rw [← hzy]; exact Hfin
      clear hzy hw5 hzc
      have v5 := D5.out.var
      rw [Hz.out] at v5
      obtain ⟨cs, hcs, r5⟩ := D5.out.res
      have c5 : ∀ j u, zc[j]? = some u → w5.cell? ((⟨N, 0, none⟩ : Addr).add j) = some u := fun j u hu => by
        rw [Addr.add_lit, Nat.zero_add, cell_of_row _ _ j _ _ _ v5]
        simpa using hu
      have hf6 : Fr (fun k => k = N + 1) w5 (w5.setRow (N + 1) zc.toArray) := Fr.setRow (fun k => k = N + 1) w5 (N + 1) _ rfl
      have h6 : (w5.setRow (N + 1) zc.toArray).heap[N + 1]? = some (.cells zc.toArray 44 (0, 0)) := setRow_heap r5
      have hB6 := D5.out.below.trans (hf6.below (by have := D5.out.lt; omega) (fun k hk => by omega))
      have hN6 := D5.out.new.fr hf6 (fun k hk => by omega)
      have R5 := Lib.hid r5
      have H6 := Lib.hid h6
      have B6 := Lib.hid hB6
      have N6 := Lib.hid hN6
      clear v5 r5 hf6 h6 hB6 hN6
      go_wp2_with (first
        | ((with_reducible refine at_slot 28 ?_); go_must (refine wpList_load_at aggObI rfl _ rfl ⟨N, 0, none⟩ rfl zc hzl c5 ?_))
        | (refine wpList_store_into aggObI rfl _ _ rfl rfl (N + 1) 0 cs zc zc.toArray rfl rfl R5.out hzl (by omega) hzo (all_over hcs) ?_))
      go_simp
      obtain ⟨r', e1, e2⟩ := Hfin.out
      refine bodyPost_ret (v := .agg zc.toArray) (results_cell_row rfl _ (w5.setRow (N + 1) zc.toArray) (N + 1) 44 _ (0, 0) _ rfl H6.out Try.underlying44 rfl (by rw [show zc.toArray.size = 47 by simp [hzl]]; kernel_rfl)) rfl ⟨r', by rw [← Hz.out, e1], e2, ?_, B6.out⟩
      have := N6.out.shapes
      rw [e1] at this
      exact this
end Go.Proofs.Ytpbppgfogepjeaa
