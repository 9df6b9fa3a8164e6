/- The contract of valid.Shape. Condition: the Hpa reads; its rows aren't long. -/
import Derived.Test.YtpbppgfogepjeaaAppendM
import Derived.Test.YtpbppgfogepjeaaRolEqM
import Derived.Test.YtpbppgfogepjeaaPhaseGM
import Derived.Test.YtpbppgfogepjeaaRightM
namespace Go.Proofs.Ytpbppgfogepjeaa
open Go.ChangeShapes Go.WideShapes Go.ChangeAt Go.RowKit Go.Deep

theorem aggHpa12 : AggOK Try.prog 42 12 := .mk' (by kernel_rfl) (by kernel_rfl)
theorem aggPol3 : AggOK Try.prog 49 3 := .mk' (by kernel_rfl) (by kernel_rfl)
theorem twoPol (a b : Policy) (w : World) : (Instr.buildSlice 37 2 [(0, .agg a.cells.toArray), (1, .agg b.cells.toArray)].toArray).run Try.prog w = .ok (.slice (some ⟨w.heap.size, 0, none⟩) 2 2) (w.alloc (.cells (a.cells ++ b.cells).toArray 49)) := by kernel_rfl
theorem onePol (a : Policy) (w : World) : (Instr.buildSlice 37 1 [(0, .agg a.cells.toArray)].toArray).run Try.prog w = .ok (.slice (some ⟨w.heap.size, 0, none⟩) 1 1) (w.alloc (.cells a.cells.toArray 49)) := by kernel_rfl
theorem wpList_store_into {P : Program} {ops : Array Oper} {rest : List Oper} {o : Oper} {a : Act} {w : World} {Q : Exit → Act → World → Prop} {T T' : TypeId} {size : Nat} (A : AggOK P T size) (hgd : o.guard = none) (p x : Operand) (ho : o.op = .store T p x) (hd : o.dst = none)
    (g f : Nat) (cur : Array Value) (cs : List Value) (new : Array Value) (hp : a.eval p = .pointer (some ⟨g, f, none⟩)) (hx : a.eval x = .agg cs.toArray) (hg : w.heap[g]? = some (.cells cur T' (0, 0))) (hs : cs.length = size) (hf : f + size ≤ cur.size) (h1 : cs.all (fun u => u.oneCell') = true)
    (hn : (cur.toList.take f ++ cs ++ cur.toList.drop (f + size)).toArray = new)
    (h : wpList P ops Q rest a (w.setRow g new)) : wpList P ops Q (o :: rest) a w := by
  subst hn
  refine wpList_plain hgd fun _ hK => ?_
  unfold Oper.wp execOp
  simp only [ho, hp, hx, Instr.storeAt, Instr.sureAddr, Sem.run_bind, Sem.run_pure, Result.andThen_ok, run_store_part A w g f cs hs (List.all_eq_true.1 h1) cur T' hg hf]
  rw [Oper.upon_skip, hd]
  exact hK _ _ h
theorem all_over {cur : Array Value} {cs : List Value} {n : Nat} (h : cur.size = n) : (cur.toList.take 0 ++ cs ++ cur.toList.drop (0 + n)).toArray = cs.toArray := by
  rw [List.drop_of_length_le (by simp; omega)]
  simp
structure NewR {α : Type} (f : α → List Value) (sz B : Nat) (w : World) (r : RowV α) : Prop where
  rd : SlR (Flat f) sz w r.ao r.la r.ca r.xs
  lo : ∀ a, r.ao = some a → B ≤ a.block
  hi : ∀ a, r.ao = some a → a.block < w.heap.size
theorem NewR.of {α : Type} {f : α → List Value} {sz B e n : Nat} {w : World} {v : Value} {xs : List α} (h : w.ownsRow B e sz v n (xs.flatMap f)) (hn : xs.length = n) (hf : ∀ x, (f x).length = sz) : ∃ r : RowV α, v = .slice r.ao r.la r.ca ∧ r.la = n ∧ r.xs = xs ∧ NewR f sz B w r := by
  obtain ⟨ao, cap, e1, hS, hl⟩ := SlR.of_owns h hn hf
  exact ⟨⟨ao, n, cap, xs⟩, e1, rfl, rfl, hS, hl, fun a e => (World.ownsRow.lt h a.block (by rw [e1, show ao = some a from e]; rfl)).2⟩
section
variable {α : Type} {f : α → List Value} {sz B : Nat} {w w' : World} {r : RowV α}
theorem NewR.below (h : NewR f sz B w r) (hb : Below w.heap.size w w') : NewR f sz B w' r := ⟨h.rd.flatKeeps (Keeps.below hb), h.lo, fun a e => Nat.lt_of_lt_of_le (h.hi a e) hb.size⟩
theorem NewR.fr (h : NewR f sz B w r) {S : Nat → Prop} (hf : Fr S w w') (hS : ∀ k, S k → k < B) : NewR f sz B w' r := ⟨h.rd.frG hf (fun a e hk => by have := h.lo a e; have := hS _ hk; omega), h.lo, fun a e => Nat.lt_of_lt_of_le (h.hi a e) hf.size⟩
theorem NewR.frA (h : NewR f sz B w r) {S : Nat → Prop} (hf : Fr S w w') (hS : ∀ a, r.ao = some a → ¬ S a.block) : NewR f sz B w' r := ⟨h.rd.frG hf hS, h.lo, fun a e => Nat.lt_of_lt_of_le (h.hi a e) hf.size⟩
theorem NewR.mono {B' : Nat} (h : NewR f sz B w r) (hB : B' ≤ B) : NewR f sz B' w r := ⟨h.rd, fun a e => Nat.le_trans hB (h.lo a e), h.hi⟩
end
structure ShSt (w0 w : World) (N : Nat) (h : HpaV) : Prop where
  var : w.heap[N]? = some (.cells h.cells12.toArray 42 (0, 0))
  res : w.heap[N + 1]? = some (.cells #[.string ⟨#[]⟩, .int .i64 0, .int .i64 0, .slice none 0 0, .int .i64 0, .int .i64 0, .int .i64 0, .slice none 0 0, .int .i64 0, .int .i64 0, .slice none 0 0, .slice none 0 0] 42 (0, 0))
  M : NewR Metric.cells 3 (N + 2) w h.M
  U : NewR Policy.cells 3 (N + 2) w h.up.P
  D : NewR Policy.cells 3 (N + 2) w h.down.P
  T : NewR Scaled.cells 3 (N + 2) w h.past
  below : Below N w0 w
section
variable {w0 w w' : World} {N : Nat} {h : HpaV}
theorem ShSt.lt (s : ShSt w0 w N h) : N + 1 < w.heap.size := (Array.getElem?_eq_some_iff.1 s.res).1
theorem ShSt.b (s : ShSt w0 w N h) (hb : Below w.heap.size w w') : ShSt w0 w' N h := by
  have := s.lt
  exact ⟨(hb.block N (by omega)).trans s.var, (hb.block _ (by omega)).trans s.res, s.M.below hb, s.U.below hb, s.D.below hb, s.T.below hb, s.below.trans (hb.mono (by omega))⟩
theorem ShSt.put {i : Nat} {v : Value} {h' : HpaV} (s : ShSt w0 w N h) (hv : h.cells12.toArray.setIfInBounds i v = h'.cells12.toArray) (hM : NewR Metric.cells 3 (N + 2) w h'.M) (hU : NewR Policy.cells 3 (N + 2) w h'.up.P) (hD : NewR Policy.cells 3 (N + 2) w h'.down.P) (hT : NewR Scaled.cells 3 (N + 2) w h'.past) :
    ShSt w0 (w.setCell ⟨N, i, none⟩ v) N h' := by
  have hf : Fr (fun k => k = N) w (w.setCell ⟨N, i, none⟩ v) := Fr.setC (fun k => k = N) w ⟨N, i, none⟩ _ rfl
  have := s.lt
  exact ⟨hv ▸ row_setCell s.var v, (hf.block _ (by omega) (by omega)).trans s.res, hM.fr hf (fun k hk => by omega), hU.fr hf (fun k hk => by omega), hD.fr hf (fun k hk => by omega), hT.fr hf (fun k hk => by omega), s.below.trans (hf.below (by omega) (fun k hk => by omega))⟩
end

set_option maxRecDepth 100000 in
set_option maxHeartbeats 4000000 in
theorem shape_any (h : HpaV) (w : World) (hS : HpaAt w h) (f1 : h.M.la ≤ 1000000) (f2 : h.up.P.la ≤ 1000000) (f3 : h.down.P.la ≤ 1000000) (f4 : h.past.la ≤ 1000000) :
    Calls Try.prog 10 #[.agg h.cells12.toArray] w fun e w' => ∃ M U D T, e = .returned (.agg (h.rows M U D T).cells12.toArray) ∧ h.M.Like M ∧ (rowU h.up).Like U ∧ (rowD h.down).Like D ∧ h.past.Like T ∧
      NewR Metric.cells 3 w.heap.size w' M ∧ NewR Policy.cells 3 w.heap.size w' U ∧ NewR Policy.cells 3 w.heap.size w' D ∧ NewR Scaled.cells 3 w.heap.size w' T ∧ Below w.heap.size w w' := by
  obtain ⟨w1, hw1⟩ : ∃ q, (w.alloc (.cells h.cells12.toArray 42)).alloc (.cells #[.string ⟨#[]⟩, .int .i64 0, .int .i64 0, .slice none 0 0, .int .i64 0, .int .i64 0, .int .i64 0, .slice none 0 0, .int .i64 0, .int .i64 0, .slice none 0 0, .slice none 0 0] 42) = q := ⟨_, rfl⟩
  have hb1 : Below w.heap.size w w1 := by rw [← hw1]; exact ((Below.refl _ _).alloc (Nat.le_refl _) _).alloc (by simp) _
  have hz1 : w1.heap.size = w.heap.size + 2 := by rw [← hw1]; simp
  have v1 : w1.heap[w.heap.size]? = some (.cells h.cells12.toArray 42 (0, 0)) := by
    rw [← hw1, Below.heap_alloc _ _ _ (by simp)]
    exact heap_alloc_new _ _
  have r1 : w1.heap[w.heap.size + 1]? = some (.cells #[.string ⟨#[]⟩, .int .i64 0, .int .i64 0, .slice none 0 0, .int .i64 0, .int .i64 0, .int .i64 0, .slice none 0 0, .int .i64 0, .int .i64 0, .slice none 0 0, .slice none 0 0] 42 (0, 0)) := by
    rw [← hw1]
    have := heap_alloc_new (w.alloc (.cells h.cells12.toArray 42)) (.cells #[.string ⟨#[]⟩, .int .i64 0, .int .i64 0, .slice none 0 0, .int .i64 0, .int .i64 0, .int .i64 0, .slice none 0 0, .int .i64 0, .int .i64 0, .slice none 0 0, .slice none 0 0] 42)
    rwa [World.size_alloc] at this
  have HM := Lib.hid (hS.M.flatKeeps (Keeps.below hb1))
  have HU := Lib.hid (hS.U.flatKeeps (Keeps.below hb1))
  have HD := Lib.hid (hS.D.flatKeeps (Keeps.below hb1))
  have HT := Lib.hid (hS.P.flatKeeps (Keeps.below hb1))
  obtain ⟨N, hN⟩ : ∃ N, w.heap.size = N := ⟨_, rfl⟩
  rw [hN] at v1 r1 hz1 hb1
  have c3 : w1.cell? ⟨N, 3, none⟩ = some (.slice h.M.ao h.M.la h.M.ca) := cell_of_row _ _ 3 _ _ _ v1
  have c7 : w1.cell? ⟨N, 7, none⟩ = some (.slice h.up.P.ao h.up.P.la h.up.P.ca) := cell_of_row _ _ 7 _ _ _ v1
  have c10 : w1.cell? ⟨N, 10, none⟩ = some (.slice h.down.P.ao h.down.P.la h.down.P.ca) := cell_of_row _ _ 10 _ _ _ v1
  have c11 : w1.cell? ⟨N, 11, none⟩ = some (.slice h.past.ao h.past.la h.past.ca) := cell_of_row _ _ 11 _ _ _ v1
  have V1 := Lib.hid v1
  have R1 := Lib.hid r1
  have HB1 := Lib.hid hb1
  have HN := Lib.hid hN
  have Hf := Lib.hid (And.intro f1 (And.intro f2 (And.intro f3 f4)))
  have hmix : Try.prog.follows .mixedOrders = true := by kernel_rfl
  clear v1 r1 hb1 hS f1 f2 f3 f4
  unfold HpaV.cells12 at hw1 ⊢
  go_enter Try.func10, Try.ntmps10
  go_upto_region 1 with fail
  refine region_later hmix ?_
  obtain ⟨wD, hwD⟩ : ∃ q : World, { w1 with drawn := w1.drawn + 1 } = q := ⟨_, rfl⟩
  have hbD : Below w1.heap.size w1 wD := by rw [← hwD]; exact ⟨rfl, rfl, rfl, Nat.le_refl _, fun _ _ => rfl⟩
  rw [hwD]
  refine later_phase (fun w' => ∃ b : BW w1, w' = b.w') [2, 6, 10, 13, 15, 18, 21, 23] 15 0 24 30 (by kernel_rfl) (by kernel_rfl) ⟨⟨wD, hbD⟩, rfl⟩ ?_
  have HbD := Lib.hid hbD
  clear hwD hbD
  repeat (first | (refine wpVal_skipR rfl ?_) | (refine wpVal_takeR rfl ?_; first | (refine wpVal_mem rfl rfl (fun K hK => ?_); refine ⟨_, by rintro _ ⟨bw, rfl⟩; have h3 := BW.cell c3 bw; have h7 := BW.cell c7 bw; have h10 := BW.cell c10 bw; have h11 := BW.cell c11 bw; go_simp; rfl, ?_⟩; go_simp; refine hK _ ?_; clear hK K) | (refine wpVal_oneK rfl (fun K hK => ?_); refine ⟨_, fun w => by go_simp; rfl, ?_⟩; go_simp; refine hK _ ?_; clear hK K)))
  refine wpVal_endR ?_
  refine wpLoud_call rfl rfl 29 [.tmp 5] _ rfl Try.func29 (by kernel_rfl) rfl [.slice h.M.ao h.M.la h.M.ca] (by as_aux_lemma => kernel_rfl) ((cloneMetric_any h.M.xs h.M.ao h.M.la h.M.ca wD (HM.out.flatKeeps (Keeps.below HbD.out)) Hf.out.1).mono ?_)
  rintro e w2 ⟨v, rfl, ho, hb⟩
  have Hb2 := Lib.hid (HbD.out.trans (hb.mono HbD.out.size))
  refine ⟨_, rfl, fun _ => ⟨⟨w2, Hb2.out⟩, rfl⟩, ?_⟩
  refine loudK (fun K hK => ?_)
  go_simp
  refine hK _ ?_
  clear hK K
  obtain ⟨M, hv, lM, xM, nM⟩ := NewR.of (f := Metric.cells) ho HM.out.hlen (fun _ => rfl)
  subst hv
  have NM := Lib.hid (nM.mono (show N + 2 ≤ wD.heap.size by have := HbD.out.size; omega))
  have BM := Lib.hid hb
  have QM := Lib.hid lM
  clear ho hb nM lM
  refine wpLoud_call rfl rfl 30 [.tmp 9] _ rfl Try.func30 (by kernel_rfl) rfl [.slice h.up.P.ao h.up.P.la h.up.P.ca] (by as_aux_lemma => kernel_rfl) ((clonePolicy_any h.up.P.xs h.up.P.ao h.up.P.la h.up.P.ca w2 (HU.out.flatKeeps (Keeps.below Hb2.out)) Hf.out.2.1).mono ?_)
  rintro e w3 ⟨v, rfl, ho, hb⟩
  have Hb3 := Lib.hid (Hb2.out.trans (hb.mono Hb2.out.size))
  refine ⟨_, rfl, fun _ => ⟨⟨w3, Hb3.out⟩, rfl⟩, ?_⟩
  refine loudK (fun K hK => ?_)
  go_simp
  refine hK _ ?_
  clear hK K
  obtain ⟨U, hv, lU, xU, nU⟩ := NewR.of (f := Policy.cells) ho HU.out.hlen (fun _ => rfl)
  subst hv
  have NU := Lib.hid (nU.mono (show N + 2 ≤ w2.heap.size by have := Hb2.out.size; omega))
  have BU := Lib.hid hb
  have QU := Lib.hid lU
  clear ho hb nU lU
  refine wpLoud_call rfl rfl 30 [.tmp 13] _ rfl Try.func30 (by kernel_rfl) rfl [.slice h.down.P.ao h.down.P.la h.down.P.ca] (by as_aux_lemma => kernel_rfl) ((clonePolicy_any h.down.P.xs h.down.P.ao h.down.P.la h.down.P.ca w3 (HD.out.flatKeeps (Keeps.below Hb3.out)) Hf.out.2.2.1).mono ?_)
  rintro e w4 ⟨v, rfl, ho, hb⟩
  have Hb4 := Lib.hid (Hb3.out.trans (hb.mono Hb3.out.size))
  refine ⟨_, rfl, fun _ => ⟨⟨w4, Hb4.out⟩, rfl⟩, ?_⟩
  refine loudK (fun K hK => ?_)
  go_simp
  refine hK _ ?_
  clear hK K
  obtain ⟨D, hv, lD, xD, nD⟩ := NewR.of (f := Policy.cells) ho HD.out.hlen (fun _ => rfl)
  subst hv
  have ND := Lib.hid (nD.mono (show N + 2 ≤ w3.heap.size by have := Hb3.out.size; omega))
  have BD := Lib.hid hb
  have QD := Lib.hid lD
  clear ho hb nD lD
  refine wpLoud_call rfl rfl 31 [.tmp 16] _ rfl Try.func31 (by kernel_rfl) rfl [.slice h.past.ao h.past.la h.past.ca] (by as_aux_lemma => kernel_rfl) ((cloneScaled_any h.past.xs h.past.ao h.past.la h.past.ca w4 (HT.out.flatKeeps (Keeps.below Hb4.out)) Hf.out.2.2.2).mono ?_)
  rintro e w5 ⟨v, rfl, ho, hb⟩
  have Hb5 := Lib.hid (Hb4.out.trans (hb.mono Hb4.out.size))
  refine ⟨_, rfl, fun _ => ⟨⟨w5, Hb5.out⟩, rfl⟩, ?_⟩
  refine loudK (fun K hK => ?_)
  go_simp
  refine hK _ ?_
  clear hK K
  obtain ⟨T, hv, lT, xT, nT⟩ := NewR.of (f := Scaled.cells) ho HT.out.hlen (fun _ => rfl)
  subst hv
  have NT := Lib.hid (nT.mono (show N + 2 ≤ w4.heap.size by have := Hb4.out.size; omega))
  have BT := Lib.hid hb
  have QT := Lib.hid lT
  clear ho hb nT lT
  have e5 : Below w4.heap.size w4 w5 := BT.out
  have e4 : Below w3.heap.size w3 w5 := BD.out.trans (e5.mono BD.out.size)
  have e3 : Below w2.heap.size w2 w5 := BU.out.trans (e4.mono BU.out.size)
  have pM := NM.out.below e3
  have pU := NU.out.below e4
  have pD := ND.out.below e5
  have pT := NT.out
  have row5 := (Hb5.out.block N (by omega)).trans V1.out
  have res5 := (Hb5.out.block (N + 1) (by omega)).trans R1.out
  have hz5 : N + 2 ≤ w5.heap.size := by have := Hb5.out.size; omega
  have row6 := row_setCell (i := 3) row5 (.slice M.ao M.la M.ca)
  have f6 : Fr (fun k => k = N) w5 (w5.setCell ⟨N, 3, none⟩ (.slice M.ao M.la M.ca)) := Fr.setC (fun k => k = N) w5 ⟨N, 3, none⟩ _ rfl
  refine wpLoud_store rfl rfl 36 (.tmp 18) (.tmp 6) rfl ⟨N, 3, none⟩ (.slice M.ao M.la M.ca) (by as_aux_lemma => kernel_rfl) (by as_aux_lemma => kernel_rfl) (storeSl1 _ (by kernel_rfl) (by rw [cell_of_row _ _ 3 _ _ _ row5]; rfl) (row_free row5 3)) ⟨fun h => absurd h (by decide), ?_⟩
  obtain ⟨w6, hw6⟩ : ∃ q, w5.setCell ⟨N, 3, none⟩ (.slice M.ao M.la M.ca) = q := ⟨_, rfl⟩
  rw [hw6] at row6 f6 ⊢
  refine loudK (fun K hK => ?_)
  go_simp
  refine hK _ ?_
  clear hK K
  have row7 := row_setCell (i := 7) row6 (.slice U.ao U.la U.ca)
  have f7 : Fr (fun k => k = N) w6 (w6.setCell ⟨N, 7, none⟩ (.slice U.ao U.la U.ca)) := Fr.setC (fun k => k = N) w6 ⟨N, 7, none⟩ _ rfl
  refine wpLoud_store rfl rfl 37 (.tmp 20) (.tmp 10) rfl ⟨N, 7, none⟩ (.slice U.ao U.la U.ca) (by as_aux_lemma => kernel_rfl) (by as_aux_lemma => kernel_rfl) (storeSl1 _ (by kernel_rfl) (by rw [cell_of_row _ _ 7 _ _ _ row6]; rfl) (row_free row6 7)) ⟨fun h => absurd h (by decide), ?_⟩
  obtain ⟨w7, hw7⟩ : ∃ q, w6.setCell ⟨N, 7, none⟩ (.slice U.ao U.la U.ca) = q := ⟨_, rfl⟩
  rw [hw7] at row7 f7 ⊢
  refine loudK (fun K hK => ?_)
  go_simp
  refine hK _ ?_
  clear hK K
  have row8 := row_setCell (i := 10) row7 (.slice D.ao D.la D.ca)
  have f8 : Fr (fun k => k = N) w7 (w7.setCell ⟨N, 10, none⟩ (.slice D.ao D.la D.ca)) := Fr.setC (fun k => k = N) w7 ⟨N, 10, none⟩ _ rfl
  refine wpLoud_store rfl rfl 37 (.tmp 22) (.tmp 14) rfl ⟨N, 10, none⟩ (.slice D.ao D.la D.ca) (by as_aux_lemma => kernel_rfl) (by as_aux_lemma => kernel_rfl) (storeSl1 _ (by kernel_rfl) (by rw [cell_of_row _ _ 10 _ _ _ row7]; rfl) (row_free row7 10)) ⟨fun h => absurd h (by decide), ?_⟩
  obtain ⟨w8, hw8⟩ : ∃ q, w7.setCell ⟨N, 10, none⟩ (.slice D.ao D.la D.ca) = q := ⟨_, rfl⟩
  rw [hw8] at row8 f8 ⊢
  refine loudK (fun K hK => ?_)
  go_simp
  refine hK _ ?_
  clear hK K
  have row9 := row_setCell (i := 11) row8 (.slice T.ao T.la T.ca)
  have f9 : Fr (fun k => k = N) w8 (w8.setCell ⟨N, 11, none⟩ (.slice T.ao T.la T.ca)) := Fr.setC (fun k => k = N) w8 ⟨N, 11, none⟩ _ rfl
  refine wpLoud_store rfl rfl 40 (.tmp 23) (.tmp 17) rfl ⟨N, 11, none⟩ (.slice T.ao T.la T.ca) (by as_aux_lemma => kernel_rfl) (by as_aux_lemma => kernel_rfl) (storeSl1 _ (by kernel_rfl) (by rw [cell_of_row _ _ 11 _ _ _ row8]; rfl) (row_free row8 11)) ⟨fun h => absurd h (by decide), ?_⟩
  obtain ⟨w9, hw9⟩ : ∃ q, w8.setCell ⟨N, 11, none⟩ (.slice T.ao T.la T.ca) = q := ⟨_, rfl⟩
  rw [hw9] at row9 f9 ⊢
  refine loudK (fun K hK => ?_)
  go_simp
  refine hK _ ?_
  clear hK K
  have f59 : Fr (fun k => k = N) w5 w9 := ((f6.trans f7 (fun i hi => .inl hi)).trans f8 (fun i hi => .inl hi)).trans f9 (fun i hi => .inl hi)
  have hB1 := HB1.out
  have S9 : Hid (ShSt w w9 N (h.rows M U D T)) := ⟨row9, (f59.block _ (by omega) (by omega)).trans res5, pM.fr f59 (fun k hk => by omega), pU.fr f59 (fun k hk => by omega), pD.fr f59 (fun k hk => by omega), pT.fr f59 (fun k hk => by omega), (hB1.trans (Hb5.out.mono (by omega))).trans (f59.below (by omega) (fun k hk => by omega))⟩
  have lM := QM.out
  have lU := QU.out
  have lD := QD.out
  have lT := QT.out
  have LM : Hid (h.M.Like M) := ⟨lM, xM⟩
  have LU : Hid (h.up.P.Like U) := ⟨lU, xU⟩
  have LD : Hid (h.down.P.Like D) := ⟨lD, xD⟩
  have LT : Hid (h.past.Like T) := ⟨lT, xT⟩
  have eU : fillB (h.rows M U D T).up = fillB h.up := by unfold fillB; show (((U.la : Int) == 0) && _) = _; rw [lU]; rfl
  have eD : fillB (h.rows M U D T).down = fillB h.down := by unfold fillB; show (((D.la : Int) == 0) && _) = _; rw [lD]; rfl
  have EU := Lib.hid eU
  have ED := Lib.hid eD
  have HLU := Lib.hid lU
  have HLD := Lib.hid lD
  clear e5 e4 e3 pM pU pD pT row5 res5 row6 row7 row8 row9 f6 f7 f8 f9 f59 hw6 hw7 hw8 hw9 hB1 eU eD lM xM lU xU lD xD lT xT NM NU ND NT BM BU BD BT Hb2 Hb3 Hb4 Hb5 V1 R1 HB1 c3 c7 c10 c11 HM HU HD HT HbD hz5
  refine wpLoud_nil ?_
  refine later_end 24 rfl ?_
  go_simp
  obtain ⟨w10, hw10⟩ : ∃ q, w9.alloc (.cells polA.cells.toArray 49) = q := ⟨_, rfl⟩
  obtain ⟨b3, hb3⟩ : ∃ q, w9.heap.size = q := ⟨_, rfl⟩
  have hb10 : Below w9.heap.size w9 w10 := by rw [← hw10]; exact (Below.refl _ _).alloc (Nat.le_refl _) _
  have p10 : w10.heap[b3]? = some (.cells polA.cells.toArray 49 (0, 0)) := by rw [← hw10, ← hb3]; exact heap_alloc_new _ _
  have S10 := Lib.hid (S9.out.b hb10)
  have hNb : N + 1 < b3 := by have := S9.out.lt; omega
  have P10 := Lib.hid p10
  have d7 : w10.cell? ⟨N, 7, none⟩ = some (.slice U.ao U.la U.ca) := cell_of_row _ _ 7 _ _ _ S10.out.var
  have d6 : w10.cell? ⟨N, 6, none⟩ = some (.int .i64 h.up.pick) := cell_of_row _ _ 6 _ _ _ S10.out.var
  clear hb10 p10 S9
  go_upto_region 3 with ((with_reducible refine at_slot 3 ?_); go_must (refine wpList_var aggPol3 rfl rfl rfl _ _ rfl rfl polA.cells.toArray rfl rfl rfl (by decide) ?_; rw [hw10, hb3]))
  go_simp
  clear hw10 hb3
  go_cut [35] from 25 to 34 (fun v wx => v = .bool (fillB h.up) ∧ w10 = wx)
  case first =>
    cases ea : ((h.up.P.la : Int) == 0)
    · have e : fillB h.up = false := by unfold fillB; rw [ea]; rfl
      have ea' : ((U.la : Int) == 0) = false := by rw [HLU.out]; exact ea
      go_wp2_with fail
      go_meet
      case rel => exact ⟨by rw [e], rfl⟩
    · obtain ⟨pq, hpq⟩ : ∃ q, (h.up.pick != 2) = q := ⟨_, rfl⟩
      have e : fillB h.up = pq := by unfold fillB; rw [ea, hpq]; rfl
      have ea' : ((U.la : Int) == 0) = true := by rw [HLU.out]; exact ea
      go_wp2_with fail
      go_meet
      case rel => exact ⟨by rw [e], rfl⟩
  case rest =>
    obtain ⟨rfl, rfl⟩ := hcut
    go_upto_if 35 with fail
    obtain ⟨fu, hfu⟩ : ∃ q, fillB h.up = q := ⟨_, rfl⟩
    rw [hfu]
    have HFu := Lib.hid hfu
    clear hfu
    go_cut [] from 36 to 40 (fun wx => ∃ U' : RowV Policy, Hid ((rowU h.up).Like U') ∧ Hid (ShSt w wx N (h.rows M U' D T)) ∧ Hid (wx.heap[b3]? = some (.cells polA.cells.toArray 49 (0, 0))))
    case first =>
      cases fu
      · have hU : Hid ((rowU h.up).Like U) := by show RowV.Like _ _; rw [rowU, HFu.out]; exact LU.out
        go_wp2_with fail
        go_meet
        case rel => exact ⟨U, hU, S10, P10⟩
      · obtain ⟨w11, hw11⟩ : ∃ q, w10.alloc (.cells (polA.cells ++ polB.cells).toArray 49) = q := ⟨_, rfl⟩
        obtain ⟨b8, hb8⟩ : ∃ q, w10.heap.size = q := ⟨_, rfl⟩
        have hB8 : Below w10.heap.size w10 w11 := by rw [← hw11]; exact (Below.refl _ _).alloc (Nat.le_refl _) _
        have hN8 : N + 2 ≤ b8 := by have := S10.out.lt; omega
        have s11 := S10.out.b hB8
        have m7 : w11.cell? ⟨N, 7, none⟩ = some (.slice U.ao U.la U.ca) := cell_of_row _ _ 7 _ _ _ s11.var
        have f7 := row_free s11.var 7
        have cP := block_part P10.out (i := 0) (n := 3) polA.cells rfl
        have hP8 : NewR Policy.cells 3 (N + 2) w11 ⟨some ⟨b8, 0, none⟩, 2, 2, [polA, polB]⟩ := ⟨by
          rw [← hw11, ← hb8]
          exact SlR.of_new (f := Policy.cells) (sz := 3) w10 [polA, polB] 49 _ 2 rfl (by unfold maxLen; omega) (fun _ => rfl) (by simp), fun a e => by cases e; exact hN8, fun a e => by cases e; show b8 < _; rw [← hw11, ← hb8]; simp⟩
        have hS : Hid (ShSt w (w11.setCell ⟨N, 7, none⟩ (.slice (some ⟨b8, 0, none⟩) 2 2)) N (h.rows M ⟨some ⟨b8, 0, none⟩, 2, 2, [polA, polB]⟩ D T)) := s11.put rfl s11.M hP8 s11.D s11.T
        have hpb : b3 < w10.heap.size := (Array.getElem?_eq_some_iff.1 P10.out).1
        have hP' : Hid ((w11.setCell ⟨N, 7, none⟩ (.slice (some ⟨b8, 0, none⟩) 2 2)).heap[b3]? = some (.cells polA.cells.toArray 49 (0, 0))) :=
          ((Fr.setC (fun k => k = N) w11 ⟨N, 7, none⟩ (.slice (some ⟨b8, 0, none⟩) 2 2) rfl).block b3 (by have := hB8.size; omega) (by omega)).trans ((hB8.block b3 hpb).trans P10.out)
        have hU : Hid ((rowU h.up).Like ⟨some ⟨b8, 0, none⟩, 2, 2, [polA, polB]⟩) := by show RowV.Like _ _; rw [rowU, HFu.out]; exact ⟨rfl, rfl⟩
        clear hB8 s11 hP8 hpb
        go_wp2_with (first
          | ((with_reducible refine at_slot 36 ?_); go_must (refine wpList_load_at aggPol3 rfl _ rfl ⟨b3, 0, none⟩ rfl polA.cells rfl cP ?_))
          | ((with_reducible refine at_slot 38 ?_); go_must (refine wpList_buildSlice rfl 37 2 [(0, _), (1, _)] rfl [(0, .agg polA.cells.toArray), (1, .agg polB.cells.toArray)] rfl _ _ (twoPol polA polB) ?_; rw [hw11, hb8])))
        go_meet
        case rel => exact ⟨_, hU, hS, hP'⟩
    case rest =>
      obtain ⟨U', LU', S12, P12⟩ := hcut
      obtain ⟨w12, rfl⟩ : ∃ w12 : World, w12 = wc := ⟨_, rfl⟩
      have d10 : w12.cell? ⟨N, 10, none⟩ = some (.slice D.ao D.la D.ca) := cell_of_row _ _ 10 _ _ _ S12.out.var
      have d9 : w12.cell? ⟨N, 9, none⟩ = some (.int .i64 h.down.pick) := cell_of_row _ _ 9 _ _ _ S12.out.var
      clear d7 d6 S10 P10
      go_upto_region 5 with fail
      go_cut [51] from 41 to 50 (fun v wx => v = .bool (fillB h.down) ∧ w12 = wx)
      case first =>
        cases ea : ((h.down.P.la : Int) == 0)
        · have e : fillB h.down = false := by unfold fillB; rw [ea]; rfl
          have ea' : ((D.la : Int) == 0) = false := by rw [HLD.out]; exact ea
          go_wp2_with fail
          go_meet
          case rel => exact ⟨by rw [e], rfl⟩
        · obtain ⟨pq, hpq⟩ : ∃ q, (h.down.pick != 2) = q := ⟨_, rfl⟩
          have e : fillB h.down = pq := by unfold fillB; rw [ea, hpq]; rfl
          have ea' : ((D.la : Int) == 0) = true := by rw [HLD.out]; exact ea
          go_wp2_with fail
          go_meet
          case rel => exact ⟨by rw [e], rfl⟩
      case rest =>
        obtain ⟨rfl, rfl⟩ := hcut
        go_upto_if 51 with fail
        obtain ⟨fd, hfd⟩ : ∃ q, fillB h.down = q := ⟨_, rfl⟩
        rw [hfd]
        have HFd := Lib.hid hfd
        clear hfd
        go_cut [] from 52 to 55 (fun wx => ∃ D' : RowV Policy, Hid ((rowD h.down).Like D') ∧ Hid (ShSt w wx N (h.rows M U' D' T)))
        case first =>
          cases fd
          · have hD : Hid ((rowD h.down).Like D) := by show RowV.Like _ _; rw [rowD, HFd.out]; exact LD.out
            go_wp2_with fail
            go_meet
            case rel => exact ⟨D, hD, S12⟩
          · obtain ⟨w11, hw11⟩ : ∃ q, w12.alloc (.cells polA.cells.toArray 49) = q := ⟨_, rfl⟩
            obtain ⟨b8, hb8⟩ : ∃ q, w12.heap.size = q := ⟨_, rfl⟩
            have hB8 : Below w12.heap.size w12 w11 := by rw [← hw11]; exact (Below.refl _ _).alloc (Nat.le_refl _) _
            have hN8 : N + 2 ≤ b8 := by have := S12.out.lt; omega
            have s11 := S12.out.b hB8
            have m10 : w11.cell? ⟨N, 10, none⟩ = some (.slice D.ao D.la D.ca) := cell_of_row _ _ 10 _ _ _ s11.var
            have f10 := row_free s11.var 10
            have cP := block_part P12.out (i := 0) (n := 3) polA.cells rfl
            have hP8 : NewR Policy.cells 3 (N + 2) w11 ⟨some ⟨b8, 0, none⟩, 1, 1, [polA]⟩ := ⟨by
              rw [← hw11, ← hb8]
              exact SlR.of_new (f := Policy.cells) (sz := 3) w12 [polA] 49 _ 1 rfl (by unfold maxLen; omega) (fun _ => rfl) (by simp), fun a e => by cases e; exact hN8, fun a e => by cases e; show b8 < _; rw [← hw11, ← hb8]; simp⟩
            have hS : Hid (ShSt w (w11.setCell ⟨N, 10, none⟩ (.slice (some ⟨b8, 0, none⟩) 1 1)) N (h.rows M U' ⟨some ⟨b8, 0, none⟩, 1, 1, [polA]⟩ T)) := s11.put rfl s11.M s11.U hP8 s11.T
            have hD : Hid ((rowD h.down).Like ⟨some ⟨b8, 0, none⟩, 1, 1, [polA]⟩) := by show RowV.Like _ _; rw [rowD, HFd.out]; exact ⟨rfl, rfl⟩
            clear hB8 s11 hP8
            go_wp2_with (first
              | ((with_reducible refine at_slot 52 ?_); go_must (refine wpList_load_at aggPol3 rfl _ rfl ⟨b3, 0, none⟩ rfl polA.cells rfl cP ?_))
              | ((with_reducible refine at_slot 53 ?_); go_must (refine wpList_buildSlice rfl 37 1 [(0, _)] rfl [(0, .agg polA.cells.toArray)] rfl _ _ (onePol polA) ?_; rw [hw11, hb8])))
            go_meet
            case rel => exact ⟨_, hD, hS⟩
        case rest =>
          obtain ⟨D', LD', S13⟩ := hcut
          obtain ⟨w13, rfl⟩ : ∃ w13 : World, w13 = wc := ⟨_, rfl⟩
          obtain ⟨gc, hgc⟩ : ∃ c, (h.rows M U' D' T).cells12 = c := ⟨_, rfl⟩
          have hgl : gc.length = 12 := by rw [← hgc]; rfl
          have hgo : gc.all (fun u => u.oneCell') = true := by rw [← hgc]; rfl
          have v13 := S13.out.var
          rw [hgc] at v13
          have c13 : ∀ j u, gc[j]? = some u → w13.cell? ((⟨N, 0, none⟩ : Addr).add j) = some u := fun j u hu => by
            rw [Addr.add_lit, Nat.zero_add, cell_of_row _ _ j _ _ _ v13]
            simpa using hu
          have hf : Fr (fun k => k = N + 1) w13 (w13.setRow (N + 1) gc.toArray) := Fr.setRow (fun k => k = N + 1) w13 (N + 1) _ rfl
          have h6 : (w13.setRow (N + 1) gc.toArray).heap[N + 1]? = some (.cells gc.toArray 42 (0, 0)) := setRow_heap S13.out.res
          have R13 := Lib.hid S13.out.res
          have H6 := Lib.hid h6
          have B6 := Lib.hid (S13.out.below.trans (hf.below (by have := S13.out.lt; omega) (fun k hk => by omega)))
          have qM := Lib.hid (S13.out.M.fr hf (fun k hk => by omega))
          have qU := Lib.hid (S13.out.U.fr hf (fun k hk => by omega))
          have qD := Lib.hid (S13.out.D.fr hf (fun k hk => by omega))
          have qT := Lib.hid (S13.out.T.fr hf (fun k hk => by omega))
          have Hgc := Lib.hid hgc
          clear v13 hf h6 d10 d9 S12 hgc
          go_wp2_with (first
            | ((with_reducible refine at_slot 56 ?_); go_must (refine wpList_load_at aggHpa12 rfl _ rfl ⟨N, 0, none⟩ rfl gc hgl c13 ?_))
            | (refine wpList_store_into aggHpa12 rfl _ _ rfl rfl (N + 1) 0 _ gc gc.toArray rfl rfl R13.out hgl (by decide) hgo (all_over rfl) ?_))
          go_simp
          refine bodyPost_ret (v := .agg gc.toArray) (results_cell_row rfl _ (w13.setRow (N + 1) gc.toArray) (N + 1) 42 _ (0, 0) _ rfl H6.out Try.underlying42 rfl (by rw [show gc.toArray.size = 12 by simp [hgl]]; kernel_rfl)) rfl ⟨M, U', D', T, by rw [← Hgc.out]; rfl, LM.out, LU'.out, LD'.out, LT.out, ?_⟩
          exact ⟨qM.out.mono (by omega), qU.out.mono (by omega), qD.out.mono (by omega), qT.out.mono (by omega), B6.out⟩
end Go.Proofs.Ytpbppgfogepjeaa
