/- The contract of rollout.Plan. Condition: the objects read, at most 1000; rules that may be, a workload of few replicas. -/
import Derived.Test.YtpbppgfogepjeaaRolMidM
import Derived.BigRegion
namespace Go.Proofs.Ytpbppgfogepjeaa
open Go.ChangeShapes Go.WideShapes Go.ChangeAt Go.RowKit Go.Deep

theorem upon_callP {P : Program} {A : Act} {w : World} {o : Oper} {next : Value → World → Prop} (f : Nat) (args : List Operand) (ats : Array TypeId) (hop : o.op = .call { callee := .value (.func f), args := args.toArray, argTypes := ats }) {fn : Func} {c : Code} (hf : P.funcs[f]? = some fn)
    (hn : (fn.name == "runtime.NumGoroutine") = false) (hb : fn.body = some c) (vs : List Value) (hv : args.map A.eval = vs) (h : Calls P f vs.toArray w fun e w' => ∃ v, e = .returned v ∧ next v w') : loudUpon P next ((execOp A.eval o).run P w) := by
  have h2' : fn.name ≠ "runtime.NumGoroutine" := by simpa using hn
  have h3' : fn.body ≠ none := by rw [hb]; intro e; cases e
  have e2 : (execOp A.eval o).run P w = .ok (.enter f vs.toArray) w := by
    unfold execOp
    have e : (args.toArray.map A.eval) = vs.toArray := by rw [← hv]; simp
    simp only [hop, resolve, e]
    simp [Act.eval, Deferred.ofValue, invoke, callFunc, hf, h2', h3']
  rw [e2]
  exact h

theorem aggStep : AggOK Try.prog 70 3 := .mk' (by kernel_rfl) (by kernel_rfl)
theorem stepI_val (x : ObI) (rep s a : Int) (L1 L2 : List ObI) (n1 n2 : Nat) (r1 r2 mu sp c M sp1 : Int) (ns1 : List ByteArray) (sp2 : Int) (ns2 : List ByteArray) (hn1 : L1.length = n1) (hn2 : L2.length = n2) (hr1 : rdy (pvI x) L1 = r1) (hr2 : rdy (pvI x) L2 = r2) (hmu : max (rep - a) 0 = mu) (hsp : r1 + r2 - mu = sp)
    (hc : max 0 (min (rep - (n2 : Int)) (rep + s - n1 - n2)) = c) (hg1 : L1.foldl (gStep (pvI x) n1) (sp, []) = (sp1, ns1)) (hM : M = max ((n2 : Int) - rep) 0) (hg2 : L2.foldl (gStep (pvI x) M) (sp1, []) = (sp2, ns2)) :
    stepI (pvI x) rep s a L1 L2 = ⟨c, ns1 ++ ns2, ((n1 : Int) == 0) && ((n2 : Int) == rep) && (r2 == rep)⟩ := by
  subst hn1 hn2 hr1 hr2 hmu hsp hc hM
  unfold stepI
  dsimp only
  rw [hg1]
  dsimp only
  rw [hg2]

set_option maxRecDepth 100000 in
set_option maxHeartbeats 4000000 in
theorem plan_any (s a : Int) (x : ObI) (l : List ObI) (ao : Option Addr) (n cap : Nat) (w : World) (hr : rightB s a = true) (hx : ObAt w x) (hS : SlR (Flat ObI.cells) 47 w ao n cap l) (hA : ∀ y ∈ l, ObAt w y) (hkd : x.kd = 0) (hn : n ≤ 1000) (hrep : 0 ≤ x.o.w.rep ∧ x.o.w.rep ≤ 1000000) :
    Calls Try.prog 20 #[.agg #[.int .i64 s, .int .i64 a], .agg x.cells.toArray, .slice ao n cap] w fun e w' => ∃ ys S bo bc, SortedO (liveI x l) ys ∧ S = stepI (pvI x) x.o.w.rep s a (ys.filter fun y => !freshB x y) (ys.filter fun y => freshB x y) ∧
      e = .returned (.tuple #[.agg #[.int .i64 S.create, .slice bo S.names.length bc, .bool S.done], .int .i64 0]) ∧ SlR (Flat cN) 1 w' bo S.names.length bc S.names ∧ Below w.heap.size w w' := by
  have he : errR s a = 0 := by unfold errR; rw [hr]; rfl
  have hri := (rightB_iff s a).1 hr
  have hsa : 0 ≤ s ∧ s ≤ 1000 ∧ 0 ≤ a ∧ a ≤ 1000 := by omega
  clear hri hr
  have h0 := x.h0
  have h3 := x.h3
  rw [hkd] at h0
  have hN2 : ∀ W : World, Below w.heap.size w W → Calls Try.prog 48 #[.agg x.cells.toArray, .slice ao n cap] W fun e w' => ∃ v1 v2 ys, e = .returned (.tuple #[v1, v2]) ∧ SortedO (liveI x l) ys ∧ OwnOb w' W.heap.size v1 (ys.filter fun y => !freshB x y) ∧ OwnOb w' W.heap.size v2 (ys.filter fun y => freshB x y) ∧ Below W.heap.size W w' :=
    fun W hb => split_any x l ao n cap W (hx.b hb) (hS.flatKeeps (Keeps.below hb)) (fun y hy => (hA y hy).b hb) hkd hn
  have hll := hS.hlen
  have hlv : (liveI x l).length ≤ 1000 := by have := List.length_filter_le (fun y : ObI => isLive x.nm y.ov) l; unfold liveI; omega
  obtain ⟨xc, hxe⟩ : ∃ c, x.cells = c := ⟨_, rfl⟩
  have hxl : xc.length = 47 := by rw [← hxe]; rfl
  rw [hxe] at h0 h3 hN2 ⊢
  have HSp := Lib.hid hN2
  clear hxe hx hS hA hN2
  obtain ⟨rep, hre⟩ : ∃ r, x.o.w.rep = r := ⟨_, rfl⟩
  rw [hre] at h3 hrep ⊢
  clear hre
  have hP := PlAt.new w s a xc
  obtain ⟨W, hW⟩ : ∃ W, (((w.alloc (.cells #[.int .i64 s, .int .i64 a] 67)).alloc (.cells xc.toArray 44)).alloc (.cells #[.int .i64 0, .slice none 0 0, .bool false] 70)) = W := ⟨_, rfl⟩
  rw [hW] at hP
  have hzW : W.heap.size = w.heap.size + 3 := by rw [← hW]; simp
  obtain ⟨N, hN⟩ : ∃ N, w.heap.size = N := ⟨_, rfl⟩
  rw [hN] at hP hzW
  have HP := Lib.hid hP
  have HC := Lib.hid (check35_any s a W)
  rw [he] at HC
  have c0 : W.cell? ⟨N, 0, none⟩ = some (.int .i64 s) := cell_of_row _ _ 0 _ _ _ hP.r
  have c1 : W.cell? ⟨N, 1, none⟩ = some (.int .i64 a) := cell_of_row _ _ 1 _ _ _ hP.r
  have HNw : Hid (∀ W, Below N w W → Below w.heap.size w W) := fun W h => by rw [hN]; exact h
  rw [hN]
  clear hP he
  go_enter Try.func20, Try.ntmps20
  go_wp2_with fail
  refine HC.out.mono ?_
  rintro e w2 ⟨rfl, hb2⟩
  have HP2 := Lib.hid (HP.out.b (by omega) hb2)
  have hz2 : N + 3 ≤ w2.heap.size := by have := hb2.size; omega
  have x0 : w2.cell? ⟨N + 1, 0, none⟩ = some (.int .i64 0) := HP2.out.x 0 _ h0
  have HSp2 := Lib.hid (HSp.out w2 (HNw.out _ HP2.out.below))
  clear hb2 HC c0 c1 hW HP HSp
  go_wp2_with ((with_reducible refine at_slot 24 ?_); go_must (refine wpList_load_at aggObI rfl _ rfl ⟨N + 1, 0, none⟩ rfl xc hxl (fun j u hu => by rw [Addr.add_lit, Nat.zero_add]; exact HP2.out.x j u hu) ?_))
  refine HSp2.out.mono ?_
  rintro e w5 ⟨v1, v2, ys, rfl, hso, ho1, ho2, hb5⟩
  obtain ⟨a1, q1, rfl, hS1, _⟩ := ho1.reads
  obtain ⟨a2, q2, rfl, hS2, _⟩ := ho2.reads
  have HU1 := Lib.hid (OwnOb.low ho1)
  have HU2 := Lib.hid (OwnOb.low ho2)
  have hyl : ys.length ≤ 1000 := by rw [hso.length]; exact hlv
  have hl1 := List.length_filter_le (fun y => !freshB x y) ys
  have hl2 := List.length_filter_le (fun y => freshB x y) ys
  have HP5 := Lib.hid (HP2.out.b (by omega) hb5)
  have hz5 : N + 3 ≤ w5.heap.size := by have := hb5.size; omega
  have Hso := Lib.hid hso
  obtain ⟨L1, hL1⟩ : ∃ L, ys.filter (fun y => !freshB x y) = L := ⟨_, rfl⟩
  obtain ⟨L2, hL2⟩ : ∃ L, ys.filter (fun y => freshB x y) = L := ⟨_, rfl⟩
  rw [hL1] at hS1 hl1 ⊢
  rw [hL2] at hS2 hl2 ⊢
  obtain ⟨n1, hn1⟩ : ∃ k, L1.length = k := ⟨_, rfl⟩
  obtain ⟨n2, hn2⟩ : ∃ k, L2.length = k := ⟨_, rfl⟩
  rw [hn1] at hS1 hl1 ⊢
  rw [hn2] at hS2 hl2 ⊢
  have HL1 := Lib.hid hL1
  have HL2 := Lib.hid hL2
  have Hn1 := Lib.hid hn1
  have Hn2 := Lib.hid hn2
  have HS1 := Lib.hid hS1
  have HS2 := Lib.hid hS2
  have x3 : w5.cell? ⟨N + 1, 3, none⟩ = some (.int .i64 rep) := HP5.out.x 3 _ h3
  have g1 := hS1.hmax; have g2 := hS1.hcap
  have g3 := hS2.hmax; have g4 := hS2.hcap
  have hk1 : n1 ≤ 1000 := by omega
  have hk2 : n2 ≤ 1000 := by omega
  unfold maxLen at g1 g3
  clear hso ho1 ho2 hb5 HSp2 x0 hL1 hL2 hn1 hn2 hS1 hS2 hl1 hl2 HP2 hyl hlv hll
  go_upto_region 8 with fail
  obtain ⟨w6, hw6⟩ : ∃ q, w5.alloc (.cells #[.int .i64 0, .slice none 0 0, .bool false] 70) = q := ⟨_, rfl⟩
  obtain ⟨b11, hb11⟩ : ∃ q, w5.heap.size = q := ⟨_, rfl⟩
  have hb6 : Below w5.heap.size w5 w6 := by rw [← hw6]; exact (Below.refl _ _).alloc (Nat.le_refl _) _
  have hO6 : w6.heap[b11]? = some (.cells #[.int .i64 0, .slice none 0 0, .bool false] 70 (0, 0)) := by rw [← hw6, ← hb11]; exact heap_alloc_new _ _
  rw [hw6, hb11]
  have hu1 := HU1.out
  have hu2 := HU2.out
  rw [hb11] at hu1 hu2 hz5
  have HM6 : Hid (PlMid w w6 N b11 s a xc a1 n1 q1 L1 a2 n2 q2 L2 #[.int .i64 0, .slice none 0 0, .bool false]) :=
    ⟨HP5.out.b (by omega) hb6, HS1.out.flatKeeps (Keeps.below hb6), HS2.out.flatKeeps (Keeps.below hb6), hO6, hu1, hu2, hz5⟩
  have r0 : w6.cell? ⟨N, 0, none⟩ = some (.int .i64 s) := cell_of_row _ _ 0 _ _ _ HM6.out.pl.r
  have m0 : w6.cell? ⟨b11, 0, none⟩ = some (.int .i64 0) := cell_of_row _ _ 0 _ _ _ hO6
  have f0 := row_free hO6 0
  obtain ⟨c, hcc⟩ : ∃ c, max 0 (min (rep - (n2 : Int)) (rep + s - n1 - n2)) = c := ⟨_, rfl⟩
  have HCc := Lib.hid hcc
  have hM7 := HM6.out.set 0 (.int .i64 c)
  clear hcc
  clear hb6 hO6 HP5 HS1 HS2 x3 hw6 hu1 hu2 HU1 HU2 hb11
  go_upto_region 9 with fail
  obtain ⟨e5, he5⟩ : ∃ q, min (rep - (n2 : Int)) (rep + s - n1 - n2) = q := ⟨_, rfl⟩
  obtain ⟨e4, he4⟩ : ∃ q, (rep + s - n1 - n2 : Int) = q := ⟨_, rfl⟩
  obtain ⟨e3, he3⟩ : ∃ q, (rep + s - n1 : Int) = q := ⟨_, rfl⟩
  obtain ⟨e2, he2⟩ : ∃ q, (rep + s : Int) = q := ⟨_, rfl⟩
  obtain ⟨e1, he1⟩ : ∃ q, (rep - (n2 : Int)) = q := ⟨_, rfl⟩
  rw [HCc.out, he5, he4, he3, he2, he1]
  obtain ⟨w7, hw7⟩ : ∃ q, w6.setCell ⟨b11, 0, none⟩ (.int .i64 c) = q := ⟨_, rfl⟩
  rw [hw7]
  rw [hw7] at hM7
  have HM7 : Hid (PlMid w w7 N b11 s a xc a1 n1 q1 L1 a2 n2 q2 L2 #[.int .i64 c, .slice none 0 0, .bool false]) := hM7
  have ra : w7.cell? ⟨N, 1, none⟩ = some (.int .i64 a) := cell_of_row _ _ 1 _ _ _ HM7.out.pl.r
  obtain ⟨r1, hr1⟩ : ∃ r, rdy (pvI x) L1 = r := ⟨_, rfl⟩
  obtain ⟨r2, hr2⟩ : ∃ r, rdy (pvI x) L2 = r := ⟨_, rfl⟩
  have hb1 := rdyV_le (L1.map ObI.ov)
  have hb2 := rdyV_le (L2.map ObI.ov)
  rw [rdyV_ov x, hr1, List.length_map, Hn1.out] at hb1
  rw [rdyV_ov x, hr2, List.length_map, Hn2.out] at hb2
  have Hr1 := Lib.hid hr1
  have Hr2 := Lib.hid hr2
  have HRd1 : Hid (∀ w' : World, Below w7.heap.size w7 w' → Calls Try.prog 49 #[.slice a1 n1 q1] w' fun e w'' => e = .returned (.int .i64 r1) ∧ Below w'.heap.size w' w'') := fun w' hb => by
    have := ready_any (L1.map ObI.ov) a1 n1 q1 w' (SlR.ov (HM7.out.t1.flatKeeps (Keeps.below hb)))
    rw [rdyV_ov x, Hr1.out] at this
    exact this
  have HRd2 : Hid (∀ w' : World, Below w7.heap.size w7 w' → Calls Try.prog 49 #[.slice a2 n2 q2] w' fun e w'' => e = .returned (.int .i64 r2) ∧ Below w'.heap.size w' w'') := fun w' hb => by
    have := ready_any (L2.map ObI.ov) a2 n2 q2 w' (SlR.ov (HM7.out.t2.flatKeeps (Keeps.below hb)))
    rw [rdyV_ov x, Hr2.out] at this
    exact this
  have hwa : IntKind.i64.wrap (rep - a) = rep - a := IntWalk.i64_in _ (by omega)
  obtain ⟨mu, hmu⟩ : ∃ q, max (rep - a) 0 = q := ⟨_, rfl⟩
  have hmub : 0 ≤ mu ∧ mu ≤ 1000000 := by omega
  obtain ⟨sp, hsp⟩ : ∃ q, r1 + r2 - mu = q := ⟨_, rfl⟩
  have hw12 : IntKind.i64.wrap (r1 + r2) = r1 + r2 := IntWalk.i64_in _ (by omega)
  have hwsp : IntKind.i64.wrap (r1 + r2 - mu) = sp := by rw [← hsp]; exact IntWalk.i64_in _ (by omega)
  have Hwa := Lib.hid hwa
  have Hmu := Lib.hid hmu
  have Hw12 := Lib.hid hw12
  have Hwsp := Lib.hid hwsp
  have Hsp := Lib.hid hsp
  have hspb : -1001000 ≤ sp ∧ sp ≤ 1001000 := by omega
  clear hM7 r0 m0 f0 HM6 he1 he2 he3 he4 he5 hw7 hr1 hr2 hwa hmu hw12 hwsp hsp
  refine region_later mixedN ?_
  refine later_inv (fun w' => ∃ b : BW w7, w' = b.w') (fun d A w' => ∃ v50 v52 v53 v59 v12, A = ⟨#[.agg #[.int .i64 s, .int .i64 a], .agg xc.toArray, .slice ao n cap, .pointer (some ⟨N, 0, none⟩), .pointer (some ⟨N + 1, 0, none⟩), undef, .pointer (some ⟨N + 1 + 1, 0, none⟩), .int .i64 0, .slice a1 n1 q1, .slice a2 n2 q2, .int .i64 rep, .pointer (some ⟨b11, 0, none⟩), v12, .bool false, .agg #[.int .i64 s, .int .i64 a], .int .i64 0, .bool false, undef, .bool false, .pointer (some ⟨N + 1, 0, none⟩), .int .i64 0, .bool false, undef, .tuple #[.slice a1 n1 q1, .slice a2 n2 q2], .agg xc.toArray, .slice ao n cap, .tuple #[.slice a1 n1 q1, .slice a2 n2 q2], .slice a1 n1 q1, .slice a2 n2 q2, .pointer (some ⟨N + 1, 3, none⟩), .pointer (some ⟨N + 1, 3, none⟩), .int .i64 rep, .int .i64 rep, .slice a2 n2 q2, .int .i64 n2, .int .i64 e1, .int .i64 rep, .pointer (some ⟨N, 0, none⟩), .int .i64 s, .int .i64 e2, .slice a1 n1 q1, .int .i64 n1, .int .i64 e3, .slice a2 n2 q2, .int .i64 n2, .int .i64 e4, .int .i64 e5, .int .i64 c, .pointer (some ⟨b11, 0, none⟩), .slice a1 n1 q1, v50, .slice a2 n2 q2, v52, v53, .int .i64 rep, .pointer (some ⟨N, 1, none⟩), .int .i64 a, .int .i64 (IntKind.i64.wrap (rep - a)), .int .i64 (max (IntKind.i64.wrap (rep - a)) 0), v59, undef, undef, undef, undef, undef, undef, undef, undef, undef, undef, undef, undef, undef, undef, undef, undef, undef, undef, undef, undef, undef, undef, undef, undef, undef, undef, undef, undef, undef, undef, undef, undef, undef], []⟩ ∧ (d 1 = true → v50 = .int .i64 r1) ∧ (d 3 = true → v52 = .int .i64 r2) ∧ (d 4 = true → v53 = .int .i64 (r1 + r2)) ∧ (d 10 = true → v59 = .int .i64 sp) ∧
      (d 11 = true → ∃ b, v12 = .pointer (some ⟨b, 0, none⟩) ∧ w7.heap.size ≤ b ∧ w'.heap[b]? = some (.cells #[.int .i64 0] 3 (0, 0)))) [1, 3, 4, 10, 11] 0 12 30 (by kernel_rfl) (by kernel_rfl) ⟨⟨{ w7 with drawn := w7.drawn + 1 }, ⟨rfl, rfl, rfl, Nat.le_refl _, fun _ _ => rfl⟩⟩, rfl⟩ ?_ ?_ ?_
  · intro i o ho hi d A w' hI hdi hdep hC
    obtain ⟨v50, v52, v53, v59, v12, rfl, h1, h3, h4, h10, h11⟩ := hI
    obtain ⟨bw, rfl⟩ := hC
    simp only [List.mem_cons, List.not_mem_nil, or_false] at hi
    rcases hi with rfl | rfl | rfl | rfl | rfl
    · obtain rfl := Option.some.inj ho
      refine upon_callP 49 [.tmp 49] _ rfl Try.func49 (by kernel_rfl) rfl [.slice a1 n1 q1] (by as_aux_lemma => kernel_rfl) ((HRd1.out _ bw.h).mono ?_)
      rintro e w'' ⟨rfl, hb⟩
      exact ⟨_, rfl, ⟨⟨w'', bw.h.trans (hb.mono bw.h.size)⟩, rfl⟩, _, v52, v53, v59, v12, rfl, (fun _ => rfl), (fun h => h3 (by simpa using h)), (fun h => h4 (by simpa using h)), (fun h => h10 (by simpa using h)), (fun h => by obtain ⟨b, e1, e2, e3⟩ := h11 (by simpa using h); exact ⟨b, e1, e2, (hb.block b (Array.getElem?_eq_some_iff.1 e3).1).trans e3⟩)⟩
    · obtain rfl := Option.some.inj ho
      refine upon_callP 49 [.tmp 51] _ rfl Try.func49 (by kernel_rfl) rfl [.slice a2 n2 q2] (by as_aux_lemma => kernel_rfl) ((HRd2.out _ bw.h).mono ?_)
      rintro e w'' ⟨rfl, hb⟩
      exact ⟨_, rfl, ⟨⟨w'', bw.h.trans (hb.mono bw.h.size)⟩, rfl⟩, v50, _, v53, v59, v12, rfl, (fun h => h1 (by simpa using h)), (fun _ => rfl), (fun h => h4 (by simpa using h)), (fun h => h10 (by simpa using h)), (fun h => by obtain ⟨b, e1, e2, e3⟩ := h11 (by simpa using h); exact ⟨b, e1, e2, (hb.block b (Array.getElem?_eq_some_iff.1 e3).1).trans e3⟩)⟩
    · obtain rfl := Option.some.inj ho
      obtain rfl := h1 (hdep 1 rfl (by kernel_rfl))
      obtain rfl := h3 (hdep 3 rfl (by kernel_rfl))
      refine upon_bin (.tmp 50) (.tmp 52) rfl (.int .i64 r1) (.int .i64 r2) (.int .i64 (r1 + r2)) rfl rfl (add_int _ _ _ _ _).1 ((add_int _ _ _ (.tmp 50) (.tmp 52)).2.trans (by rw [Hw12.out])) ?_
      exact ⟨⟨bw, rfl⟩, _, _, _, v59, v12, rfl, (fun _ => rfl), (fun _ => rfl), (fun _ => rfl), (fun h => h10 (by simpa using h)), (fun h => h11 (by simpa using h))⟩
    · obtain rfl := Option.some.inj ho
      obtain rfl := h4 (hdep 4 rfl (by kernel_rfl))
      refine upon_bin (.tmp 53) (.tmp 58) rfl (.int .i64 (r1 + r2)) (.int .i64 (max (IntKind.i64.wrap (rep - a)) 0)) (.int .i64 sp) rfl rfl (sub_int _ _ _ _ _).1 ((sub_int _ _ _ (.tmp 53) (.tmp 58)).2.trans (by rw [Hwa.out, Hmu.out, Hwsp.out])) ?_
      exact ⟨⟨bw, rfl⟩, v50, v52, _, _, v12, rfl, (fun h => h1 (by simpa using h)), (fun h => h3 (by simpa using h)), (fun _ => rfl), (fun _ => rfl), (fun h => h11 (by simpa using h))⟩
    · obtain rfl := Option.some.inj ho
      exact upon_new (z := #[.int .i64 0]) (T := 3) (newI _ _ rfl) ⟨⟨⟨_, bw.h.alloc bw.h.size _⟩, rfl⟩, v50, v52, v53, v59, _, rfl, (fun h => h1 (by simpa using h)), (fun h => h3 (by simpa using h)), (fun h => h4 (by simpa using h)), (fun h => h10 (by simpa using h)), (fun _ => ⟨_, rfl, bw.h.size, heap_alloc_new _ _⟩)⟩
  · rintro A w' ⟨bw, rfl⟩ ⟨d, ⟨v50, v52, v53, v59, v12, rfl, h1, h3, h4, h10, h11⟩, hall⟩
    obtain rfl := h1 (hall 1 (by decide))
    obtain rfl := h3 (hall 3 (by decide))
    obtain rfl := h4 (hall 4 (by decide))
    obtain rfl := h10 (hall 10 (by decide))
    obtain ⟨b12, rfl, hl12, hr12⟩ := h11 (hall 11 (by decide))
    obtain ⟨w8, hb8⟩ := bw
    dsimp only at hr12 ⊢
    clear h1 h3 h4 h10 h11 hall
    refine later_phase (fun _ => True) [12] 13 12 13 30 (by kernel_rfl) (by kernel_rfl) trivial ?_
    repeat (refine wpVal_skipR rfl ?_)
    refine wpVal_endR ?_
    refine wpLoud_store rfl rfl 3 (.tmp 12) (.tmp 59) rfl ⟨b12, 0, none⟩ (.int .i64 sp) rfl rfl (storeIn1 _ (by kernel_rfl) (by rw [cell_of_row _ _ 0 _ _ _ hr12]; rfl) (row_free hr12 0)) ⟨fun _ => trivial, ?_⟩
    obtain ⟨w9, hw9⟩ : ∃ q, w8.setCell ⟨b12, 0, none⟩ (.int .i64 sp) = q := ⟨_, rfl⟩
    have hc9 : w9.heap[b12]? = some (.cells #[.int .i64 sp] 3 (0, 0)) := by rw [← hw9]; exact row_setCell hr12 _
    have hf9 : Fr (fun k => k = b12) w8 w9 := by rw [← hw9]; exact Fr.setC (fun k => k = b12) w8 ⟨b12, 0, none⟩ _ rfl
    rw [hw9]
    have hlt7 := HM7.out.lt
    have HM9 := Lib.hid ((HM7.out.belo hb8).fr hf9 (fun k hk => by omega))
    have hb12 : b11 < b12 := by omega
    have hz9 : b12 < w9.heap.size := (Array.getElem?_eq_some_iff.1 hc9).1
    have HC9 := Lib.hid hc9
    clear hw9 hc9 hf9 hr12 hl12 hb8 hlt7 HM7 HRd1 HRd2 ra
    refine wpLoud_nil ?_
    refine later_end 13 rfl ?_
    obtain ⟨g1, hg1⟩ : ∃ g, L1.foldl (gStep (pvI x) n1) (sp, []) = g := ⟨_, rfl⟩
    have hG1 := rgoes_any (L1.map ObI.ov) a1 n1 q1 n1 sp b12 w9 (SlR.ov HM9.out.t1) hk1 (by omega) HC9.out (fun A e => by have := HM9.out.u1 A e; omega)
    rw [goes_ov x, hg1] at hG1
    have HG1 := Lib.hid hG1
    have hgb := fold_bounds (pvI x) n1 L1 (sp, [])
    rw [hg1, Hn1.out] at hgb
    have Hg1 := Lib.hid hg1
    clear hg1 hG1
    go_simp
    go_wp2_with fail
    refine HG1.out.mono ?_
    rintro e w10 ⟨v3, rfl, hgt⟩
    obtain ⟨sp1, ns1⟩ := g1
    dsimp only at hgb
    obtain ⟨a3, q3, rfl, hS3⟩ := hgt.own.reads
    have HM10 := Lib.hid (HM9.out.fr hgt.fr (fun k hk => by omega))
    have hown := hgt.own
    have hcel := hgt.cell
    obtain ⟨m3, hm3⟩ : ∃ m, ns1.length = m := ⟨_, rfl⟩
    dsimp only at hS3 hcel
    unfold OwnN at hown
    dsimp only at hown
    rw [hm3] at hS3 hown hgb ⊢
    have m1 : w10.cell? ⟨b11, 1, none⟩ = some (.slice none 0 0) := cell_of_row _ _ 1 _ _ _ HM10.out.row
    have f1 := row_free HM10.out.row 1
    have g5 := hS3.hmax; have g6 := hS3.hcap
    unfold maxLen at g5
    have hz10 : w9.heap.size ≤ w10.heap.size := hgt.fr.size
    have hM11 := HM10.out.set 1 (.slice a3 m3 q3)
    have hf11 : Fr (fun k => k = b11) w10 (w10.setCell ⟨b11, 1, none⟩ (.slice a3 m3 q3)) := Fr.setC (fun k => k = b11) w10 ⟨b11, 1, none⟩ _ rfl
    have hown11 := owns_fr hf11 hown (fun k hk e => by have := (World.ownsRow.lt hown k hk).1; omega)
    have hcel11 := (hf11.block b12 (Array.getElem?_eq_some_iff.1 hcel).1 (fun e => by omega)).trans hcel
    have HM11 := Lib.hid hM11
    have HO11 := Lib.hid hown11
    have HC11 := Lib.hid hcel11
    have Hm3 := Lib.hid hm3
    have hz11 : w9.heap.size ≤ (w10.setCell ⟨b11, 1, none⟩ (.slice a3 m3 q3)).heap.size := Nat.le_trans hz10 hf11.size
    clear hM11 hf11 hown11 hcel11 hgt hown hcel hS3 HG1 HM9 HC9 hm3
    go_upto_region 11 with fail
    obtain ⟨w11, hw11⟩ : ∃ q, w10.setCell ⟨b11, 1, none⟩ (.slice a3 m3 q3) = q := ⟨_, rfl⟩
    rw [hw11]
    rw [hw11] at HM11 HO11 HC11 hz11
    clear m1 f1 hw11 HM10 hz10
    refine region_later mixedN ?_
    obtain ⟨wD, hwD⟩ : ∃ q : World, { w11 with drawn := w11.drawn + 1 } = q := ⟨_, rfl⟩
    have hbD : Below w11.heap.size w11 wD := by rw [← hwD]; exact ⟨rfl, rfl, rfl, Nat.le_refl _, fun _ _ => rfl⟩
    have HMD := Lib.hid (HM11.out.belo hbD)
    have hOD := owns_fr (Fr.of_below hbD (fun _ => False)) HO11.out (fun _ _ h => h)
    have hCD := (hbD.block b12 (Array.getElem?_eq_some_iff.1 HC11.out).1).trans HC11.out
    have hzD : w9.heap.size ≤ wD.heap.size := Nat.le_trans hz11 hbD.size
    rw [hwD]
    have HOD := Lib.hid hOD
    have HCD := Lib.hid hCD
    clear hbD hwD hOD hCD HM11 HO11 HC11 hz11
    have h66 : ∀ w' : World, w'.heap[b11]? = some (.cells #[.int .i64 c, .slice a3 m3 q3, .bool false] 70 (0, 0)) → w'.cell? ⟨b11, 1, none⟩ = some (.slice a3 m3 q3) := fun w' h => cell_of_row w' b11 1 _ _ _ h
    refine later_phase (fun w' => w'.heap[b11]? = some (.cells #[.int .i64 c, .slice a3 m3 q3, .bool false] 70 (0, 0))) [8, 9, 11] 9 0 12 30 (by kernel_rfl) (by kernel_rfl) HMD.out.row ?_
    repeat (first | (refine wpVal_skipR rfl ?_) | (refine wpVal_takeR rfl ?_; first | (refine wpVal_oneK rfl (fun K hK => ?_); refine ⟨_, fun w => by go_simp; rfl, ?_⟩; go_simp; refine hK _ ?_; clear hK K) | (refine wpVal_mem rfl rfl (fun K hK => ?_); refine ⟨_, by intro w' hC; have hq := h66 w' hC; go_simp; rfl, ?_⟩; go_simp; refine hK _ ?_; clear hK K)))
    refine wpVal_endR ?_
    obtain ⟨M, hM⟩ : ∃ q, max (IntKind.i64.wrap ((n2 : Int) - rep)) 0 = q := ⟨_, rfl⟩
    have hMe : M = max ((n2 : Int) - rep) 0 := by rw [← hM, IntWalk.i64_in _ (by omega)]
    rw [hM]
    obtain ⟨g2, hg2⟩ : ∃ g, L2.foldl (gStep (pvI x) M) (sp1, []) = g := ⟨_, rfl⟩
    have hG2 := rgoes_any (L2.map ObI.ov) a2 n2 q2 M sp1 b12 wD (SlR.ov HMD.out.t2) hk2 (by omega) HCD.out (fun A e => by have := HMD.out.u2 A e; omega)
    rw [goes_ov x, hg2] at hG2
    have HG2 := Lib.hid hG2
    have hgb2 := fold_bounds (pvI x) M L2 (sp1, [])
    rw [hg2, Hn2.out] at hgb2
    have Hg2 := Lib.hid hg2
    have HMe := Lib.hid hMe
    clear hg2 hG2 hM hMe
    refine wpLoud_call rfl rfl 50 [.tmp 67, .tmp 72, .tmp 12] _ rfl Try.func50 (by kernel_rfl) rfl [.slice a2 n2 q2, .int .i64 M, .pointer (some ⟨b12, 0, none⟩)] (by as_aux_lemma => kernel_rfl) (HG2.out.mono ?_)
    rintro e w12 ⟨v4, rfl, hgt2⟩
    have hM12 := HMD.out.fr hgt2.fr (fun k hk => by omega)
    refine ⟨_, rfl, fun _ => hM12.row, ?_⟩
    obtain ⟨sp2, ns2⟩ := g2
    obtain ⟨a4, q4, rfl, hS4⟩ := hgt2.own.reads
    dsimp only at hS4 hgb2
    have ho12 := owns_fr hgt2.fr HOD.out (fun k hk e => by have := (World.ownsRow.lt HOD.out k hk).1; omega)
    have hz12 : w9.heap.size ≤ w12.heap.size := Nat.le_trans hzD hgt2.fr.size
    obtain ⟨m4, hm4⟩ : ∃ m, ns2.length = m := ⟨_, rfl⟩
    dsimp only
    rw [hm4] at hS4 hgb2 ⊢
    refine wpLoud_append_slr elemName rfl rfl (.tmp 66) (.tmp 73) rfl w9.heap.size (.slice a3 m3 q3) m3 (ns1.flatMap cN) (by as_aux_lemma => kernel_rfl) ho12 hz12 (f := cN) (fun _ => rfl) a4 m4 q4 ns2 (by as_aux_lemma => kernel_rfl) hS4 (fun y u hu => by rw [List.mem_singleton.1 hu]; rfl) (by unfold maxLen; simp at hgb hgb2; omega) (by simp at hgb hgb2; omega) ?_
    intro v5 w13 ho13 hg13
    refine ⟨fun h => absurd h (by decide), ?_⟩
    have hown5 : OwnN w13 w9.heap.size v5 (ns1 ++ ns2) := by
      unfold OwnN
      rw [List.length_append, List.flatMap_append, Hm3.out, hm4]
      exact ho13
    have hf13 := Fr.grown (S := fun k => (Value.slice a3 m3 q3).ownBlock = some k) hg13 (fun k hk => hk)
    have hM13 := hM12.fr hf13 (fun k hk => by have := (World.ownsRow.lt ho12 k hk).1; omega)
    have hA5 : ∀ A, v5 = .slice (some A) (ns1 ++ ns2).length 0 ∨ True := fun _ => .inr trivial
    obtain ⟨a5, q5, rfl, hS5⟩ := hown5.reads
    have hlo5 : ∀ A, a5 = some A → w9.heap.size ≤ A.block := fun A e => by
      rcases hown5.2 with ⟨h0, _⟩ | ⟨g, cc, cur, h0, hb0, _⟩
      · injection h0 with e1 _ _
        rw [e1] at e
        cases e
      · injection h0 with e1 _ _
        rw [e1] at e
        cases e
        exact hb0
    obtain ⟨m5, hm5⟩ : ∃ m, (ns1 ++ ns2).length = m := ⟨_, rfl⟩
    rw [hm5] at hS5 ⊢
    refine wpLoud_store rfl rfl 68 (.tmp 75) (.tmp 74) rfl ⟨b11, 1, none⟩ (.slice a5 m5 q5) (by as_aux_lemma => kernel_rfl) (by as_aux_lemma => kernel_rfl) (storeSl1 _ (by kernel_rfl) (by rw [cell_of_row _ _ 1 _ _ _ hM13.row]; rfl) (row_free hM13.row 1)) ⟨fun h => absurd h (by decide), ?_⟩
    obtain ⟨w14, hw14⟩ : ∃ q, w13.setCell ⟨b11, 1, none⟩ (.slice a5 m5 q5) = q := ⟨_, rfl⟩
    have hM14 := hM13.set 1 (.slice a5 m5 q5)
    have hS14 := hS5.frG (Fr.setC (fun k => k = b11) w13 ⟨b11, 1, none⟩ (.slice a5 m5 q5) rfl) (fun A e hk => by have := hlo5 A e; omega)
    rw [hw14] at hM14 hS14 ⊢
    have HM14 : Hid (PlMid w w14 N b11 s a xc a1 n1 q1 L1 a2 n2 q2 L2 #[.int .i64 c, .slice a5 m5 q5, .bool false]) := hM14
    have HS14 := Lib.hid hS14
    have HAW := Lib.hid hlo5
    have Hm5 := Lib.hid hm5
    have hst := stepI_val x rep s a L1 L2 n1 n2 r1 r2 mu sp c M sp1 ns1 sp2 ns2 Hn1.out Hn2.out Hr1.out Hr2.out Hmu.out Hsp.out HCc.out Hg1.out HMe.out Hg2.out
    obtain ⟨qa, hqa⟩ : ∃ q, ((n1 : Int) == 0) = q := ⟨_, rfl⟩
    obtain ⟨qb, hqb⟩ : ∃ q, ((n2 : Int) == rep) = q := ⟨_, rfl⟩
    obtain ⟨qc, hqc⟩ : ∃ q, (r2 == rep) = q := ⟨_, rfl⟩
    rw [hqa, hqb, hqc] at hst
    have HSt := Lib.hid hst
    clear hgt2 ho12 hM12 hown5 ho13 hg13 hf13 hM13 hA5 hM14 hS14 hS5 hS4 hlo5 hw14 hst hgb hgb2 HG2 HMD HOD HCD hz12 hzD hm4 hm5 h66
    refine wpLoud_nil ?_
    refine later_end 12 rfl ?_
    go_simp
    cases qa
    · have m2 : w14.cell? ⟨b11, 2, none⟩ = some (.bool false) := cell_of_row _ _ 2 _ _ _ HM14.out.row
      have f2 := row_free HM14.out.row 2
      go_upto_region 13 with fail
      obtain ⟨w15, hw15⟩ : ∃ q, w14.setCell ⟨b11, 2, none⟩ (.bool false) = q := ⟨_, rfl⟩
      have hM15 := HM14.out.set 2 (.bool false)
      have hS15 := HS14.out.frG (Fr.setC (fun k => k = b11) w14 ⟨b11, 2, none⟩ (.bool false) rfl) (fun A e hk => by have := HAW.out A e; omega)
      rw [hw15] at hM15 hS15 ⊢
      have HM15 : Hid (PlMid w w15 N b11 s a xc a1 n1 q1 L1 a2 n2 q2 L2 #[.int .i64 c, .slice a5 m5 q5, .bool false]) := hM15
      have HS15 := Lib.hid hS15
      have hO15 := HM15.out.pl.out
      rw [show N + 2 = N + 1 + 1 from rfl] at hO15
      have HO15 := Lib.hid hO15
      have y0 := cell_of_row _ _ 0 _ _ _ hO15
      have y1 := cell_of_row _ _ 1 _ _ _ hO15
      have y2 := cell_of_row _ _ 2 _ _ _ hO15
      simp at y0 y1 y2
      have z0 := row_free hO15 0
      have z1 := row_free hO15 1
      have z2 := row_free hO15 2
      have cS := block_part HM15.out.row (i := 0) (n := 3) [.int .i64 c, .slice a5 m5 q5, .bool false] rfl
      clear hM15 hS15 hO15 hw15 HM14 HS14 m2 f2
      go_wp2_with ((with_reducible refine at_slot 92 ?_); go_must (refine wpList_load_at aggStep rfl _ rfl ⟨b11, 0, none⟩ rfl _ rfl cS ?_))
      obtain ⟨w16, hw16⟩ : ∃ q, ((w15.setCell ⟨N + 1 + 1, 0, none⟩ (.int .i64 c)).setCell ⟨N + 1 + 1, 1, none⟩ (.slice a5 m5 q5)).setCell ⟨N + 1 + 1, 2, none⟩ (.bool false) = q := ⟨_, rfl⟩
      have hrow : w16.heap[N + 1 + 1]? = some (.cells #[.int .i64 c, .slice a5 m5 q5, .bool false] 70 (0, 0)) := by rw [← hw16]; exact row_setCell (row_setCell (row_setCell HO15.out _) _) _
      have hf16 : Fr (fun k => k = N + 1 + 1) w15 w16 := by
        rw [← hw16]
        exact ((Fr.setC (fun k => k = N + 1 + 1) w15 ⟨N + 1 + 1, 0, none⟩ _ rfl).trans (Fr.setC (fun k => k = N + 1 + 1) _ ⟨N + 1 + 1, 1, none⟩ _ rfl) (fun i hi => .inl hi)).trans (Fr.setC (fun k => k = N + 1 + 1) _ ⟨N + 1 + 1, 2, none⟩ _ rfl) (fun i hi => .inl hi)
      have HS16 : Hid (SlR (Flat cN) 1 w16 a5 m5 q5 (ns1 ++ ns2)) := HS15.out.frG hf16 (fun A e hk => by have := HAW.out A e; omega)
      have HB16 : Hid (Below w.heap.size w w16) := HNw.out _ (HM15.out.pl.below.trans (hf16.below (by have := HM15.out.lt; omega) (fun k hk => by omega)))
      rw [hw16]
      have k0 : w16.cell? ⟨N + 1 + 1, 0, none⟩ = some (.int .i64 c) := cell_of_row _ _ 0 _ _ _ hrow
      have k1 : w16.cell? ⟨N + 1 + 1, 1, none⟩ = some (.slice a5 m5 q5) := cell_of_row _ _ 1 _ _ _ hrow
      have k2 : w16.cell? ⟨N + 1 + 1, 2, none⟩ = some (.bool false) := cell_of_row _ _ 2 _ _ _ hrow
      have hval := HSt.out
      refine bodyPost_ret (v := .tuple #[.agg #[.int .i64 c, .slice a5 m5 q5, .bool false], .int .i64 0]) (by simp [results, Try.results20, go_sem, k0, k1, k2]) rfl ⟨ys, _, a5, q5, Hso.out, rfl, ?_⟩
      rw [HL1.out, HL2.out, hval]
      dsimp only
      rw [Hm5.out]
      exact ⟨rfl, HS16.out, by rw [← hN]; exact HB16.out⟩
    · cases qb
      · have m2 : w14.cell? ⟨b11, 2, none⟩ = some (.bool false) := cell_of_row _ _ 2 _ _ _ HM14.out.row
        have f2 := row_free HM14.out.row 2
        go_upto_region 13 with fail
        obtain ⟨w15, hw15⟩ : ∃ q, w14.setCell ⟨b11, 2, none⟩ (.bool false) = q := ⟨_, rfl⟩
        have hM15 := HM14.out.set 2 (.bool false)
        have hS15 := HS14.out.frG (Fr.setC (fun k => k = b11) w14 ⟨b11, 2, none⟩ (.bool false) rfl) (fun A e hk => by have := HAW.out A e; omega)
        rw [hw15] at hM15 hS15 ⊢
        have HM15 : Hid (PlMid w w15 N b11 s a xc a1 n1 q1 L1 a2 n2 q2 L2 #[.int .i64 c, .slice a5 m5 q5, .bool false]) := hM15
        have HS15 := Lib.hid hS15
        have hO15 := HM15.out.pl.out
        rw [show N + 2 = N + 1 + 1 from rfl] at hO15
        have HO15 := Lib.hid hO15
        have y0 := cell_of_row _ _ 0 _ _ _ hO15
        have y1 := cell_of_row _ _ 1 _ _ _ hO15
        have y2 := cell_of_row _ _ 2 _ _ _ hO15
        simp at y0 y1 y2
        have z0 := row_free hO15 0
        have z1 := row_free hO15 1
        have z2 := row_free hO15 2
        have cS := block_part HM15.out.row (i := 0) (n := 3) [.int .i64 c, .slice a5 m5 q5, .bool false] rfl
        clear hM15 hS15 hO15 hw15 HM14 HS14 m2 f2
        go_wp2_with ((with_reducible refine at_slot 92 ?_); go_must (refine wpList_load_at aggStep rfl _ rfl ⟨b11, 0, none⟩ rfl _ rfl cS ?_))
        obtain ⟨w16, hw16⟩ : ∃ q, ((w15.setCell ⟨N + 1 + 1, 0, none⟩ (.int .i64 c)).setCell ⟨N + 1 + 1, 1, none⟩ (.slice a5 m5 q5)).setCell ⟨N + 1 + 1, 2, none⟩ (.bool false) = q := ⟨_, rfl⟩
        have hrow : w16.heap[N + 1 + 1]? = some (.cells #[.int .i64 c, .slice a5 m5 q5, .bool false] 70 (0, 0)) := by rw [← hw16]; exact row_setCell (row_setCell (row_setCell HO15.out _) _) _
        have hf16 : Fr (fun k => k = N + 1 + 1) w15 w16 := by
          rw [← hw16]
          exact ((Fr.setC (fun k => k = N + 1 + 1) w15 ⟨N + 1 + 1, 0, none⟩ _ rfl).trans (Fr.setC (fun k => k = N + 1 + 1) _ ⟨N + 1 + 1, 1, none⟩ _ rfl) (fun i hi => .inl hi)).trans (Fr.setC (fun k => k = N + 1 + 1) _ ⟨N + 1 + 1, 2, none⟩ _ rfl) (fun i hi => .inl hi)
        have HS16 : Hid (SlR (Flat cN) 1 w16 a5 m5 q5 (ns1 ++ ns2)) := HS15.out.frG hf16 (fun A e hk => by have := HAW.out A e; omega)
        have HB16 : Hid (Below w.heap.size w w16) := HNw.out _ (HM15.out.pl.below.trans (hf16.below (by have := HM15.out.lt; omega) (fun k hk => by omega)))
        rw [hw16]
        have k0 : w16.cell? ⟨N + 1 + 1, 0, none⟩ = some (.int .i64 c) := cell_of_row _ _ 0 _ _ _ hrow
        have k1 : w16.cell? ⟨N + 1 + 1, 1, none⟩ = some (.slice a5 m5 q5) := cell_of_row _ _ 1 _ _ _ hrow
        have k2 : w16.cell? ⟨N + 1 + 1, 2, none⟩ = some (.bool false) := cell_of_row _ _ 2 _ _ _ hrow
        have hval := HSt.out
        refine bodyPost_ret (v := .tuple #[.agg #[.int .i64 c, .slice a5 m5 q5, .bool false], .int .i64 0]) (by simp [results, Try.results20, go_sem, k0, k1, k2]) rfl ⟨ys, _, a5, q5, Hso.out, rfl, ?_⟩
        rw [HL1.out, HL2.out, hval]
        dsimp only
        rw [Hm5.out]
        exact ⟨rfl, HS16.out, by rw [← hN]; exact HB16.out⟩
      · have hRd := ready_any (L2.map ObI.ov) a2 n2 q2 w14 (SlR.ov HM14.out.t2)
        rw [rdyV_ov x, Hr2.out] at hRd
        have HRd := Lib.hid hRd
        clear hRd
        go_wp2_with fail
        refine HRd.out.mono ?_
        rintro e w17 ⟨rfl, hb17⟩
        have HM17 := Lib.hid (HM14.out.belo hb17)
        have HS17 := Lib.hid (HS14.out.flatKeeps (Keeps.below hb17))
        have m2 : w17.cell? ⟨b11, 2, none⟩ = some (.bool false) := cell_of_row _ _ 2 _ _ _ HM17.out.row
        have f2 := row_free HM17.out.row 2
        clear hb17 HRd HM14 HS14
        go_upto_region 13 with fail
        obtain ⟨w15, hw15⟩ : ∃ q, w17.setCell ⟨b11, 2, none⟩ (.bool qc) = q := ⟨_, rfl⟩
        have hM15 := HM17.out.set 2 (.bool qc)
        have hS15 := HS17.out.frG (Fr.setC (fun k => k = b11) w17 ⟨b11, 2, none⟩ (.bool qc) rfl) (fun A e hk => by have := HAW.out A e; omega)
        rw [hw15] at hM15 hS15 ⊢
        have HM15 : Hid (PlMid w w15 N b11 s a xc a1 n1 q1 L1 a2 n2 q2 L2 #[.int .i64 c, .slice a5 m5 q5, .bool qc]) := hM15
        have HS15 := Lib.hid hS15
        have hO15 := HM15.out.pl.out
        rw [show N + 2 = N + 1 + 1 from rfl] at hO15
        have HO15 := Lib.hid hO15
        have y0 := cell_of_row _ _ 0 _ _ _ hO15
        have y1 := cell_of_row _ _ 1 _ _ _ hO15
        have y2 := cell_of_row _ _ 2 _ _ _ hO15
        simp at y0 y1 y2
        have z0 := row_free hO15 0
        have z1 := row_free hO15 1
        have z2 := row_free hO15 2
        have cS := block_part HM15.out.row (i := 0) (n := 3) [.int .i64 c, .slice a5 m5 q5, .bool qc] rfl
        clear hM15 hS15 hO15 hw15 HM17 HS17 m2 f2
        go_wp2_with ((with_reducible refine at_slot 92 ?_); go_must (refine wpList_load_at aggStep rfl _ rfl ⟨b11, 0, none⟩ rfl _ rfl cS ?_))
        obtain ⟨w16, hw16⟩ : ∃ q, ((w15.setCell ⟨N + 1 + 1, 0, none⟩ (.int .i64 c)).setCell ⟨N + 1 + 1, 1, none⟩ (.slice a5 m5 q5)).setCell ⟨N + 1 + 1, 2, none⟩ (.bool qc) = q := ⟨_, rfl⟩
        have hrow : w16.heap[N + 1 + 1]? = some (.cells #[.int .i64 c, .slice a5 m5 q5, .bool qc] 70 (0, 0)) := by rw [← hw16]; exact row_setCell (row_setCell (row_setCell HO15.out _) _) _
        have hf16 : Fr (fun k => k = N + 1 + 1) w15 w16 := by
          rw [← hw16]
          exact ((Fr.setC (fun k => k = N + 1 + 1) w15 ⟨N + 1 + 1, 0, none⟩ _ rfl).trans (Fr.setC (fun k => k = N + 1 + 1) _ ⟨N + 1 + 1, 1, none⟩ _ rfl) (fun i hi => .inl hi)).trans (Fr.setC (fun k => k = N + 1 + 1) _ ⟨N + 1 + 1, 2, none⟩ _ rfl) (fun i hi => .inl hi)
        have HS16 : Hid (SlR (Flat cN) 1 w16 a5 m5 q5 (ns1 ++ ns2)) := HS15.out.frG hf16 (fun A e hk => by have := HAW.out A e; omega)
        have HB16 : Hid (Below w.heap.size w w16) := HNw.out _ (HM15.out.pl.below.trans (hf16.below (by have := HM15.out.lt; omega) (fun k hk => by omega)))
        rw [hw16]
        have k0 : w16.cell? ⟨N + 1 + 1, 0, none⟩ = some (.int .i64 c) := cell_of_row _ _ 0 _ _ _ hrow
        have k1 : w16.cell? ⟨N + 1 + 1, 1, none⟩ = some (.slice a5 m5 q5) := cell_of_row _ _ 1 _ _ _ hrow
        have k2 : w16.cell? ⟨N + 1 + 1, 2, none⟩ = some (.bool qc) := cell_of_row _ _ 2 _ _ _ hrow
        have hval := HSt.out
        refine bodyPost_ret (v := .tuple #[.agg #[.int .i64 c, .slice a5 m5 q5, .bool qc], .int .i64 0]) (by simp [results, Try.results20, go_sem, k0, k1, k2]) rfl ⟨ys, _, a5, q5, Hso.out, rfl, ?_⟩
        rw [HL1.out, HL2.out, hval]
        dsimp only
        rw [Hm5.out]
        exact ⟨rfl, HS16.out, by rw [← hN]; exact HB16.out⟩
  · repeat (first | (refine wpVal_skipR rfl ?_) | (refine wpVal_takeR rfl ?_; first | (refine wpVal_oneK rfl (fun K hK => ?_); refine ⟨_, fun w => by go_simp; rfl, ?_⟩; go_simp; refine hK _ ?_; clear hK K) | (refine wpVal_mem rfl rfl (fun K hK => ?_); refine ⟨_, by rintro _ ⟨bw, rfl⟩; have hq := BW.cell ra bw; go_simp; rfl, ?_⟩; go_simp; refine hK _ ?_; clear hK K)))
    refine wpVal_endR ?_
    exact ⟨undef, undef, undef, undef, undef, rfl, (fun h => by cases h), (fun h => by cases h), (fun h => by cases h), (fun h => by cases h), (fun h => by cases h)⟩
end Go.Proofs.Ytpbppgfogepjeaa
