/- RoomPuts: a pod is put in just if it fits, and then so much less is left; taken out again all is as it was. Conditions: none. -/
import Derived.Test.YtpbppgfogepjeaaE1M
import Derived.Test.YtpbppgfogepjeaaCheckSpecM
import Derived.Test.YtpbppgfogepjeaaRoomPutsLiftM
import Derived.Test.YtpbppgfogepjeaaPhaseInv
namespace Go.Proofs.Ytpbppgfogepjeaa
open Go.ChangeShapes Go.WideShapes Go.ChangeAt Go.RowKit Go.Deep

theorem livesR (w : World) : Calls Try.prog 12 #[] w fun e w' => e = .returned (.bool true) ∧ Below w.heap.size w w' := E.lives17 w
theorem fewYes (x : ObI) (w : World) : Calls Try.prog 7 #[.agg x.cells.toArray] w fun e w' => (∃ b, e = .returned (.bool b) ∧ (b = true → True)) ∧ Below w.heap.size w w' :=
  (few_any x.kd x.nm x.ver x.o w).mono fun _ _ ⟨⟨b, h1⟩, h2⟩ => ⟨⟨b, h1, fun _ => trivial⟩, h2⟩
theorem wpList_buildSlice_gd {P : Program} {ops : Array Oper} {rest : List Oper} {o : Oper} {a : Act} {Q : Exit → Act → World → Prop} {w : World} (hg : Region.wanted o (yielded ops a.tmps) = true) (t : TypeId) (n : Nat) (parts : List (Nat × Operand))
    (ho : o.op = .buildSlice t n parts.toArray) (args : List (Nat × Value)) (hargs : parts.map (fun p => (p.1, a.eval p.2)) = args) (cur : Array Value) (e : TypeId)
    (hrun : ∀ w, (Instr.buildSlice t n args.toArray).run P w = .ok (.slice (some ⟨w.heap.size, 0, none⟩) n n) (w.alloc (.cells cur e)))
    (h : wpList P ops Q rest (a.put o.dst (.slice (some ⟨w.heap.size, 0, none⟩) n n)) (w.alloc (.cells cur e))) : wpList P ops Q (o :: rest) a w := by
  refine wpList_step fun K hK => ?_
  rw [if_pos hg]
  subst hargs
  have e : (parts.toArray.map fun (p : Nat × Operand) => (p.1, a.eval p.2)) = (parts.map fun p => (p.1, a.eval p.2)).toArray := by simp
  unfold Oper.wp
  simp only [execOp, ho]
  rw [e]
  simp [hrun, Result.andThen]
  exact hK _ _ h
set_option maxRecDepth 100000 in
theorem twoObjSl (x y : ObI) (w : World) : (Instr.buildSlice 54 2 [(0, .agg x.cells.toArray), (1, .agg y.cells.toArray)].toArray).run Try.prog w = .ok (.slice (some ⟨w.heap.size, 0, none⟩) 2 2) (w.alloc (.cells (x.cells ++ y.cells).toArray 44)) := by kernel_rfl
set_option maxRecDepth 100000 in
theorem oneObjSl (x : ObI) (w : World) : (Instr.buildSlice 54 1 [(0, .agg x.cells.toArray)].toArray).run Try.prog w = .ok (.slice (some ⟨w.heap.size, 0, none⟩) 1 1) (w.alloc (.cells x.cells.toArray 44)) := by kernel_rfl

theorem upon_call {P : Program} {A : Act} {w : World} {o : Oper} {next : Value → World → Prop} (f : Nat) (args : List Operand) (ats : Array TypeId) (hop : o.op = .call { callee := .value (.func f), args := args.toArray, argTypes := ats }) {fn : Func} {c : Code} (hf : P.funcs[f]? = some fn)
    (hn : (fn.name == "runtime.NumGoroutine") = false) (hb : fn.body = some c) (vs : List Value) (hv : args.map A.eval = vs) (h : Calls P f vs.toArray w fun e w' => ∃ v, e = .returned v ∧ next v w') : loudUpon P next ((execOp A.eval o).run P w) := by
  have h2' : fn.name ≠ "runtime.NumGoroutine" := by simpa using hn
  have h3' : fn.body ≠ none := by rw [hb]; intro e; cases e
  have e2 : (execOp A.eval o).run P w = .ok (.enter f vs.toArray) w := by
    unfold execOp
    have e : (args.toArray.map A.eval) = vs.toArray := by rw [← hv]; simp
    simp only [hop, resolve, e]
    simp [Act.eval, Deferred.ofValue, invoke, callFunc, hf, h2', h3']
  rw [e2]
  exact h
theorem upon_alloc {A : Act} {w : World} {o : Oper} {next : Value → World → Prop} (hop : o.op = .alloc 25) (h : next (.pointer (some ⟨w.heap.size, 0, none⟩)) (w.alloc (.cells #[.int .i64 0, .int .i64 0] 25))) : loudUpon Try.prog next ((execOp A.eval o).run Try.prog w) := by
  have e2 : (execOp A.eval o).run Try.prog w = .ok (.value (.pointer (some ⟨w.heap.size, 0, none⟩))) (w.alloc (.cells #[.int .i64 0, .int .i64 0] 25)) := by
    unfold execOp
    rw [hop]
    kernel_rfl
  rw [e2]
  exact h
structure NP (w0 w : World) (N : Nat) (n p : ObI) : Prop where
  nAt : ∀ j u, n.cells[j]? = some u → w.cell? ⟨N, j, none⟩ = some u
  pAt : ∀ j u, p.cells[j]? = some u → w.cell? ⟨N + 1, j, none⟩ = some u
  below : Below N w0 w
theorem NP.b {w0 w w' : World} {N : Nat} {n p : ObI} (h : NP w0 w N n p) (hN : N ≤ w.heap.size) (hb : Below w.heap.size w w') : NP w0 w' N n p :=
  ⟨fun j u hu => Below.cell_some hb (h.nAt j u hu), fun j u hu => Below.cell_some hb (h.pAt j u hu), h.below.trans (hb.mono hN)⟩
theorem NP.new (w : World) (n p : ObI) : NP w ((w.alloc (.cells n.cells.toArray 44)).alloc (.cells p.cells.toArray 44)) w.heap.size n p := by
  refine ⟨fun j u hu => Below.cell_some ((Below.refl _ _).alloc (Nat.le_refl _) _) (ob_new w n _ j u hu), fun j u hu => ?_, ((Below.refl _ _).alloc (Nat.le_refl _) _).alloc (by simp) _⟩
  have := ob_new (w.alloc (.cells n.cells.toArray 44)) p 44 j u hu
  rwa [World.size_alloc] at this

set_option maxRecDepth 100000 in
set_option maxHeartbeats 4000000 in
theorem roomPuts_core (n p : ObI) (l : List ObI) (ao : Option Addr) (k cap : Nat) (w : World) (hn : ObAt w n) (hp : ObAt w p) (hS : SlR (Flat ObI.cells) 47 w ao k cap l) (hA : ∀ x ∈ l, ObAt w x) :
    Calls Try.prog 4 #[.agg n.cells.toArray, .agg p.cells.toArray, .slice ao k cap] w fun e w' => e = .returned (.bool true) ∧ Below w.heap.size w w' := by
  obtain ⟨w2, hw2⟩ : ∃ w2, (w.alloc (.cells n.cells.toArray 44)).alloc (.cells p.cells.toArray 44) = w2 := ⟨_, rfl⟩
  have hNP := NP.new w n p
  rw [hw2] at hNP
  have hsz2 : w2.heap.size = w.heap.size + 2 := by rw [← hw2]; simp
  obtain ⟨N, hN⟩ : ∃ N, w.heap.size = N := ⟨_, rfl⟩
  rw [hN] at hNP hsz2
  have HNP := Lib.hid hNP
  have HN := Lib.hid hn
  have HPd := Lib.hid hp
  have HS := Lib.hid hS
  have HA := Lib.hid hA
  clear hn hp hS hA hNP
  obtain ⟨nc, hnc⟩ : ∃ l, n.cells = l := ⟨_, rfl⟩
  obtain ⟨pc, hpc⟩ : ∃ l, p.cells = l := ⟨_, rfl⟩
  have hnl : nc.length = 47 := by rw [← hnc]; rfl
  have hpl : pc.length = 47 := by rw [← hpc]; rfl
  have Hnc := Lib.hid hnc
  have Hpc := Lib.hid hpc
  have htwo : ∀ w : World, (Instr.buildSlice 54 2 [(0, .agg nc.toArray), (1, .agg pc.toArray)].toArray).run Try.prog w = .ok (.slice (some ⟨w.heap.size, 0, none⟩) 2 2) (w.alloc (.cells (nc ++ pc).toArray 44)) := fun w => by
    rw [← hnc, ← hpc]; exact twoObjSl n p w
  have Htwo := Lib.hid htwo
  rw [hnc, hpc] at hw2
  rw [hnc, hpc]
  clear hnc hpc htwo
  go_enter Try.func4, Try.ntmps4
  go_wp2_with fail
  refine (livesR w2).mono ?_
  rintro e w3 ⟨rfl, hb3⟩
  have HNP3 := Lib.hid (HNP.out.b (by omega) hb3)
  have hz3 : N + 2 ≤ w3.heap.size := by have := hb3.size; omega
  clear hb3 HNP hw2 hsz2
  obtain ⟨w4, hw4⟩ : ∃ w4, w3.alloc (.cells (nc ++ pc).toArray 44) = w4 := ⟨_, rfl⟩
  have hb4 : Below w3.heap.size w3 w4 := by rw [← hw4]; exact (Below.refl _ _).alloc (Nat.le_refl _) _
  have hS4 : SlR (Flat ObI.cells) 47 w4 (some ⟨w3.heap.size, 0, none⟩) 2 2 [n, p] := by
    rw [← hw4]
    exact SlR.of_new (f := ObI.cells) (sz := 47) w3 [n, p] 44 _ 2 rfl (by unfold maxLen; omega) (fun _ => rfl) (by rw [← Hnc.out, ← Hpc.out]; simp)
  have HNP4 := Lib.hid (HNP3.out.b (by omega) hb4)
  have hz4 : N + 2 ≤ w4.heap.size := Nat.le_trans hz3 hb4.size
  have hbw : Below w.heap.size w w4 := by rw [hN]; exact HNP4.out.below
  have hA4 : ∀ x ∈ [n, p], ObAt w4 x := fun x hx => by
    rcases List.mem_cons.1 hx with rfl | hx
    · exact HN.out.b hbw
    · rw [List.mem_singleton.1 hx]; exact HPd.out.b hbw
  have HF := Lib.hid (few17_any (fun _ => True) [n, p] _ 2 2 w4 hS4 hA4 (fun x _ wx => fewYes x wx))
  have cn3 := HNP3.out.nAt
  have cp3 := HNP3.out.pAt
  rw [Hnc.out] at cn3
  rw [Hpc.out] at cp3
  clear hb4 hS4 hA4 hbw
  go_wp2_with (first
    | ((with_reducible refine at_slot 16 ?_); go_must (refine wpList_load_gd aggObj rfl _ rfl ⟨N, 0, none⟩ rfl nc hnl (fun j u hu => by rw [Addr.add_lit, Nat.zero_add]; exact cn3 j u hu) ?_))
    | ((with_reducible refine at_slot 17 ?_); go_must (refine wpList_load_gd aggObj rfl _ rfl ⟨N + 1, 0, none⟩ rfl pc hpl (fun j u hu => by rw [Addr.add_lit, Nat.zero_add]; exact cp3 j u hu) ?_))
    | ((with_reducible refine at_slot 18 ?_); go_must (refine wpList_buildSlice_gd rfl 54 2 [(0, _), (1, _)] rfl [(0, .agg nc.toArray), (1, .agg pc.toArray)] rfl _ _ Htwo.out ?_)))
  refine HF.out.mono ?_
  rintro e w5 ⟨⟨b, rfl, hb⟩, hb5⟩
  have HNP5 := Lib.hid (HNP4.out.b (by omega) hb5)
  have hz5 : N + 2 ≤ w5.heap.size := Nat.le_trans hz4 hb5.size
  have HB5 : Hid (Below w.heap.size w w5) := by show Below _ _ _; rw [hN]; exact HNP5.out.below
  have HFe := Lib.hid hb
  have k0 := HNP5.out.nAt 0 _ n.h0
  have j0 := HNP5.out.pAt 0 _ p.h0
  clear hb hb5 HF hw4 HNP4 HNP3 cn3 cp3 hz4 hz3 Htwo
  cases b
  · go_wp2_with fail
    refine (livesR w5).mono ?_
    rintro e wE ⟨rfl, hbE⟩
    have HE := Lib.hid (HB5.out.trans (hbE.mono HB5.out.size))
    clear hbE
    go_wp2_with fail
    go_ret
    exact ⟨rfl, HE.out⟩
  · have HFf : Hid (FewOk (fun _ => True) [n, p]) := HFe.out rfl
    clear HFe
    by_cases hkn : n.kd = 2
    · rw [hkn] at k0
      by_cases hkp : p.kd = 1
      · rw [hkp] at j0
        have HF2 := Lib.hid (few17_any (fun _ => True) l ao k cap w5 (HS.out.flatKeeps (Keeps.below HB5.out)) (fun x hx => (HA.out x hx).b HB5.out) (fun x _ wx => fewYes x wx))
        go_wp2_with fail
        refine HF2.out.mono ?_
        rintro e w6 ⟨⟨b, rfl, hb⟩, hb6⟩
        have HNP6 := Lib.hid (HNP5.out.b (by omega) hb6)
        have hz6 : N + 2 ≤ w6.heap.size := Nat.le_trans hz5 hb6.size
        have HB6 : Hid (Below w.heap.size w w6) := HB5.out.trans (hb6.mono HB5.out.size)
        have HFo := Lib.hid hb
        clear hb hb6 HF2 HNP5 k0 j0 hz5
        cases b
        · go_wp2_with fail
          refine (livesR w6).mono ?_
          rintro e wE ⟨rfl, hbE⟩
          have HE := Lib.hid (HB6.out.trans (hbE.mono HB6.out.size))
          clear hbE
          go_wp2_with fail
          go_ret
          exact ⟨rfl, HE.out⟩
        · have HFp : Hid (FewOk (fun _ => True) l) := HFo.out rfl
          clear HFo
          obtain ⟨w7, hw7⟩ : ∃ w7, w6.alloc (.cells nc.toArray 44) = w7 := ⟨_, rfl⟩
          have hb7 : Below w6.heap.size w6 w7 := by rw [← hw7]; exact (Below.refl _ _).alloc (Nat.le_refl _) _
          have hS7 : SlR (Flat ObI.cells) 47 w7 (some ⟨w6.heap.size, 0, none⟩) 1 1 [n] := by
            rw [← hw7]
            exact SlR.of_new (f := ObI.cells) (sz := 47) w6 [n] 44 _ 1 rfl (by unfold maxLen; omega) (fun _ => rfl) (by rw [← Hnc.out]; simp)
          have HNP7 := Lib.hid (HNP6.out.b (by omega) hb7)
          have hz7 : N + 2 ≤ w7.heap.size := Nat.le_trans hz6 hb7.size
          have HB7 : Hid (Below w.heap.size w w7) := HB6.out.trans (hb7.mono HB6.out.size)
          have hkl : k ≤ 60 := by have := HFp.out.len; have := HS.out.hlen; omega
          have HRo := Lib.hid (rooms_any [n] l _ 1 1 ao k cap w7 hS7 (HS.out.flatKeeps (Keeps.below HB7.out)) (by omega) (by omega) (fun x hx => by rw [List.mem_singleton.1 hx]; exact HN.out.sm.nm) (fun q hq => ⟨(HA.out q hq).sm.pN, fun ho => by
            have hk : q.kd = 1 := by
              unfold onRoom at ho
              simp only [Bool.and_eq_true] at ho
              exact eq_of_beq ho.1
            have := pod_size (HFp.out.each q hq).2 hk
            unfold In60
            omega⟩))
          have hone : ∀ w : World, (Instr.buildSlice 54 1 [(0, .agg nc.toArray)].toArray).run Try.prog w = .ok (.slice (some ⟨w.heap.size, 0, none⟩) 1 1) (w.alloc (.cells nc.toArray 44)) := fun w => by
            rw [← Hnc.out]; exact oneObjSl n w
          have Hone := Lib.hid hone
          have cn6 := HNP6.out.nAt
          rw [Hnc.out] at cn6
          clear hb7 hS7 hone
          go_wp2_with (first
            | ((with_reducible refine at_slot 38 ?_); go_must (refine wpList_load_at aggObj rfl _ rfl ⟨N, 0, none⟩ rfl nc hnl (fun j u hu => by rw [Addr.add_lit, Nat.zero_add]; exact cn6 j u hu) ?_))
            | ((with_reducible refine at_slot 39 ?_); go_must (refine wpList_buildSlice rfl 54 1 [(0, _)] rfl [(0, .agg nc.toArray)] rfl _ _ Hone.out ?_)))
          refine HRo.out.mono ?_
          rintro e w8 ⟨ao', k', cap', ys, rfl, hys, hS8, hb8⟩
          obtain ⟨r, hr1, hr2⟩ := rooms_one hkn HFp.out hys
          rw [hr1] at hS8
          obtain rfl : k' = 1 := hS8.hlen.symm
          obtain ⟨br, boff, rfl⟩ := hS8.ptr (by decide) (by omega)
          have hc8 := hS8.flat (show 0 < [r].length from Nat.zero_lt_one)
          simp only [List.getElem_cons_zero, Nat.zero_mul, Nat.add_zero] at hc8
          have HNP8 := Lib.hid (HNP7.out.b (by omega) hb8)
          have hz8 : N + 2 ≤ w8.heap.size := Nat.le_trans hz7 hb8.size
          have HB8 : Hid (Below w.heap.size w w8) := HB7.out.trans (hb8.mono HB7.out.size)
          have Hr2 := Lib.hid hr2
          have hns := node_size (HFf.out.each n (by simp)).2 hkn
          have hps := pod_size (HFf.out.each p (by simp)).2 hkp
          have Hps := Lib.hid hps
          have HrI : Hid r.In := by
            refine ⟨?_, ?_, ?_, ?_⟩ <;> (have h1 := hr2.n; have h2 := hr2.cpu; have h3 := hr2.mem; unfold In60; first | (rw [h1]; dsimp only; omega) | omega)
          have HPp : Hid (In60 p.o.p.cpu ∧ In60 p.o.p.mem ∧ In60 r.pods) := by
            show _ ∧ _ ∧ _
            have := hr2.pods
            unfold In60
            omega
          obtain ⟨rc, hrc⟩ : ∃ l, r.cells = l := ⟨_, rfl⟩
          have hrl : rc.length = 11 := by rw [← hrc]; rfl
          have hro : rc.all (fun u => u.oneCell') = true := by rw [← hrc]; rfl
          have Hrc := Lib.hid hrc
          rw [hrc] at hc8
          clear hys hr1 hr2 hS8 hb8 hns hps hrc HRo Hone cn6 hw7 HNP7 HNP6 HB7 hz7 hz6
          obtain ⟨w9, hw9⟩ : ∃ w9, w8.alloc (.cells rc.toArray 57) = w9 := ⟨_, rfl⟩
          have hb9 : Below w8.heap.size w8 w9 := by rw [← hw9]; exact (Below.refl _ _).alloc (Nat.le_refl _) _
          obtain ⟨b7, hb7e⟩ : ∃ q, w8.heap.size = q := ⟨_, rfl⟩
          have hr9 : w9.heap[b7]? = some (.cells rc.toArray 57 (0, 0)) := by rw [← hw9, ← hb7e]; exact heap_alloc_new _ _
          have HR9 := Lib.hid hr9
          have HNP9 := Lib.hid (HNP8.out.b (by omega) hb9)
          have hz9 : N + 2 ≤ w9.heap.size := Nat.le_trans hz8 hb9.size
          have HB9 : Hid (Below w.heap.size w w9) := HB8.out.trans (hb9.mono HB8.out.size)
          have cr9 := block_at hr9 (i := 0) (n := 11) rc (by simp; exact (List.take_of_length_le (by omega)).symm)
          obtain ⟨pd, hpd⟩ : ∃ l, p.o.p.vals = l := ⟨_, rfl⟩
          have hpdl : pd.length = 10 := by rw [← hpd]; rfl
          have HPdv := Lib.hid hpd
          have cpod : ∀ wx : World, NP w wx N n p → ∀ j u, pd[j]? = some u → wx.cell? ((⟨N + 1, 10, none⟩ : Addr).add j) = some u := fun wx h j u hu => by
            rw [Addr.add_lit]
            refine h.pAt (10 + j) u ?_
            rw [← hpd] at hu
            rw [← hu]
            have hj : j < 10 := (List.getElem?_eq_some_iff.1 hu).1
            rcases (show j = 0 ∨ j = 1 ∨ j = 2 ∨ j = 3 ∨ j = 4 ∨ j = 5 ∨ j = 6 ∨ j = 7 ∨ j = 8 ∨ j = 9 by omega) with rfl | rfl | rfl | rfl | rfl | rfl | rfl | rfl | rfl | rfl <;> rfl
          have HCp := Lib.hid cpod
          have hNa : ∀ wx : World, Below w.heap.size w wx → NodeAt wx r.n := fun wx hb => by rw [Hr2.out.n]; exact (HN.out.b hb).sh.n
          have hPa : ∀ wx : World, Below w.heap.size w wx → PodAt wx p.o.p := fun wx hb => (HPd.out.b hb).sh.p
          have HPut := Lib.hid (rput_any r p.o.p w9 (hNa w9 HB9.out) (hPa w9 HB9.out) HrI.out HPp.out.1 HPp.out.2.1 HPp.out.2.2)
          have HFit : Hid (∀ wx : World, Below w.heap.size w wx → _) := fun wx hb => rfits_any r p.o.p wx (hNa wx hb) (hPa wx hb) HrI.out
          obtain ⟨fb, hfb⟩ : ∃ c, fitsB r p.o.p = c := ⟨_, rfl⟩
          have Hfb := Lib.hid hfb
          rw [hfb] at HPut HFit
          rw [Hrc.out, hpd] at HPut HFit
          obtain ⟨qr, hqr⟩ : ∃ q, (if fb = true then r.put p.o.p else r) = q := ⟨_, rfl⟩
          have Hqr := Lib.hid hqr
          rw [hqr] at HPut
          obtain ⟨qc, hqc⟩ : ∃ l, qr.cells = l := ⟨_, rfl⟩
          have hql : qc.length = 11 := by rw [← hqc]; rfl
          have hqo : qc.all (fun u => u.oneCell') = true := by rw [← hqc]; rfl
          have Hqc := Lib.hid hqc
          rw [hqc] at HPut
          have cpd9 := HCp.out w9 HNP9.out
          clear hb9 hr9 hpd cpod hNa hPa hfb hqr hqc HNP8 HB8 hz8
          go_wp2_with (first
            | ((with_reducible refine at_slot 43 ?_); go_must (refine wpList_load_at aggRoom rfl _ rfl ⟨br, boff, none⟩ rfl rc hrl (fun j u hu => by rw [Addr.add_lit]; exact hc8 j u hu) ?_))
            | ((with_reducible refine at_slot 7 ?_); go_must (refine wpList_var aggRoom rfl rfl rfl _ _ rfl rfl rc.toArray rfl rfl (by simp [hrl]) (by simpa using hro) ?_; rw [hw9, hb7e]))
            | ((with_reducible refine at_slot 45 ?_); go_must (refine wpList_load_at aggRoom rfl _ rfl ⟨b7, 0, none⟩ rfl rc hrl cr9 ?_))
            | ((with_reducible refine at_slot 47 ?_); go_must (refine wpList_load_at aggPod rfl _ rfl ⟨N + 1, 10, none⟩ rfl pd hpdl cpd9 ?_)))
          refine HPut.out.mono ?_
          rintro e w10 ⟨rfl, hb10⟩
          have HR10 : Hid (w10.heap[b7]? = some (.cells rc.toArray 57 (0, 0))) := (hb10.block b7 (Array.getElem?_eq_some_iff.1 HR9.out).1).trans HR9.out
          have HNP10 := Lib.hid (HNP9.out.b (by omega) hb10)
          have hz10 : N + 2 ≤ w10.heap.size := Nat.le_trans hz9 hb10.size
          have HB10 : Hid (Below w.heap.size w w10) := HB9.out.trans (hb10.mono HB9.out.size)
          clear hb10 cr9 cpd9 HPut HNP9 HR9 HB9 hz9 hc8 hw9
          obtain ⟨w11, hw11⟩ : ∃ w11, w10.alloc (.cells qc.toArray 57) = w11 := ⟨_, rfl⟩
          have hb11 : Below w10.heap.size w10 w11 := by rw [← hw11]; exact (Below.refl _ _).alloc (Nat.le_refl _) _
          obtain ⟨b8, hb8e⟩ : ∃ q, w10.heap.size = q := ⟨_, rfl⟩
          have HR11 : Hid (w11.heap[b7]? = some (.cells rc.toArray 57 (0, 0))) := (hb11.block b7 (Array.getElem?_eq_some_iff.1 HR10.out).1).trans HR10.out
          have HQ11 : Hid (w11.heap[b8]? = some (.cells qc.toArray 57 (0, 0))) := by show _ = _; rw [← hw11, ← hb8e]; exact heap_alloc_new _ _
          have HNP11 := Lib.hid (HNP10.out.b (by omega) hb11)
          have hz11 : N + 2 ≤ w11.heap.size := Nat.le_trans hz10 hb11.size
          have HB11 : Hid (Below w.heap.size w w11) := HB10.out.trans (hb11.mono HB10.out.size)
          have cr11 := block_at HR11.out (i := 0) (n := 11) rc (by simp; exact (List.take_of_length_le (by omega)).symm)
          have cpd11 := HCp.out w11 HNP11.out
          clear hb11 HR10 HNP10 hz10 HB10
          go_wp2_with (first
            | ((with_reducible refine at_slot 8 ?_); go_must (refine wpList_var aggRoom rfl rfl rfl _ _ rfl rfl qc.toArray rfl rfl (by simp [hql]) (by simpa using hqo) ?_; rw [hw11, hb8e]))
            | ((with_reducible refine at_slot 52 ?_); go_must (refine wpList_load_at aggRoom rfl _ rfl ⟨b7, 0, none⟩ rfl rc hrl cr11 ?_))
            | ((with_reducible refine at_slot 54 ?_); go_must (refine wpList_load_at aggPod rfl _ rfl ⟨N + 1, 10, none⟩ rfl pd hpdl cpd11 ?_)))
          refine (HFit.out _ HB11.out).mono ?_
          rintro e w12 ⟨rfl, hb12⟩
          have HR12 : Hid (w12.heap[b7]? = some (.cells rc.toArray 57 (0, 0))) := (hb12.block b7 (Array.getElem?_eq_some_iff.1 HR11.out).1).trans HR11.out
          have HQ12 : Hid (w12.heap[b8]? = some (.cells qc.toArray 57 (0, 0))) := (hb12.block b8 (Array.getElem?_eq_some_iff.1 HQ11.out).1).trans HQ11.out
          have HNP12 := Lib.hid (HNP11.out.b (by omega) hb12)
          have hz12 : N + 2 ≤ w12.heap.size := Nat.le_trans hz11 hb12.size
          have HB12 : Hid (Below w.heap.size w w12) := HB11.out.trans (hb12.mono HB11.out.size)
          clear hb12 cr11 cpd11 HFit HNP11 HR11 HQ11 HB11 hz11 hw11
          cases fb
          · have hq : qr = r := Hqr.out.symm
            have hqcr : qc = rc := by rw [← Hqc.out, ← Hrc.out, hq]
            have hR12 := HR12.out
            have hQ12 := HQ12.out
            rw [← Hrc.out] at hR12
            rw [hqcr, ← Hrc.out] at hQ12
            have r10 : w12.cell? ⟨b7, 10, none⟩ = some (.int .i64 r.pods) := cell_of_row w12 b7 10 _ _ _ hR12
            have q10 : w12.cell? ⟨b8, 10, none⟩ = some (.int .i64 r.pods) := cell_of_row w12 b8 10 _ _ _ hQ12
            have cQ := block_at hQ12 (i := 8) (n := 2) [.int .i64 r.cpu, .int .i64 r.mem] rfl
            have cR := block_at hR12 (i := 8) (n := 2) [.int .i64 r.cpu, .int .i64 r.mem] rfl
            clear hR12 hQ12 hq
            go_wp2_with (first
              | ((with_reducible refine at_slot 60 ?_); go_must (refine wpList_load_at aggRes rfl _ rfl ⟨b8, 8, none⟩ rfl _ rfl cQ ?_))
              | ((with_reducible refine at_slot 62 ?_); go_must (refine wpList_load_at aggRes rfl _ rfl ⟨b7, 8, none⟩ rfl _ rfl cR ?_)))
            go_ret
            exact ⟨rfl, HB12.out⟩
          · have hq : qr = r.put p.o.p := Hqr.out.symm
            have hqI : qr.In := by
              have h1 := HrI.out
              rw [hq]
              refine ⟨h1.ncpu, h1.nmem, ?_, ?_⟩ <;> (have h2 := h1.cpu; have h3 := h1.mem; have h4 := HPp.out; unfold In60 at *; simp only [RoomI.put]; omega)
            have hlaw := put_law Hr2.out Hps.out Hfb.out
            rw [← hq] at hlaw
            have HLr := Lib.hid (fun wx => rleft_any r wx HrI.out)
            have HLq := Lib.hid (fun wx => rleft_any qr wx hqI)
            rw [Hrc.out] at HLr
            rw [Hqc.out] at HLq
            have HTk := Lib.hid (fun wx => rtake_any qr p.o.p wx hqI HPp.out.1 HPp.out.2.1 (by rw [hlaw.2.2.1]; have := HPp.out.2.2; have := Hr2.out.pods; unfold In60; omega))
            obtain ⟨l1, hl1⟩ : ∃ x, r.left.1 = x := ⟨_, rfl⟩
            obtain ⟨l2, hl2⟩ : ∃ x, r.left.2 = x := ⟨_, rfl⟩
            obtain ⟨m1, hm1⟩ : ∃ x, qr.left.1 = x := ⟨_, rfl⟩
            obtain ⟨m2, hm2⟩ : ∃ x, qr.left.2 = x := ⟨_, rfl⟩
            rw [hl1, hl2, hm1, hm2] at hlaw
            rw [hl1, hl2] at HLr
            rw [hm1, hm2] at HLq
            have Hlaw := Lib.hid hlaw
            have mixed : Try.prog.follows .mixedOrders = true := by kernel_rfl
            have cr : ∀ b : BW w12, ∀ j u, rc[j]? = some u → b.w'.cell? ((⟨b7, 0, none⟩ : Addr).add j) = some u := BW.cells (block_at HR12.out (i := 0) (n := 11) rc (by simp; exact (List.take_of_length_le (by omega)).symm))
            have cq : ∀ b : BW w12, ∀ j u, qc[j]? = some u → b.w'.cell? ((⟨b8, 0, none⟩ : Addr).add j) = some u := BW.cells (block_at HQ12.out (i := 0) (n := 11) qc (by simp; exact (List.take_of_length_le (by omega)).symm))
            clear hl1 hl2 hm1 hm2 hlaw hqI
            go_upto_region 9 with fail
            refine region_later mixed ?_
            refine later_inv (fun w' => ∃ b : BW w12, w' = b.w') (fun d A w' => ∃ v10 v11 v72 v74, A = ⟨#[.agg nc.toArray, .agg pc.toArray, .slice ao k cap, .pointer (some ⟨N, 0, none⟩), .pointer (some ⟨N + 1, 0, none⟩), undef, .bool false, .pointer (some ⟨b7, 0, none⟩), .pointer (some ⟨b8, 0, none⟩), .bool true, v10, v11, undef, .bool true, .bool false, .bool false, .agg nc.toArray, .agg pc.toArray, .slice (some ⟨w3.heap.size, 0, none⟩) 2 2, .bool true, .bool false, .bool false, .bool false, .pointer (some ⟨N, 0, none⟩), .int .i64 2, .bool false, .bool false, .bool false, .pointer (some ⟨N + 1, 0, none⟩), .int .i64 1, .bool false, .bool false, .bool false, .slice ao k cap, .bool true, .bool false, .bool false, undef, .agg nc.toArray, .slice (some ⟨w6.heap.size, 0, none⟩) 1 1, .slice ao k cap, .slice (some ⟨br, boff, none⟩) 1 cap', .pointer (some ⟨br, boff, none⟩), .agg rc.toArray, .tuple #[.agg qc.toArray, .bool true], .agg rc.toArray, .pointer (some ⟨N + 1, 10, none⟩), .agg pd.toArray, .tuple #[.agg qc.toArray, .bool true], .agg qc.toArray, .bool true, .bool true, .agg rc.toArray, .pointer (some ⟨N + 1, 10, none⟩), .agg pd.toArray, .bool true, .bool false, .bool true, .bool false, undef, undef, undef, undef, undef, undef, undef, undef, undef, undef, undef, undef, .agg rc.toArray, v72, .agg qc.toArray, v74, undef, undef, undef, undef, undef, undef, undef, undef, undef, undef, undef, undef, undef, undef, undef, undef, undef, undef, undef, undef, undef, undef, undef, undef, undef, undef, undef, undef, undef, undef, undef, undef, undef, undef, undef, undef, undef, undef, undef, undef, undef, undef, undef, undef, undef, undef, undef, undef, undef, undef, undef, undef, undef, undef, undef], []⟩ ∧ (d 1 = true → v72 = .agg #[.int .i64 l1, .int .i64 l2]) ∧ (d 3 = true → v74 = .agg #[.int .i64 m1, .int .i64 m2]) ∧
                (d 4 = true → ∃ b, v10 = .pointer (some ⟨b, 0, none⟩) ∧ w12.heap.size ≤ b ∧ w'.heap[b]? = some (.cells #[.int .i64 0, .int .i64 0] 25 (0, 0))) ∧ (d 5 = true → ∃ b, v11 = .pointer (some ⟨b, 0, none⟩) ∧ w12.heap.size ≤ b ∧ w'.heap[b]? = some (.cells #[.int .i64 0, .int .i64 0] 25 (0, 0))) ∧ (d 4 = true → d 5 = true → v10 ≠ v11)) [1, 3, 4, 5] 0 6 30 (by kernel_rfl) (by kernel_rfl) ⟨⟨{ w12 with drawn := w12.drawn + 1 }, ⟨rfl, rfl, rfl, Nat.le_refl _, fun _ _ => rfl⟩⟩, rfl⟩ ?_ ?_ ?_
            · intro i o ho hi d A w' hI hdi _ hC
              obtain ⟨v10, v11, v72, v74, rfl, h1, h3, h4, h5, h45⟩ := hI
              obtain ⟨bw, rfl⟩ := hC
              simp only [List.mem_cons, List.not_mem_nil, or_false] at hi
              rcases hi with rfl | rfl | rfl | rfl
              · obtain rfl := Option.some.inj ho
                refine upon_call 17 [.tmp 71] _ rfl Try.func17 (by kernel_rfl) rfl [.agg rc.toArray] (by as_aux_lemma => kernel_rfl) ((HLr.out _).mono ?_)
                rintro e w'' ⟨rfl, hb⟩
                exact ⟨_, rfl, ⟨⟨w'', bw.h.trans (hb.mono bw.h.size)⟩, rfl⟩, v10, v11, _, v74, rfl, (fun _ => rfl), (fun h => h3 (by simpa using h)), (fun h => by obtain ⟨b, e1, e2, e3⟩ := h4 (by simpa using h); exact ⟨b, e1, e2, (hb.block b (Array.getElem?_eq_some_iff.1 e3).1).trans e3⟩), (fun h => by obtain ⟨b, e1, e2, e3⟩ := h5 (by simpa using h); exact ⟨b, e1, e2, (hb.block b (Array.getElem?_eq_some_iff.1 e3).1).trans e3⟩), (fun ha hb => h45 (by simpa using ha) (by simpa using hb))⟩
              · obtain rfl := Option.some.inj ho
                refine upon_call 17 [.tmp 73] _ rfl Try.func17 (by kernel_rfl) rfl [.agg qc.toArray] (by as_aux_lemma => kernel_rfl) ((HLq.out _).mono ?_)
                rintro e w'' ⟨rfl, hb⟩
                exact ⟨_, rfl, ⟨⟨w'', bw.h.trans (hb.mono bw.h.size)⟩, rfl⟩, v10, v11, v72, _, rfl, (fun h => h1 (by simpa using h)), (fun _ => rfl), (fun h => by obtain ⟨b, e1, e2, e3⟩ := h4 (by simpa using h); exact ⟨b, e1, e2, (hb.block b (Array.getElem?_eq_some_iff.1 e3).1).trans e3⟩), (fun h => by obtain ⟨b, e1, e2, e3⟩ := h5 (by simpa using h); exact ⟨b, e1, e2, (hb.block b (Array.getElem?_eq_some_iff.1 e3).1).trans e3⟩), (fun ha hb => h45 (by simpa using ha) (by simpa using hb))⟩
              · obtain rfl := Option.some.inj ho
                refine upon_alloc rfl ⟨⟨⟨_, bw.h.alloc bw.h.size _⟩, rfl⟩, _, v11, v72, v74, rfl, (fun h => h1 (by simpa using h)), (fun h => h3 (by simpa using h)), (fun _ => ⟨_, rfl, bw.h.size, heap_alloc_new _ _⟩), (fun h => by obtain ⟨b, e1, e2, e3⟩ := h5 (by simpa using h); exact ⟨b, e1, e2, (Below.heap_alloc _ _ _ (Array.getElem?_eq_some_iff.1 e3).1).trans e3⟩), (fun _ hb e => by obtain ⟨b, e1, _, e3⟩ := h5 (by simpa using hb); have := (Array.getElem?_eq_some_iff.1 e3).1; rw [e1] at e; simp only [Value.pointer.injEq, Option.some.injEq, Addr.mk.injEq, and_true] at e; omega)⟩
              · obtain rfl := Option.some.inj ho
                refine upon_alloc rfl ⟨⟨⟨_, bw.h.alloc bw.h.size _⟩, rfl⟩, v10, _, v72, v74, rfl, (fun h => h1 (by simpa using h)), (fun h => h3 (by simpa using h)), (fun h => by obtain ⟨b, e1, e2, e3⟩ := h4 (by simpa using h); exact ⟨b, e1, e2, (Below.heap_alloc _ _ _ (Array.getElem?_eq_some_iff.1 e3).1).trans e3⟩), (fun _ => ⟨_, rfl, bw.h.size, heap_alloc_new _ _⟩), (fun ha _ e => by obtain ⟨b, e1, _, e3⟩ := h4 (by simpa using ha); have := (Array.getElem?_eq_some_iff.1 e3).1; rw [e1] at e; simp only [Value.pointer.injEq, Option.some.injEq, Addr.mk.injEq, and_true] at e; omega)⟩
            · rintro A w' ⟨bw, rfl⟩ ⟨d, ⟨v10, v11, v72, v74, rfl, h1, h3, h4, h5, h45⟩, hall⟩
              obtain rfl := h1 (hall 1 (by decide))
              obtain rfl := h3 (hall 3 (by decide))
              obtain ⟨b10, rfl, hl10, hr10⟩ := h4 (hall 4 (by decide))
              obtain ⟨b11, rfl, hl11, hr11⟩ := h5 (hall 5 (by decide))
              have hne : b10 ≠ b11 := fun e => h45 (hall 4 (by decide)) (hall 5 (by decide)) (by rw [e])
              obtain ⟨w13, hb13⟩ := bw
              dsimp only at hr10 hr11 ⊢
              clear h1 h3 h4 h5 h45 hall
              refine later_phase (fun _ => True) [6, 7] 8 6 8 30 (by kernel_rfl) (by kernel_rfl) trivial ?_
              repeat (refine wpVal_skipR rfl ?_)
              refine wpVal_endR ?_
              refine wpLoud_store_part aggRes rfl rfl (.tmp 10) (.tmp 72) rfl rfl b10 0 [.int .i64 l1, .int .i64 l2] rfl (by intro v hv; simp only [List.mem_cons, List.not_mem_nil, or_false] at hv; rcases hv with rfl | rfl <;> rfl) _ _ hr10 (by decide) (by as_aux_lemma => kernel_rfl) (by as_aux_lemma => kernel_rfl) ⟨fun _ => trivial, ?_⟩
              obtain ⟨w14, hw14⟩ : ∃ q, w13.setRow b10 #[.int .i64 l1, .int .i64 l2] = q := ⟨_, rfl⟩
              have ha14 : w14.heap[b10]? = some (.cells #[.int .i64 l1, .int .i64 l2] 25 (0, 0)) := by rw [← hw14]; exact setRow_heap hr10
              have hf14 : Fr (fun k => k = b10) w13 w14 := by rw [← hw14]; exact Fr.setRow (fun k => k = b10) w13 b10 _ rfl
              have hc14 : w14.heap[b11]? = some (.cells #[.int .i64 0, .int .i64 0] 25 (0, 0)) := (hf14.block b11 (Array.getElem?_eq_some_iff.1 hr11).1 (fun e => hne e.symm)).trans hr11
              show wpLoud _ _ _ _ _ _ _ (w13.setRow b10 #[.int .i64 l1, .int .i64 l2])
              rw [hw14]
              refine wpLoud_store_part aggRes rfl rfl (.tmp 11) (.tmp 74) rfl rfl b11 0 [.int .i64 m1, .int .i64 m2] rfl (by intro v hv; simp only [List.mem_cons, List.not_mem_nil, or_false] at hv; rcases hv with rfl | rfl <;> rfl) _ _ hc14 (by decide) (by as_aux_lemma => kernel_rfl) (by as_aux_lemma => kernel_rfl) ⟨fun _ => trivial, ?_⟩
              obtain ⟨w15, hw15⟩ : ∃ q, w14.setRow b11 #[.int .i64 m1, .int .i64 m2] = q := ⟨_, rfl⟩
              have hc15 : w15.heap[b11]? = some (.cells #[.int .i64 m1, .int .i64 m2] 25 (0, 0)) := by rw [← hw15]; exact setRow_heap hc14
              have hf15 : Fr (fun k => k = b11) w14 w15 := by rw [← hw15]; exact Fr.setRow (fun k => k = b11) w14 b11 _ rfl
              have ha15 : w15.heap[b10]? = some (.cells #[.int .i64 l1, .int .i64 l2] 25 (0, 0)) := (hf15.block b10 (Array.getElem?_eq_some_iff.1 ha14).1 hne).trans ha14
              show wpLoud _ _ _ _ _ _ _ (w14.setRow b11 #[.int .i64 m1, .int .i64 m2])
              rw [hw15]
              have hb15 : Below w12.heap.size w12 w15 := (hb13.trans (hf14.below hb13.size (fun k hk => by omega))).trans (hf15.below (Nat.le_trans hb13.size hf14.size) (fun k hk => by omega))
              have HR15 : Hid (w15.heap[b7]? = some (.cells rc.toArray 57 (0, 0))) := (hb15.block b7 (Array.getElem?_eq_some_iff.1 HR12.out).1).trans HR12.out
              have HQ15 : Hid (w15.heap[b8]? = some (.cells qc.toArray 57 (0, 0))) := (hb15.block b8 (Array.getElem?_eq_some_iff.1 HQ12.out).1).trans HQ12.out
              have HNP15 := Lib.hid (HNP12.out.b (by omega) hb15)
              have hz15 : N + 2 ≤ w15.heap.size := Nat.le_trans hz12 hb15.size
              have HB15 : Hid (Below w.heap.size w w15) := HB12.out.trans (hb15.mono HB12.out.size)
              have HA15 := Lib.hid ha15
              have HC15 := Lib.hid hc15
              have cq15 := block_at HQ15.out (i := 0) (n := 11) qc (by simp; exact (List.take_of_length_le (by omega)).symm)
              have cpd15 := HCp.out w15 HNP15.out
              clear hw14 ha14 hf14 hc14 hw15 hc15 hf15 ha15 hb15 hb13 hr10 hr11 hne HLr HLq cr cq
              refine wpLoud_nil ?_
              refine later_end 8 rfl ?_
              obtain ⟨tc, htc⟩ : ∃ l, (qr.take p.o.p).cells = l := ⟨_, rfl⟩
              have htl : tc.length = 11 := by rw [← htc]; rfl
              have hto : tc.all (fun u => u.oneCell') = true := by rw [← htc]; rfl
              have Htc := Lib.hid htc
              rw [Hqc.out, HPdv.out, htc] at HTk
              clear htc
              go_simp
              go_wp2_with (first
                | ((with_reducible refine at_slot 75 ?_); go_must (refine wpList_load_at aggRoom rfl _ rfl ⟨b8, 0, none⟩ rfl qc hql cq15 ?_))
                | ((with_reducible refine at_slot 77 ?_); go_must (refine wpList_load_at aggPod rfl _ rfl ⟨N + 1, 10, none⟩ rfl pd hpdl cpd15 ?_)))
              refine (HTk.out _).mono ?_
              rintro e w16 ⟨rfl, hb16⟩
              obtain ⟨w17, hw17⟩ : ∃ q, w16.alloc (.cells tc.toArray 57) = q := ⟨_, rfl⟩
              obtain ⟨b12, hb12e⟩ : ∃ q, w16.heap.size = q := ⟨_, rfl⟩
              have hb17 : Below w15.heap.size w15 w17 := by rw [← hw17]; exact hb16.alloc hb16.size _
              have hT17 : w17.heap[b12]? = some (.cells tc.toArray 57 (0, 0)) := by rw [← hw17, ← hb12e]; exact heap_alloc_new _ _
              have hR17 := (hb17.block b7 (Array.getElem?_eq_some_iff.1 HR15.out).1).trans HR15.out
              have hQ17 := (hb17.block b8 (Array.getElem?_eq_some_iff.1 HQ15.out).1).trans HQ15.out
              have hA17 := (hb17.block b10 (Array.getElem?_eq_some_iff.1 HA15.out).1).trans HA15.out
              have hC17 := (hb17.block b11 (Array.getElem?_eq_some_iff.1 HC15.out).1).trans HC15.out
              have hN17 := HNP15.out.b (by omega) hb17
              have HB17 : Hid (Below w.heap.size w w17) := HB15.out.trans (hb17.mono HB15.out.size)
              rw [← Htc.out] at hT17
              rw [← Hrc.out] at hR17
              rw [← Hqc.out] at hQ17
              obtain ⟨g1, g2, g3, g4, g5, g6⟩ := Hlaw.out
              have ca0 := cell_of_row w17 b10 0 _ _ _ hA17
              have ca1 := cell_of_row w17 b10 1 _ _ _ hA17
              have cc0 := cell_of_row w17 b11 0 _ _ _ hC17
              have cc1 := cell_of_row w17 b11 1 _ _ _ hC17
              simp at ca0 ca1 cc0 cc1
              have p14 : w17.cell? ⟨N + 1, 14, none⟩ = some (.int .i64 p.o.p.cpu) := hN17.pAt 14 _ p.h14
              have p15 : w17.cell? ⟨N + 1, 15, none⟩ = some (.int .i64 p.o.p.mem) := hN17.pAt 15 _ p.h15
              have nn1 : w17.cell? ⟨N, 1, none⟩ = some (.string n.nm) := hN17.nAt 1 _ n.h1
              obtain ⟨pp, hpp⟩ : ∃ x, r.pods + 1 = x := ⟨_, rfl⟩
              have r10 : w17.cell? ⟨b7, 10, none⟩ = some (.int .i64 r.pods) := cell_of_row w17 b7 10 _ _ _ hR17
              have q10 : w17.cell? ⟨b8, 10, none⟩ = some (.int .i64 pp) := by
                have := cell_of_row w17 b8 10 _ _ _ hQ17
                rw [← hpp, ← g3]
                exact this
              have q0 : w17.cell? ⟨b8, 0, none⟩ = some (.string n.nm) := by
                have := cell_of_row w17 b8 0 _ _ _ hQ17
                rw [this, hq]
                show some (Value.string r.name) = _
                rw [Hr2.out.name]
              have t10 : w17.cell? ⟨b12, 10, none⟩ = some (.int .i64 r.pods) := by
                have := cell_of_row w17 b12 10 _ _ _ hT17
                rw [this, ← g6]
                rfl
              have cT := block_at hT17 (i := 8) (n := 2) [.int .i64 r.cpu, .int .i64 r.mem] (by
                show _ = [Value.int .i64 (qr.take p.o.p).cpu, .int .i64 (qr.take p.o.p).mem]
                rw [g4, g5])
              have cR := block_at hR17 (i := 8) (n := 2) [.int .i64 r.cpu, .int .i64 r.mem] rfl
              have gp : IntKind.i64.wrap pp = pp := IntWalk.i64_in _ (by have := Hr2.out.pods; omega)
              have gc : IntKind.i64.wrap p.o.p.cpu = p.o.p.cpu := IntWalk.i64_in _ (by have := Hps.out; omega)
              have gm : IntKind.i64.wrap p.o.p.mem = p.o.p.mem := IntWalk.i64_in _ (by have := Hps.out; omega)
              clear hb16 hb17 hT17 hR17 hQ17 hA17 hC17 hN17 cq15 cpd15 HTk g3 g4 g5 g6 hq
              go_wp2_with (first
                | ((with_reducible refine at_slot 12 ?_); go_must (refine wpList_var aggRoom rfl rfl rfl _ _ rfl rfl tc.toArray rfl rfl (by simp [htl]) (by simpa using hto) ?_; rw [hw17, hb12e]))
                | ((with_reducible refine at_slot 111 ?_); go_must (refine wpList_load_gd aggRes rfl _ rfl ⟨b12, 8, none⟩ rfl _ rfl cT ?_))
                | ((with_reducible refine at_slot 113 ?_); go_must (refine wpList_load_gd aggRes rfl _ rfl ⟨b7, 8, none⟩ rfl _ rfl cR ?_)))
              go_ret
              exact ⟨rfl, HB17.out⟩
            · repeat (first | (refine wpVal_skipR rfl ?_) | (refine wpVal_takeR rfl ?_; first | (refine wpVal_loadK aggRoom rfl _ rfl _ rfl _ hrl (by rintro _ ⟨b, rfl⟩; exact cr b) (fun K hK => ?_); go_simp; refine hK _ ?_; clear hK K) | (refine wpVal_loadK aggRoom rfl _ rfl _ rfl _ hql (by rintro _ ⟨b, rfl⟩; exact cq b) (fun K hK => ?_); go_simp; refine hK _ ?_; clear hK K)))
              refine wpVal_endR ?_
              exact ⟨undef, undef, undef, undef, rfl, (fun h => by cases h), (fun h => by cases h), (fun h => by cases h), (fun h => by cases h), (fun h => by cases h)⟩
      · have hne : (p.kd != 1) = true := by simpa using hkp
        go_wp2_with fail
        refine (livesR w5).mono ?_
        rintro e wE ⟨rfl, hbE⟩
        have HE := Lib.hid (HB5.out.trans (hbE.mono HB5.out.size))
        clear hbE
        go_wp2_with fail
        go_ret
        exact ⟨rfl, HE.out⟩
    · have hne : (n.kd != 2) = true := by simpa using hkn
      go_wp2_with fail
      refine (livesR w5).mono ?_
      rintro e wE ⟨rfl, hbE⟩
      have HE := Lib.hid (HB5.out.trans (hbE.mono HB5.out.size))
      clear hbE
      go_wp2_with fail
      go_ret
      exact ⟨rfl, HE.out⟩

theorem obI_of {w : World} {c : Array Value} (h : Rel shObj w c.toList) : ∃ x : ObI, c = x.cells.toArray ∧ ObAt w x := by
  obtain ⟨kd, nm, ver, o, e0, hS, hM⟩ := obj_of_rel h
  refine ⟨⟨kd, nm, ver, o⟩, ?_, hS, hM⟩
  apply Array.ext'
  exact e0
theorem RoomPuts_holds : Rows.RoomPutsSaid := lRoomPuts.over fun c0 c1 a2 l2 k2 w h0 h1 h2 => by
  obtain ⟨n, rfl, hn⟩ := obI_of h0
  obtain ⟨p, rfl, hp⟩ := obI_of h1
  obtain ⟨ao, la, ca, l, e, hS, hA⟩ := rowOb_of h2
  simp [Value.cells] at e
  obtain ⟨rfl, rfl, rfl⟩ := e
  exact roomPuts_core n p l _ _ _ w hn hp hS hA
end Go.Proofs.Ytpbppgfogepjeaa
