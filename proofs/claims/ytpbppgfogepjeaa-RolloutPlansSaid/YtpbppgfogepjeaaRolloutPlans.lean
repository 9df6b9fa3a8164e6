/- RolloutPlans: what is to be done of any workload and pods is what the document says; by it there are not too many, nor too few ready ones. Conditions: none. -/
import Derived.Test.YtpbppgfogepjeaaRolMidM
import Derived.Test.YtpbppgfogepjeaaRolPlan2
import Derived.Test.YtpbppgfogepjeaaRolLaw2
import Derived.Test.YtpbppgfogepjeaaRolFresh2
import Derived.Test.YtpbppgfogepjeaaCheckSpecM
import Derived.Test.YtpbppgfogepjeaaRolLives
import Derived.Test.YtpbppgfogepjeaaPhaseGM
import Derived.Test.YtpbppgfogepjeaaPhaseInv
namespace Go.Proofs.Ytpbppgfogepjeaa
open Go.ChangeShapes Go.WideShapes Go.ChangeAt Go.RowKit Go.Deep Go.Maps

theorem livesP (w : World) : Calls Try.prog 19 #[] w fun e w' => e = .returned (.bool true) ∧ Below w.heap.size w w' := rlives35 w
theorem fewYesP (x : ObI) (w : World) : Calls Try.prog 7 #[.agg x.cells.toArray] w fun e w' => (∃ b, e = .returned (.bool b) ∧ (b = true → True)) ∧ Below w.heap.size w w' :=
  (few_any x.kd x.nm x.ver x.o w).mono fun _ _ ⟨⟨b, h1⟩, h2⟩ => ⟨⟨b, h1, fun _ => trivial⟩, h2⟩
theorem wpList_buildSlice_gP {P : Program} {ops : Array Oper} {rest : List Oper} {o : Oper} {a : Act} {Q : Exit → Act → World → Prop} {w : World} (hg : Region.wanted o (yielded ops a.tmps) = true) (t : TypeId) (n : Nat) (parts : List (Nat × Operand))
    (ho : o.op = .buildSlice t n parts.toArray) (args : List (Nat × Value)) (hargs : parts.map (fun p => (p.1, a.eval p.2)) = args) (cur : Array Value) (e : TypeId)
    (hrun : ∀ w, (Instr.buildSlice t n args.toArray).run P w = .ok (.slice (some ⟨w.heap.size, 0, none⟩) n n) (w.alloc (.cells cur e)))
    (h : wpList P ops Q rest (a.put o.dst (.slice (some ⟨w.heap.size, 0, none⟩) n n)) (w.alloc (.cells cur e))) : wpList P ops Q (o :: rest) a w := by
  refine wpList_step fun K hK => ?_
  rw [if_pos hg]
  subst hargs
  have e : (parts.toArray.map fun (p : Nat × Operand) => (p.1, a.eval p.2)) = (parts.map fun p => (p.1, a.eval p.2)).toArray := by simp
  unfold Oper.wp
  simp only [execOp, ho]
  rw [e]
  simp [hrun, Result.andThen]
  exact hK _ _ h
theorem zeroBoolP (w : World) : (zeroValue 4).run Try.prog w = .ok (.bool false) w := by kernel_rfl
theorem aggRules : AggOK Try.prog 67 2 := .mk' (by kernel_rfl) (by kernel_rfl)
theorem slNilP {α : Type} {f : α → List Value} {sz : Nat} {w : World} : SlR (Flat f) sz w none 0 0 [] := ⟨rfl, Nat.le_refl _, Nat.zero_le _, fun _ => rfl, fun a h => by cases h⟩
structure RpAt (w0 w : World) (N : Nat) (s a : Int) (xc : List Value) : Prop where
  r : w.heap[N]? = some (.cells #[.int .i64 s, .int .i64 a] 67 (0, 0))
  x : ∀ j u, xc[j]? = some u → w.cell? ⟨N + 1, j, none⟩ = some u
  below : Below N w0 w
theorem RpAt.b {w0 w w' : World} {N : Nat} {s a : Int} {xc : List Value} (h : RpAt w0 w N s a xc) (hN : N ≤ w.heap.size) (hb : Below w.heap.size w w') : RpAt w0 w' N s a xc :=
  ⟨(hb.block N (Array.getElem?_eq_some_iff.1 h.r).1).trans h.r, fun j u hu => Below.cell_some hb (h.x j u hu), h.below.trans (hb.mono hN)⟩
theorem RpAt.new (w : World) (s a : Int) (xc : List Value) : RpAt w ((w.alloc (.cells #[.int .i64 s, .int .i64 a] 67)).alloc (.cells xc.toArray 44)) w.heap.size s a xc := by
  obtain ⟨w1, hw1⟩ : ∃ q, w.alloc (.cells #[.int .i64 s, .int .i64 a] 67) = q := ⟨_, rfl⟩
  have hr1 : w1.heap[w.heap.size]? = some (.cells #[.int .i64 s, .int .i64 a] 67 (0, 0)) := by rw [← hw1]; exact heap_alloc_new _ _
  have hz1 : w1.heap.size = w.heap.size + 1 := by rw [← hw1]; simp
  have hb1 : Below w.heap.size w w1 := by rw [← hw1]; exact (Below.refl _ _).alloc (Nat.le_refl _) _
  rw [hw1]
  have hb2 : Below w1.heap.size w1 (w1.alloc (.cells xc.toArray 44)) := (Below.refl _ _).alloc (Nat.le_refl _) _
  refine ⟨(hb2.block _ (by omega)).trans hr1, fun j u hu => ?_, hb1.trans (hb2.mono (by omega))⟩
  rw [← hz1]
  have := (cell_new w1 xc.toArray 44 j).trans (by simpa using hu)
  rwa [Addr.add_lit, Nat.zero_add] at this
theorem RpAt.rules {w0 w : World} {N : Nat} {s a : Int} {xc : List Value} (h : RpAt w0 w N s a xc) : ∀ j u, [Value.int .i64 s, .int .i64 a][j]? = some u → w.cell? ((⟨N, 0, none⟩ : Addr).add j) = some u := block_part h.r (i := 0) (n := 2) [.int .i64 s, .int .i64 a] rfl
theorem RpAt.obj {w0 w : World} {N : Nat} {s a : Int} {xc : List Value} (h : RpAt w0 w N s a xc) : ∀ j u, xc[j]? = some u → w.cell? ((⟨N + 1, 0, none⟩ : Addr).add j) = some u := fun j u hu => by
  rw [Addr.add_lit, Nat.zero_add]
  exact h.x j u hu

set_option maxRecDepth 100000 in
set_option maxHeartbeats 4000000 in
theorem rolloutPlans_core (s a : Int) (x : ObI) (l : List ObI) (ao : Option Addr) (n cap : Nat) (w : World) (hx : ObAt w x) (hS : SlR (Flat ObI.cells) 47 w ao n cap l) (hA : ∀ y ∈ l, ObAt w y) :
    Calls Try.prog 5 #[.agg #[.int .i64 s, .int .i64 a], .agg x.cells.toArray, .slice ao n cap] w fun e w' => e = .returned (.bool true) ∧ Below w.heap.size w w' := by
  have h0 := x.h0
  have h1 := x.h1
  have h3 := x.h3
  have hcm := hS.hmax
  have hlc := hS.hcap
  unfold maxLen at hcm
  have HX := Lib.hid hx
  have HS := Lib.hid hS
  have HA := Lib.hid hA
  have HNo : Hid (rightB s a = false → ∀ W : World, _) := fun h W => plan_no s a x (.slice ao n cap) W h
  have HKi : Hid (rightB s a = true → x.kd ≠ 0 → ∀ W : World, _) := fun h k W => plan_kind s a x (.slice ao n cap) W h k
  obtain ⟨xc, hxe⟩ : ∃ c, x.cells = c := ⟨_, rfl⟩
  have hxl : xc.length = 47 := by rw [← hxe]; rfl
  have Hxe := Lib.hid hxe
  rw [hxe] at h0 h1 h3 HNo HKi ⊢
  clear hxe hx hS hA
  have hone : ∀ w : World, (Instr.buildSlice 54 1 [(0, .agg xc.toArray)].toArray).run Try.prog w = .ok (.slice (some ⟨w.heap.size, 0, none⟩) 1 1) (w.alloc (.cells xc.toArray 44)) := oneList xc hxl
  have Hone := Lib.hid hone
  have hP := RpAt.new w s a xc
  obtain ⟨w2, hw2⟩ : ∃ q, ((w.alloc (.cells #[.int .i64 s, .int .i64 a] 67)).alloc (.cells xc.toArray 44)) = q := ⟨_, rfl⟩
  rw [hw2] at hP
  have hz2 : w2.heap.size = w.heap.size + 2 := by rw [← hw2]; simp
  have HB2 := Lib.hid hP.below
  obtain ⟨N, hN⟩ : ∃ N, w.heap.size = N := ⟨_, rfl⟩
  rw [hN] at hP hz2
  have HP2 := Lib.hid hP
  have HNw : Hid (∀ W, Below N w W → Below w.heap.size w W) := fun W h => by rw [hN]; exact h
  clear hP hone
  rw [hN]
  go_enter Try.func5, Try.ntmps5
  go_wp2_with fail
  refine (livesP w2).mono ?_
  rintro e w3 ⟨rfl, hb3⟩
  have HP3 := Lib.hid (HP2.out.b (by omega) hb3)
  have hz3 : N + 2 ≤ w3.heap.size := by have := hb3.size; omega
  have HF := Lib.hid (few17_any (fun _ => True) l ao n cap w3 (HS.out.flatKeeps (Keeps.below (HNw.out _ HP3.out.below))) (fun y hy => (HA.out y hy).b (HNw.out _ HP3.out.below)) (fun x _ wx => fewYesP x wx))
  clear hb3 HP2 hw2 hz2 HB2
  go_wp2_with fail
  refine HF.out.mono ?_
  rintro e w4 ⟨⟨b, rfl, hbF⟩, hb4⟩
  have HP4 := Lib.hid (HP3.out.b (by omega) hb4)
  have hz4 : N + 2 ≤ w4.heap.size := Nat.le_trans hz3 hb4.size
  have HFe := Lib.hid hbF
  clear hbF hb4 HF HP3 hz3
  cases b
  · go_wp2_with fail
    refine (livesP w4).mono ?_
    rintro e wE ⟨rfl, hbE⟩
    have HE := Lib.hid (HNw.out _ (HP4.out.below.trans (hbE.mono (by omega))))
    clear hbE
    go_wp2_with fail
    go_ret
    exact ⟨rfl, by rw [← hN]; exact HE.out⟩
  · have HFo : Hid (FewOk (fun _ => True) l) := HFe.out rfl
    obtain ⟨w5, hw5⟩ : ∃ q, w4.alloc (.cells xc.toArray 44) = q := ⟨_, rfl⟩
    have hb5 : Below w4.heap.size w4 w5 := by rw [← hw5]; exact (Below.refl _ _).alloc (Nat.le_refl _) _
    have hS5 : SlR (Flat ObI.cells) 47 w5 (some ⟨w4.heap.size, 0, none⟩) 1 1 [x] := by
      rw [← hw5]
      exact SlR.of_new (f := ObI.cells) (sz := 47) w4 [x] 44 _ 1 rfl (by unfold maxLen; omega) (fun _ => rfl) (by rw [← Hxe.out]; simp)
    have HP5 := Lib.hid (HP4.out.b (by omega) hb5)
    have hz5 : N + 2 ≤ w5.heap.size := Nat.le_trans hz4 hb5.size
    have HF2 := Lib.hid (few17_any (fun _ => True) [x] _ 1 1 w5 hS5 (fun y hy => by rw [List.mem_singleton.1 hy]; exact HX.out.b (HNw.out _ HP5.out.below)) (fun x _ wx => fewYesP x wx))
    have cx4 := HP4.out.obj
    clear hb5 hS5
    go_wp2_with (first
      | ((with_reducible refine at_slot 26 ?_); go_must (refine wpList_load_gd aggObI rfl _ rfl ⟨N + 1, 0, none⟩ rfl xc hxl cx4 ?_))
      | ((with_reducible refine at_slot 27 ?_); go_must (refine wpList_buildSlice_gP rfl 54 1 [(0, _)] rfl [(0, .agg xc.toArray)] rfl _ _ Hone.out ?_)))
    refine HF2.out.mono ?_
    rintro e w6 ⟨⟨b, rfl, hbF⟩, hb6⟩
    have HP6 := Lib.hid (HP5.out.b (by omega) hb6)
    have hz6 : N + 2 ≤ w6.heap.size := Nat.le_trans hz5 hb6.size
    have HFx := Lib.hid hbF
    clear hbF hb6 HF2 HP4 HP5 hz4 hz5 cx4 hw5 HFe
    cases b
    · go_wp2_with fail
      refine (livesP w6).mono ?_
      rintro e wE ⟨rfl, hbE⟩
      have HE := Lib.hid (HNw.out _ (HP6.out.below.trans (hbE.mono (by omega))))
      clear hbE
      go_wp2_with fail
      go_ret
      exact ⟨rfl, by rw [← hN]; exact HE.out⟩
    · have HFw : Hid (FewOk (fun _ => True) [x]) := HFx.out rfl
      have cx6 := HP6.out.obj
      have cr6 := HP6.out.rules
      cases hrB : rightB s a
      · have HPl := HNo.out hrB w6
        have HPL := Lib.hid HPl
        clear HPl HFx HKi HNo
        obtain ⟨bz, hbz⟩ : ∃ z : Nat, z = z := ⟨0, rfl⟩
        clear hbz bz
        go_wp2_with (first
          | ((with_reducible refine at_slot 33 ?_); go_must (refine wpList_load_at aggRules rfl _ rfl ⟨N, 0, none⟩ rfl _ rfl cr6 ?_))
          | ((with_reducible refine at_slot 34 ?_); go_must (refine wpList_load_at aggObI rfl _ rfl ⟨N + 1, 0, none⟩ rfl xc hxl cx6 ?_)))
        refine HPL.out.mono ?_
        rintro e w7 ⟨rfl, hb7⟩
        have HP7 := Lib.hid (HP6.out.b (by omega) hb7)
        have hz7 : N + 2 ≤ w7.heap.size := Nat.le_trans hz6 hb7.size
        obtain ⟨w8, hw8⟩ : ∃ q, w7.alloc (.cells #[.int .i64 0, .slice none 0 0, .bool false] 70) = q := ⟨_, rfl⟩
        have hb8 : Below w7.heap.size w7 w8 := by rw [← hw8]; exact (Below.refl _ _).alloc (Nat.le_refl _) _
        obtain ⟨b7, hb7e⟩ : ∃ q, w7.heap.size = q := ⟨_, rfl⟩
        have hr8 : w8.heap[b7]? = some (.cells #[.int .i64 0, .slice none 0 0, .bool false] 70 (0, 0)) := by rw [← hw8, ← hb7e]; exact heap_alloc_new _ _
        have HP8 := Lib.hid (HP7.out.b (by omega) hb8)
        have hz8 : N + 2 ≤ w8.heap.size := Nat.le_trans hz7 hb8.size
        have HR8 := Lib.hid hr8
        have cr8 := HP8.out.rules
        have HRt := Lib.hid (right35_any s a w8)
        rw [hrB] at HRt
        clear hb7 hb8 hr8 HPL cx6 cr6 HP6 HP7
        go_wp2_with (first
          | ((with_reducible refine at_slot 7 ?_); go_must (refine wpList_var aggStep rfl rfl rfl _ _ rfl rfl #[.int .i64 0, .slice none 0 0, .bool false] rfl rfl rfl (by decide) ?_; rw [hw8, hb7e]))
          | ((with_reducible refine at_slot 39 ?_); go_must (refine wpList_load_at aggRules rfl _ rfl ⟨N, 0, none⟩ rfl _ rfl cr8 ?_)))
        refine HRt.out.mono ?_
        rintro e w9 ⟨rfl, hb9⟩
        have HP9 := Lib.hid (HP8.out.b (by omega) hb9)
        have hz9 : N + 2 ≤ w9.heap.size := Nat.le_trans hz8 hb9.size
        have HR9 := Lib.hid ((hb9.block b7 (Array.getElem?_eq_some_iff.1 HR8.out).1).trans HR8.out)
        have cr9 := HP9.out.rules
        have HCk := Lib.hid (check35_any s a w9)
        rw [show errR s a = 1 by unfold errR; rw [hrB]; rfl] at HCk
        clear hb9 HRt HR8 HP8 cr8 hw8
        go_wp2_with ((with_reducible refine at_slot 45 ?_); go_must (refine wpList_load_gd aggRules rfl _ rfl ⟨N, 0, none⟩ rfl _ rfl cr9 ?_))
        refine HCk.out.mono ?_
        rintro e wa ⟨rfl, hba⟩
        have HPa := Lib.hid (HP9.out.b (by omega) hba)
        have hza : N + 2 ≤ wa.heap.size := Nat.le_trans hz9 hba.size
        have hra := (hba.block b7 (Array.getElem?_eq_some_iff.1 HR9.out).1).trans HR9.out
        have cSt := block_part hra (i := 0) (n := 3) [.int .i64 0, .slice none 0 0, .bool false] rfl
        have HSm := Lib.hid (same35_any 0 false [] none none 0 0 0 wa slNilP slNilP)
        clear hba HCk HR9 HP9 cr9 hra
        go_wp2_with ((with_reducible refine at_slot 50 ?_); go_must (refine wpList_load_gd aggStep rfl _ rfl ⟨b7, 0, none⟩ rfl _ rfl cSt ?_))
        refine HSm.out.mono ?_
        rintro e wE ⟨rfl, hbE⟩
        have HE := Lib.hid (HNw.out _ (HPa.out.below.trans (hbE.mono (by omega))))
        clear hbE
        go_wp2_with fail
        go_ret
        exact ⟨rfl, by rw [← hN]; exact HE.out⟩
      · by_cases hk : x.kd = 0
        · have hsa := (rightB_iff s a).1 hrB
          have hrep := wl_rep (HFw.out.each x (by simp)).2 hk
          have hln := HFo.out.len
          have hsl := HS.out.hlen
          have hL60 : (liveI x l).length ≤ 60 := by have := List.length_filter_le (fun y : ObI => isLive x.nm y.ov) l; unfold liveI; omega
          obtain ⟨rep, hre⟩ : ∃ r, x.o.w.rep = r := ⟨_, rfl⟩
          obtain ⟨xn, hxn⟩ : ∃ r, x.nm = r := ⟨_, rfl⟩
          have hPl := plan_any s a x l ao n cap w6 hrB (HX.out.b (HNw.out _ HP6.out.below)) (HS.out.flatKeeps (Keeps.below (HNw.out _ HP6.out.below))) (fun y hy => (HA.out y hy).b (HNw.out _ HP6.out.below)) hk (by omega) hrep
          have hP35 : ∀ W, Below w.heap.size w W → _ := fun W hW => plan35_any s a x l ao n cap W (HX.out.b hW) (HS.out.flatKeeps (Keeps.below hW)) (fun y hy => (HA.out y hy).b hW) (by omega) ⟨hsa.1, hsa.2.1, hsa.2.2.1, hsa.2.2.2.1⟩ hrep
          have hLv : LiveOk (liveI x l) := live_ok HFo.out
          rw [hre] at h3 hrep hPl hP35
          rw [hxn] at h1
          rw [Hxe.out] at hPl hP35
          have Hrx := Lib.hid hre
          have Hxn := Lib.hid hxn
          have HPl := Lib.hid hPl
          have HP35 := Lib.hid hP35
          have HLv := Lib.hid hLv
          have hsa2 : 0 ≤ s ∧ s ≤ 1000 ∧ 0 ≤ a ∧ a ≤ 1000 := ⟨hsa.1, hsa.2.1, hsa.2.2.1, hsa.2.2.2.1⟩
          have HL60 := Lib.hid hL60
          have hn60 : n ≤ 60 := by omega
          rw [hk] at h0
          have Hhk := Lib.hid hk
          clear hPl hP35 hLv hre hxn HFx HKi HNo HFw hsa hk hL60 hln hsl
          go_wp2_with (first
            | ((with_reducible refine at_slot 33 ?_); go_must (refine wpList_load_at aggRules rfl _ rfl ⟨N, 0, none⟩ rfl _ rfl cr6 ?_))
            | ((with_reducible refine at_slot 34 ?_); go_must (refine wpList_load_at aggObI rfl _ rfl ⟨N + 1, 0, none⟩ rfl xc hxl cx6 ?_)))
          refine HPl.out.mono ?_
          rintro e w7 ⟨ys, S, bo, bc, hso, hSe, rfl, hSl, hb7⟩
          have hst := hSe.trans (step_one HLv.out hso x rep s a)
          have hsay := says35 HLv.out x rep s a
          have hnms := step_names (pvI x) rep s a (insL (liveI x l) []) ((liveI x l).filter fun y => !freshB x y).length ((liveI x l).filter fun y => freshB x y).length (rdy (pvI x) (liveI x l)) (rdy (pvI x) ((liveI x l).filter fun y => freshB x y))
          have hcr := step_create (pvI x) rep s a (insL (liveI x l) []) ((liveI x l).filter fun y => !freshB x y).length ((liveI x l).filter fun y => freshB x y).length (rdy (pvI x) (liveI x l)) (rdy (pvI x) ((liveI x l).filter fun y => freshB x y)) (by omega) hrep.1
          dsimp only at hsay
          rw [← hst] at hsay hnms hcr
          have Hst := Lib.hid hst
          obtain ⟨c, ns, d⟩ := S
          dsimp only at hSl hsay hnms hcr
          have HnS : Hid (∀ b ∈ ns, b.size ≤ maxLen) := fun b hb => by
            obtain ⟨y, hy, e⟩ := hnms b hb
            rw [e]
            exact (HA.out y (List.mem_filter.1 (ins_mem HLv.out hy)).1).sm.nm
          have HSay := Lib.hid hsay
          obtain ⟨m, hm⟩ : ∃ m, ns.length = m := ⟨_, rfl⟩
          have Hm := Lib.hid hm
          dsimp only
          rw [hm] at hSl ⊢
          have hmx := hSl.hmax
          have hmc := hSl.hcap
          unfold maxLen at hmx
          have HP7 := Lib.hid (HP6.out.b (by omega) hb7)
          have hz7 : N + 2 ≤ w7.heap.size := Nat.le_trans hz6 hb7.size
          obtain ⟨w8, hw8⟩ : ∃ q, w7.alloc (.cells #[.int .i64 c, .slice bo m bc, .bool d] 70) = q := ⟨_, rfl⟩
          have hb8 : Below w7.heap.size w7 w8 := by rw [← hw8]; exact (Below.refl _ _).alloc (Nat.le_refl _) _
          obtain ⟨b7, hb7e⟩ : ∃ q, w7.heap.size = q := ⟨_, rfl⟩
          have hr8 : w8.heap[b7]? = some (.cells #[.int .i64 c, .slice bo m bc, .bool d] 70 (0, 0)) := by rw [← hw8, ← hb7e]; exact heap_alloc_new _ _
          have HP8 := Lib.hid (HP7.out.b (by omega) hb8)
          have hz8 : N + 2 ≤ w8.heap.size := Nat.le_trans hz7 hb8.size
          have HR8 := Lib.hid hr8
          have HSl8 := Lib.hid (hSl.flatKeeps (Keeps.below hb8))
          have cr8 := HP8.out.rules
          have HRt := Lib.hid (right35_any s a w8)
          rw [hrB] at HRt
          clear hb7 hb8 hr8 HPl cx6 cr6 HP6 HP7 hSe hso hSl hst hsay hnms hm
          go_wp2_with (first
            | ((with_reducible refine at_slot 7 ?_); go_must (refine wpList_var aggStep rfl rfl rfl _ _ rfl rfl #[.int .i64 c, .slice bo m bc, .bool d] rfl rfl rfl (by simp [Value.oneCell']) ?_; rw [hw8, hb7e]))
            | ((with_reducible refine at_slot 39 ?_); go_must (refine wpList_load_at aggRules rfl _ rfl ⟨N, 0, none⟩ rfl _ rfl cr8 ?_)))
          refine HRt.out.mono ?_
          rintro e w9 ⟨rfl, hb9⟩
          have HP9 := Lib.hid (HP8.out.b (by omega) hb9)
          have hz9 : N + 2 ≤ w9.heap.size := Nat.le_trans hz8 hb9.size
          have hr9 := (hb9.block b7 (Array.getElem?_eq_some_iff.1 HR8.out).1).trans HR8.out
          have HR9 := Lib.hid hr9
          have HSl9 := Lib.hid (HSl8.out.flatKeeps (Keeps.below hb9))
          have cr9 := BW.cells HP9.out.rules
          have cx9 := BW.cells HP9.out.obj
          have cs9 := BW.cells (block_part hr9 (i := 0) (n := 3) [.int .i64 c, .slice bo m bc, .bool d] rfl)
          have k0 := HP9.out.x 0 _ h0
          have he0 : errR s a = 0 := by unfold errR; rw [hrB]; rfl
          have hck := fun W => check35_any s a W
          rw [he0] at hck
          have HCk := Lib.hid hck
          clear hb9 HRt HR8 HP8 cr8 hw8 hr9 HSl8 he0 hck
          go_upto_region 8 with fail
          refine region_later mixedN ?_
          obtain ⟨wD, hwD⟩ : ∃ q : World, { w9 with drawn := w9.drawn + 1 } = q := ⟨_, rfl⟩
          have hbD : Below w9.heap.size w9 wD := by rw [← hwD]; exact ⟨rfl, rfl, rfl, Nat.le_refl _, fun _ _ => rfl⟩
          rw [hwD]
          refine later_phase (fun w' => ∃ p : BW w9, w' = p.w') [4] 4 0 5 30 (by kernel_rfl) (by kernel_rfl) ⟨⟨wD, hbD⟩, rfl⟩ ?_
          have HbD := Lib.hid hbD
          clear hwD hbD
          repeat (first | (refine wpVal_skipR rfl ?_) | (refine wpVal_takeR rfl ?_; first | (refine wpVal_loadG aggRules rfl _ rfl ⟨N, 0, none⟩ rfl _ rfl (by rintro _ ⟨bw, rfl⟩; exact cr9 bw) (fun K hK => ?_); go_simp; refine hK _ ?_; clear hK K) | (refine wpVal_oneG rfl (fun K hK => ?_); refine ⟨_, fun w => by go_simp; rfl, ?_⟩; go_simp; refine hK _ ?_; clear hK K)))
          refine wpVal_endR ?_
          refine wpLoud_callG rfl rfl 22 [.tmp 67] _ rfl Try.func22 (by kernel_rfl) rfl [.agg #[.int .i64 s, .int .i64 a]] (by as_aux_lemma => kernel_rfl) ((HCk.out wD).mono ?_)
          rintro e wa ⟨rfl, hba⟩
          refine ⟨_, rfl, fun h => absurd h (by decide), ?_⟩
          have HbA := Lib.hid (HbD.out.trans (hba.mono HbD.out.size))
          clear hba HbD
          refine wpLoud_nil ?_
          have HPa := Lib.hid (HP9.out.b (by omega) HbA.out)
          have hza : N + 2 ≤ wa.heap.size := Nat.le_trans hz9 HbA.out.size
          have HQ35 := Lib.hid (HP35.out wa (HNw.out _ HPa.out.below))
          refine later_phase (fun w' => ∃ p : BW w9, w' = p.w') [12, 13] 13 5 14 30 (by kernel_rfl) (by kernel_rfl) ⟨⟨wa, HbA.out⟩, rfl⟩ ?_
          repeat (first | (refine wpVal_skipR rfl ?_) | (refine wpVal_takeR rfl ?_; first | (refine wpVal_loadG aggRules rfl _ rfl ⟨N, 0, none⟩ rfl _ rfl (by rintro _ ⟨bw, rfl⟩; exact cr9 bw) (fun K hK => ?_); go_simp; refine hK _ ?_; clear hK K) | (refine wpVal_loadG aggStep rfl _ rfl ⟨b7, 0, none⟩ rfl _ rfl (by rintro _ ⟨bw, rfl⟩; exact cs9 bw) (fun K hK => ?_); go_simp; refine hK _ ?_; clear hK K) | (refine wpVal_loadG aggObI rfl _ rfl ⟨N + 1, 0, none⟩ rfl xc hxl (by rintro _ ⟨bw, rfl⟩; exact cx9 bw) (fun K hK => ?_); go_simp; refine hK _ ?_; clear hK K) | (refine wpVal_oneG rfl (fun K hK => ?_); refine ⟨_, fun w => by go_simp; rfl, ?_⟩; go_simp; refine hK _ ?_; clear hK K)))
          refine wpVal_endR ?_
          refine wpLoud_callG rfl rfl 24 [.tmp 73, .tmp 74, .tmp 75] _ rfl Try.func24 (by kernel_rfl) rfl [.agg #[.int .i64 s, .int .i64 a], .agg xc.toArray, .slice ao n cap] (by as_aux_lemma => kernel_rfl) (HQ35.out.mono ?_)
          rintro e wb ⟨S2, bo2, bc2, hS2, rfl, hSl2, hbb⟩
          have hbb9 := HbA.out.trans (hbb.mono HbA.out.size)
          refine ⟨_, rfl, fun _ => ⟨⟨wb, hbb9⟩, rfl⟩, ?_⟩
          obtain rfl : S2 = ⟨c, ns, d⟩ := hS2.trans Hst.out.symm
          dsimp only at hSl2 ⊢
          rw [Hm.out] at hSl2 ⊢
          have HPb := Lib.hid (HPa.out.b (by omega) hbb)
          have hzb : N + 2 ≤ wb.heap.size := Nat.le_trans hza hbb.size
          have hrb := (hbb9.block b7 (Array.getElem?_eq_some_iff.1 HR9.out).1).trans HR9.out
          have HRb := Lib.hid hrb
          have HSlb := Lib.hid (HSl9.out.flatKeeps (Keeps.below hbb9))
          have HSm := Lib.hid (same35_any c d ns bo bo2 m bc bc2 wb HSlb.out hSl2)
          refine wpLoud_callG rfl rfl 23 [.tmp 72, .tmp 76] _ rfl Try.func23 (by kernel_rfl) rfl [.agg #[.int .i64 c, .slice bo m bc, .bool d], .agg #[.int .i64 c, .slice bo2 m bc2, .bool d]] (by as_aux_lemma => kernel_rfl) (HSm.out.mono ?_)
          rintro e wc ⟨rfl, hbc⟩
          refine ⟨_, rfl, fun h => absurd h (by decide), ?_⟩
          have HPc := Lib.hid (HPb.out.b (by omega) hbc)
          have hzc : N + 2 ≤ wc.heap.size := Nat.le_trans hzb hbc.size
          have HRc := Lib.hid ((hbc.block b7 (Array.getElem?_eq_some_iff.1 HRb.out).1).trans HRb.out)
          have HSlc := Lib.hid (HSlb.out.flatKeeps (Keeps.below hbc))
          clear hbb hbb9 hbc hS2 hSl2 hrb HSm HRb HPb HSlb HQ35 HPa HbA hza hzb cr9 cx9 cs9 HP35 HCk HP9 HR9 HSl9 k0 hz9
          refine wpLoud_nil ?_
          refine later_phase (fun _ => True) [] 0 14 16 30 (by kernel_rfl) (by kernel_rfl) trivial ?_
          repeat (first | (refine wpVal_skipR rfl ?_) | (refine wpVal_takeR rfl ?_; refine wpVal_oneG rfl (fun K hK => ?_); refine ⟨_, fun w => by go_simp; rfl, ?_⟩; go_simp; refine hK _ ?_; clear hK K))
          refine wpVal_endR ?_
          refine wpLoud_nil ?_
          refine later_end 16 rfl ?_
          go_simp
          have hmm := @run_makeMap Try.prog
          obtain ⟨wM, hwM⟩ : ∃ q, wc.alloc (.map #[] 0) = q := ⟨_, rfl⟩
          obtain ⟨M, hM⟩ : ∃ q, wc.heap.size = q := ⟨_, rfl⟩
          have hbM : Below wc.heap.size wc wM := by rw [← hwM]; exact (Below.refl _ _).alloc (Nat.le_refl _) _
          have hMp : StrMap Value.bool wM Try.prog 9 M 0 (goneF []) := by rw [goneF_nil, ← hwM, ← hM]; exact StrMap.made _ _ _ _
          have hRm := (hbM.block b7 (Array.getElem?_eq_some_iff.1 HRc.out).1).trans HRc.out
          have v1 : wM.cell? ⟨b7, 1, none⟩ = some (.slice bo m bc) := cell_of_row _ _ 1 _ _ _ hRm
          have HMp := Lib.hid hMp
          have HbM := Lib.hid hbM
          have hmx2 : m < 9223372036854775807 ∨ m = 9223372036854775807 := by omega
          have HM := Lib.hid hM
          clear hMp hRm hbM
          go_wp2_with fail
          go_loopw [11, 84] (fun _ i wr => ∃ k k' : Nat, i = .int .i64 k ∧ k ≤ m ∧ k' ≤ k ∧ Hid (StrMap Value.bool wr Try.prog 9 M k' (goneF (ns.take k))) ∧ Hid (Below wc.heap.size wc wr)) (fun _ i _ => m - (intOf i).toNat)
          case atStart => exact ⟨0, 0, rfl, Nat.zero_le _, Nat.le_refl _, HMp.out, HbM.out⟩
          case round =>
            obtain ⟨k, k', rfl, hk, hk', hMq, hb⟩ := hrel
            obtain ⟨wq, rfl⟩ : ∃ wq : World, wq = wr := ⟨_, rfl⟩
            by_cases hlt : k < m
            · have hS2 := HSlc.out.flatKeeps (Keeps.below hb.out)
              obtain ⟨b0, off, rfl⟩ := hS2.ptr (by decide) (by omega)
              have kx : k < ns.length := by have := hS2.hlen; omega
              have hcl := hS2.flat kx
              have c0 := hcl 0 _ rfl
              rw [Nat.add_zero, Nat.mul_one] at c0
              have htk : ns.take (k + 1) = ns.take k ++ [ns[k]] := List.take_succ_eq_append_getElem kx
              have hsm := HnS.out _ (List.getElem_mem kx)
              obtain ⟨nm, hnm⟩ : ∃ z, ns[k] = z := ⟨_, rfl⟩
              rw [hnm] at c0 htk hsm
              have HKy := Lib.hid (strKeyD hsm)
              have Htk := Lib.hid htk
              clear hS2 hcl htk hsm hnm kx v1
              go_wp2_with (at_mapUpdate; go_must (refine wpList_map_store _ rfl _ _ _ 77 rfl 9 4 strKeyed Try.underlying77 M k' _ rfl hMq.out (by unfold maxLen; omega) _ (.bool true) _ rfl rfl HKy.out _ rfl ?_; intro w7 hM7 hT7; have HM7 := Lib.hid hM7; have HT7 := Lib.hid (Fr.turned (fun j => j = M) hT7 rfl); clear hM7 hT7))
              have HM8 : Hid (StrMap Value.bool w7 Try.prog 9 M (if (byStr Value.bool (goneF (ns.take k)) (.string nm.data.toList)).isSome then k' else k' + 1) (goneF (ns.take (k + 1)))) := by
                show MapIs _ _ _ _ _ _
                rw [Htk.out, ← goneF_snoc, ← fset_byStr]
                exact HM7.out
              have HB8 : Hid (Below wc.heap.size wc w7) := hb.out.trans (HT7.out.below hb.out.size (fun j hj => by have := HM.out; omega))
              go_roundw
              case rel => exact ⟨k + 1, _, by go_num, by omega, by split <;> omega, HM8.out, HB8.out⟩
              case measure => simp [intOf]; omega
            · obtain rfl : k = m := by omega
              have ht : ns.take k = ns := List.take_of_length_le (by have := Hm.out; omega)
              rw [ht] at hMq
              have HPq := Lib.hid (HPc.out.b (by omega) hb.out)
              have hzq : N + 2 ≤ wq.heap.size := Nat.le_trans hzc hb.out.size
              have HRq := Lib.hid ((hb.out.block b7 (Array.getElem?_eq_some_iff.1 HRc.out).1).trans HRc.out)
              have HBq := Lib.hid (HNw.out _ HPq.out.below)
              clear ht v1 HMp HbM HSlc HPc HRc hzc hwM hM hb
              go_wp2_with fail
              go_loopw [12, 13, 14, 93] (fun v12 v13 v14 i wr => ∃ (k : Nat) (q : TS), k ≤ n ∧ i = .int .i64 k ∧ v12 = .int .i64 q.all ∧ v13 = .int .i64 q.ready ∧ v14 = .int .i64 q.lost ∧ Hid (q.all ≤ k ∧ q.ready ≤ k ∧ q.lost ≤ k) ∧ Hid ((l.take k).foldl (TS.step x ns) ⟨0, 0, 0⟩ = q) ∧ Hid (Below wq.heap.size wq wr)) (fun _ _ _ i _ => n - (intOf i).toNat)
              case atStart => exact ⟨0, ⟨0, 0, 0⟩, Nat.zero_le _, rfl, rfl, rfl, rfl, ⟨Nat.le_refl _, Nat.le_refl _, Nat.le_refl _⟩, rfl, Below.refl _ _⟩
              case round =>
                obtain ⟨j, q, hj, rfl, rfl, rfl, rfl, hbd, hst, hb⟩ := hrel
                obtain ⟨wp, rfl⟩ : ∃ wp : World, wp = wr := ⟨_, rfl⟩
                by_cases hjn : j < n
                · have hbw := HBq.out.trans (hb.out.mono HBq.out.size)
                  have hS2 := HS.out.flatKeeps (Keeps.below hbw)
                  obtain ⟨b0, off, rfl⟩ := hS2.ptr (by decide) (by omega)
                  have kx : j < l.length := by have := hS2.hlen; omega
                  have hcl := hS2.flat kx
                  have hay := HA.out _ (List.getElem_mem kx)
                  have hnx : (l.take (j + 1)).foldl (TS.step x ns) ⟨0, 0, 0⟩ = TS.step x ns q l[j] := by rw [List.take_succ_eq_append_getElem kx, List.foldl_append, hst.out]; rfl
                  have hbn := TS.le x ns q l[j] j hbd.out
                  obtain ⟨y, hy⟩ : ∃ y, l[j] = y := ⟨_, rfl⟩
                  rw [hy] at hcl hay hnx hbn
                  have hsz := hb.out.size
                  obtain ⟨W3, hW3⟩ : ∃ W, wp.alloc (.cells y.cells.toArray 44) = W := ⟨_, rfl⟩
                  obtain ⟨bv, hbv⟩ : ∃ bo, wp.heap.size = bo := ⟨_, rfl⟩
                  have hbW : Below wp.heap.size wp W3 := by rw [← hW3]; exact (Below.refl _ _).alloc (Nat.le_refl _) _
                  have hnc : ∀ j u, y.cells[j]? = some u → W3.cell? ⟨bv, j, none⟩ = some u := by rw [← hW3, ← hbv]; exact ob_new wp y _
                  have HbW := Lib.hid (hb.out.trans (hbW.mono hsz))
                  have hbw3 := HBq.out.trans (HbW.out.mono HBq.out.size)
                  have hNew : ∀ p : BW W3, Calls Try.prog 25 #[.agg x.cells.toArray, .agg y.cells.toArray] p.w' fun e w' => e = .returned (.bool (freshB x y)) ∧ Below p.w'.heap.size p.w' w' := fun p => by
                    have hp := hbw3.trans (p.h.mono hbw3.size)
                    exact new_any x y p.w' (HX.out.b hp) (hay.b hp) Hhk.out
                  have hFre : ∀ p : BW W3, Calls Try.prog 26 #[.agg x.cells.toArray, .agg y.cells.toArray] p.w' fun e w' => e = .returned (.bool (freshB x y)) ∧ Below p.w'.heap.size p.w' w' := fun p => by
                    have hp := hbw3.trans (p.h.mono hbw3.size)
                    exact fresh_any x y p.w' (HX.out.b hp) (hay.b hp)
                  obtain ⟨fv, hfv⟩ : ∃ q, freshB x y = q := ⟨_, rfl⟩
                  rw [hfv] at hNew hFre
                  have hne : (fv != fv) = false := by cases fv <;> rfl
                  have k0 := hnc 0 _ y.h0
                  have k1 := hnc 1 _ y.h1
                  have k10 := hnc 10 _ y.h10
                  have k12 := hnc 12 _ y.h12
                  have hx1 := Below.cell_some HbW.out (HPq.out.x 1 _ h1)
                  obtain ⟨kb, hkb⟩ : ∃ q, (y.kd == 1) = q := ⟨_, rfl⟩
                  obtain ⟨ob, hob⟩ : ∃ q, (y.o.p.owner.toList == xn.toList) = q := ⟨_, rfl⟩
                  obtain ⟨fb, hfb⟩ : ∃ q, (y.o.p.phase == 3) = q := ⟨_, rfl⟩
                  obtain ⟨rb, hrb⟩ : ∃ q, (y.o.p.phase == 2) = q := ⟨_, rfl⟩
                  obtain ⟨gb, hgb⟩ : ∃ q, gB ns y.nm = q := ⟨_, rfl⟩
                  have hlv : isLive x.nm y.ov = ((kb && ob) && !fb) := by
                    rw [Hxn.out, ← hkb, ← hob, ← hfb]
                    rfl
                  have HKy := Lib.hid (strKeyD hay.sm.nm)
                  have HV := Lib.hid ((goneF_get ns y.nm).trans (by rw [hgb]))
                  have HMq := Lib.hid (MapIs.below hMq.out HbW.out)
                  have Hbn := Lib.hid hbn
                  have Hnx := Lib.hid hnx
                  have Hlv := Lib.hid hlv
                  have Hrb := Lib.hid hrb
                  have Hkb := Lib.hid hkb
                  have Hob := Lib.hid hob
                  have Hfb := Lib.hid hfb
                  have Hgb := Lib.hid hgb
                  obtain ⟨yc, hyc⟩ : ∃ c, y.cells = c := ⟨_, rfl⟩
                  have hycl : yc.length = 47 := by rw [← hyc]; rfl
                  have hyo : yc.all (fun u => u.oneCell') = true := by rw [← hyc]; exact y.one
                  rw [hyc] at hcl hW3 hnc hNew hFre
                  rw [Hxe.out] at hNew hFre
                  have HNew := Lib.hid hNew
                  have HFre := Lib.hid hFre
                  have Hcl := Lib.hid hcl
                  have cy3 : ∀ t u, yc[t]? = some u → W3.cell? (Addr.add ⟨bv, 0, none⟩ t) = some u := fun t u hu => by rw [Addr.add_lit, Nat.zero_add]; exact hnc t u hu
                  have cx3 : ∀ t u, xc[t]? = some u → W3.cell? (Addr.add ⟨N + 1, 0, none⟩ t) = some u := fun t u hu => Below.cell_some HbW.out (HPq.out.obj t u hu)
                  replace cy3 := BW.cells cy3
                  replace cx3 := BW.cells cx3
                  have hsW := HbW.out.size
                  have hq1 : q.all ≤ 60 ∧ q.ready ≤ 60 ∧ q.lost ≤ 60 := by have := hbd.out; omega
                  clear hcl hS2 hay hnx hbn hy hbW hnc hyc hNew hFre hbw3 hbw hkb hob hfb hrb hgb hlv hfv
                  go_upto_region 20 with (first
                    | ((with_reducible refine at_slot 96 ?_); go_must (refine wpList_load_at aggObI rfl _ rfl ⟨b0, off + j * 47, none⟩ rfl yc hycl (fun t u hu => by rw [Addr.add_lit]; exact Hcl.out t u hu) ?_))
                    | ((with_reducible refine at_slot 16 ?_); go_must (refine wpList_var aggObI rfl rfl rfl _ _ rfl rfl yc.toArray rfl rfl (by simp [hycl]) (by simpa using hyo) ?_; rw [hW3, hbv])))
                  refine wp_region_head_lit 6 (fun w' => ∃ p : BW W3, w' = p.w') (by kernel_rfl) (by kernel_rfl) ⟨⟨{ W3 with drawn := W3.drawn + 1 }, ⟨rfl, rfl, rfl, Nat.le_refl _, fun _ _ => rfl⟩⟩, rfl⟩ ?_
                  simp only [List.take_succ_cons, List.take_zero, List.drop_succ_cons, List.drop_zero]
                  repeat (first | (refine wpQuiet_load aggObI rfl _ rfl ⟨N + 1, 0, none⟩ rfl xc hxl (by rintro _ ⟨bw, rfl⟩; exact cx3 bw) ?_) | (refine wpQuiet_load aggObI rfl _ rfl ⟨bv, 0, none⟩ rfl yc hycl (by rintro _ ⟨bw, rfl⟩; exact cy3 bw) ?_) | quiet_step (first | (go_at_call 25; exact BW.call _ (HNew.out _)) | (go_at_call 26; exact BW.call _ (HFre.out _)) | exact rfl))
                  refine wpQuiet_nil ?_
                  intro w6 hw'
                  obtain ⟨⟨_, hb6⟩, e3⟩ := hw'
                  dsimp only at e3
                  subst e3
                  have HB6 := Lib.hid (HbW.out.trans (hb6.mono hsW))
                  have HM6 := Lib.hid (MapIs.below HMq.out hb6)
                  replace k0 := Below.cell_some hb6 k0
                  replace k1 := Below.cell_some hb6 k1
                  replace k10 := Below.cell_some hb6 k10
                  replace k12 := Below.cell_some hb6 k12
                  replace hx1 := Below.cell_some hb6 hx1
                  clear hb6 cy3 cx3 HNew HFre HMq Hcl hW3 HbW
                  cases hm : ((kb && ob) && !fb)
                  · have HN2 : Hid ((l.take (j + 1)).foldl (TS.step x ns) ⟨0, 0, 0⟩ = q) := by
                      show _ = _
                      rw [Hnx.out]
                      unfold TS.step
                      rw [Hlv.out, hm]
                      rfl
                    cases kb
                    · have hkn : (y.kd != 1) = true := by rw [bne, Hkb.out]; rfl
                      clear k12 k10 hx1
                      go_wp2_with fail
                      go_roundw
                      case rel => exact ⟨j + 1, q, by omega, by go_num, rfl, rfl, rfl, by have := hbd.out; exact ⟨by omega, by omega, by omega⟩, HN2, HB6⟩
                      case measure => simp [intOf]; omega
                    · rw [eq_of_beq Hkb.out] at k0
                      cases ob
                      · have hw := Hob.out
                        clear k12
                        go_wp2_with fail
                        go_roundw
                        case rel => exact ⟨j + 1, q, by omega, by go_num, rfl, rfl, rfl, by have := hbd.out; exact ⟨by omega, by omega, by omega⟩, HN2, HB6⟩
                        case measure => simp [intOf]; omega
                      · have hw := Hob.out
                        obtain rfl : fb = true := by simpa using hm
                        rw [eq_of_beq Hfb.out] at k12
                        go_wp2_with fail
                        go_roundw
                        case rel => exact ⟨j + 1, q, by omega, by go_num, rfl, rfl, rfl, by have := hbd.out; exact ⟨by omega, by omega, by omega⟩, HN2, HB6⟩
                        case measure => simp [intOf]; omega
                  · have hk1 : kb = true ∧ ob = true ∧ fb = false := by
                      cases kb
                      · cases hm
                      · cases ob
                        · cases hm
                        · cases fb
                          · exact ⟨rfl, rfl, rfl⟩
                          · cases hm
                    obtain ⟨rfl, rfl, rfl⟩ := hk1
                    have hstep : TS.step x ns q y = q.put ns y := by unfold TS.step; rw [Hlv.out]; rfl
                    have HN2 : Hid ((l.take (j + 1)).foldl (TS.step x ns) ⟨0, 0, 0⟩ = q.put ns y) := by show _ = _; rw [Hnx.out, hstep]
                    have hbn2 := Hbn.out
                    rw [hstep] at hbn2
                    have Hbn2 := Lib.hid hbn2
                    rw [eq_of_beq Hkb.out] at k0
                    have hw := Hob.out
                    have h3f := Hfb.out
                    have E1 : Hid ((q.put ns y).all = q.all + 1) := rfl
                    have e2 : (q.put ns y).ready = q.ready + (if rb = true then 1 else 0) := by unfold TS.put; rw [Hrb.out]
                    have e3 : (q.put ns y).lost = q.lost + (if (rb && gb) = true then 1 else 0) := by unfold TS.put; rw [Hrb.out, Hgb.out]
                    have E2 := Lib.hid e2
                    have E3 := Lib.hid e3
                    clear hm hstep hbn2 e2 e3
                    cases rb
                    · have hr2 := Hrb.out
                      have F2 : Hid ((q.put ns y).ready = q.ready) := E2.out
                      have F3 : Hid ((q.put ns y).lost = q.lost) := E3.out
                      go_wp2_with fail
                      go_roundw
                      case rel => exact ⟨j + 1, q.put ns y, by omega, by go_num, by rw [E1.out]; go_num, by rw [F2.out], by rw [F3.out], Hbn2, HN2, HB6⟩
                      case measure => simp [intOf]; omega
                    · have hr2 := Hrb.out
                      have F2 : Hid ((q.put ns y).ready = q.ready + 1) := E2.out
                      cases gb
                      · have F3 : Hid ((q.put ns y).lost = q.lost) := E3.out
                        go_wp2_with (at_lookup; go_must (refine wpList_look _ rfl _ _ 77 rfl 9 4 strKeyed Try.underlying77 (zeroBoolP _) M k' _ rfl HM6.out _ _ rfl HKy.out (.bool false) HV.out ?_))
                        go_roundw
                        case rel => exact ⟨j + 1, q.put ns y, by omega, by go_num, by rw [E1.out]; go_num, by rw [F2.out]; go_num, by rw [F3.out], Hbn2, HN2, HB6⟩
                        case measure => simp [intOf]; omega
                      · have F3 : Hid ((q.put ns y).lost = q.lost + 1) := E3.out
                        go_wp2_with (at_lookup; go_must (refine wpList_look _ rfl _ _ 77 rfl 9 4 strKeyed Try.underlying77 (zeroBoolP _) M k' _ rfl HM6.out _ _ rfl HKy.out (.bool true) HV.out ?_))
                        go_roundw
                        case rel => exact ⟨j + 1, q.put ns y, by omega, by go_num, by rw [E1.out]; go_num, by rw [F2.out]; go_num, by rw [F3.out]; go_num, Hbn2, HN2, HB6⟩
                        case measure => simp [intOf]; omega
                · obtain rfl : j = n := by omega
                  have ht : l.take j = l := List.take_of_length_le (by have := HS.out.hlen; omega)
                  rw [ht] at hst
                  have hfo := hst.out.symm.trans (TS.fold x ns l ⟨0, 0, 0⟩)
                  have g1 : q.all = (liveI x l).length := (congrArg TS.all hfo).trans (Nat.zero_add _)
                  have g2 : q.ready = ((liveI x l).filter fun y => y.o.p.phase == 2).length := (congrArg TS.ready hfo).trans (Nat.zero_add _)
                  have g3 : q.lost = ((liveI x l).filter fun y => (y.o.p.phase == 2) && gB ns y.nm).length := (congrArg TS.lost hfo).trans (Nat.zero_add _)
                  have hsy := HSay.out
                  have g4 : rdy (pvI x) (liveI x l) = (q.ready : Int) := by rw [g2]; rfl
                  rw [lost_gB, ← g3, g4, ← g1] at hsy
                  have hq1 : q.all ≤ 60 ∧ q.ready ≤ 60 ∧ q.lost ≤ 60 := by have := hbd.out; omega
                  obtain ⟨qa, hqa⟩ : ∃ z, q.all = z := ⟨_, rfl⟩
                  obtain ⟨qr, hqr⟩ : ∃ z, q.ready = z := ⟨_, rfl⟩
                  obtain ⟨ql, hql⟩ : ∃ z, q.lost = z := ⟨_, rfl⟩
                  rw [hqa, hqr, hql] at hq1
                  rw [hqa, hqr, hql] at hsy
                  rw [hqa, hqr, hql]
                  have HPe := Lib.hid (HPq.out.b (by omega) hb.out)
                  have hRe := (hb.out.block b7 (Array.getElem?_eq_some_iff.1 HRq.out).1).trans HRq.out
                  have HE := Lib.hid (HBq.out.trans (hb.out.mono HBq.out.size))
                  have e0 : wp.cell? ⟨b7, 0, none⟩ = some (.int .i64 c) := cell_of_row _ _ 0 _ _ _ hRe
                  have r0 : wp.cell? ⟨N, 0, none⟩ = some (.int .i64 s) := cell_of_row _ _ 0 _ _ _ HPe.out.r
                  have r1 : wp.cell? ⟨N, 1, none⟩ = some (.int .i64 a) := cell_of_row _ _ 1 _ _ _ HPe.out.r
                  have x3 := HPe.out.x 3 _ h3
                  have Hsy := Lib.hid hsy
                  clear ht hst hfo g1 g2 g3 g4 hsy hqa hqr hql hbd hRe hb
                  by_cases hle : (qa : Int) ≤ rep + s
                  · have hd1 : decide ((qa : Int) ≤ rep + s) = true := decide_eq_true hle
                    have hd2 : decide ((qa : Int) + c > rep + s) = false := decide_eq_false (by have := Hsy.out.1 hle; omega)
                    by_cases hrr : (qr : Int) < rep - a
                    · have hd3 : decide ((qr : Int) < rep - a) = true := decide_eq_true hrr
                      go_wp2_with fail
                      go_ret
                      exact ⟨rfl, by rw [← hN]; exact HE.out⟩
                    · have hd3 : decide ((qr : Int) < rep - a) = false := decide_eq_false hrr
                      have hd4 : decide ((qr : Int) - ql ≥ rep - a) = true := decide_eq_true (by have := Hsy.out.2.resolve_left hrr; omega)
                      go_wp2_with fail
                      go_ret
                      exact ⟨rfl, by rw [← hN]; exact HE.out⟩
                  · have hd1 : decide ((qa : Int) ≤ rep + s) = false := decide_eq_false hle
                    by_cases hrr : (qr : Int) < rep - a
                    · have hd3 : decide ((qr : Int) < rep - a) = true := decide_eq_true hrr
                      go_wp2_with fail
                      go_ret
                      exact ⟨rfl, by rw [← hN]; exact HE.out⟩
                    · have hd3 : decide ((qr : Int) < rep - a) = false := decide_eq_false hrr
                      have hd4 : decide ((qr : Int) - ql ≥ rep - a) = true := decide_eq_true (by have := Hsy.out.2.resolve_left hrr; omega)
                      go_wp2_with fail
                      go_ret
                      exact ⟨rfl, by rw [← hN]; exact HE.out⟩
        · have HPl := HKi.out hrB hk w6
          have HPL := Lib.hid HPl
          clear HPl HFx HKi HNo
          have hkn : (x.kd != 0) = true := by simpa using hk
          clear hk
          go_wp2_with (first
            | ((with_reducible refine at_slot 33 ?_); go_must (refine wpList_load_at aggRules rfl _ rfl ⟨N, 0, none⟩ rfl _ rfl cr6 ?_))
            | ((with_reducible refine at_slot 34 ?_); go_must (refine wpList_load_at aggObI rfl _ rfl ⟨N + 1, 0, none⟩ rfl xc hxl cx6 ?_)))
          refine HPL.out.mono ?_
          rintro e w7 ⟨rfl, hb7⟩
          have HP7 := Lib.hid (HP6.out.b (by omega) hb7)
          have hz7 : N + 2 ≤ w7.heap.size := Nat.le_trans hz6 hb7.size
          obtain ⟨w8, hw8⟩ : ∃ q, w7.alloc (.cells #[.int .i64 0, .slice none 0 0, .bool false] 70) = q := ⟨_, rfl⟩
          have hb8 : Below w7.heap.size w7 w8 := by rw [← hw8]; exact (Below.refl _ _).alloc (Nat.le_refl _) _
          obtain ⟨b7, hb7e⟩ : ∃ q, w7.heap.size = q := ⟨_, rfl⟩
          have hr8 : w8.heap[b7]? = some (.cells #[.int .i64 0, .slice none 0 0, .bool false] 70 (0, 0)) := by rw [← hw8, ← hb7e]; exact heap_alloc_new _ _
          have HP8 := Lib.hid (HP7.out.b (by omega) hb8)
          have hz8 : N + 2 ≤ w8.heap.size := Nat.le_trans hz7 hb8.size
          have HR8 := Lib.hid hr8
          have cr8 := HP8.out.rules
          have HRt := Lib.hid (right35_any s a w8)
          rw [hrB] at HRt
          clear hb7 hb8 hr8 HPL cx6 cr6 HP6 HP7
          go_wp2_with (first
            | ((with_reducible refine at_slot 7 ?_); go_must (refine wpList_var aggStep rfl rfl rfl _ _ rfl rfl #[.int .i64 0, .slice none 0 0, .bool false] rfl rfl rfl (by decide) ?_; rw [hw8, hb7e]))
            | ((with_reducible refine at_slot 39 ?_); go_must (refine wpList_load_at aggRules rfl _ rfl ⟨N, 0, none⟩ rfl _ rfl cr8 ?_)))
          refine HRt.out.mono ?_
          rintro e w9 ⟨rfl, hb9⟩
          have HP9 := Lib.hid (HP8.out.b (by omega) hb9)
          have hz9 : N + 2 ≤ w9.heap.size := Nat.le_trans hz8 hb9.size
          have HR9 := Lib.hid ((hb9.block b7 (Array.getElem?_eq_some_iff.1 HR8.out).1).trans HR8.out)
          have hra := HR9.out
          have cSt := block_part hra (i := 0) (n := 3) [.int .i64 0, .slice none 0 0, .bool false] rfl
          have k0 := HP9.out.x 0 _ h0
          have HSm := Lib.hid (same35_any 0 false [] none none 0 0 0 w9 slNilP slNilP)
          clear hb9 HRt HR8 HP8 cr8 hw8 HR9 hra
          go_wp2_with ((with_reducible refine at_slot 60 ?_); go_must (refine wpList_load_gd aggStep rfl _ rfl ⟨b7, 0, none⟩ rfl _ rfl cSt ?_))
          refine HSm.out.mono ?_
          rintro e wE ⟨rfl, hbE⟩
          have HE := Lib.hid (HNw.out _ (HP9.out.below.trans (hbE.mono (by omega))))
          clear hbE
          go_wp2_with fail
          go_ret
          exact ⟨rfl, by rw [← hN]; exact HE.out⟩

theorem obI_ofP {w : World} {c : Array Value} (h : Rel shObj w c.toList) : ∃ x : ObI, c = x.cells.toArray ∧ ObAt w x := by
  obtain ⟨kd, nm, ver, o, e0, hS, hM⟩ := obj_of_rel h
  refine ⟨⟨kd, nm, ver, o⟩, ?_, hS, hM⟩
  apply Array.ext'
  exact e0
theorem rules_of {w : World} {c : Array Value} (h : Rel (.pair (.int .i64) (.pair (.int .i64) .unit)) w c.toList) : ∃ s a : Int, c = #[.int .i64 s, .int .i64 a] := by
  obtain ⟨c1, c2, e, _, ⟨s, rfl, _⟩, c3, c4, rfl, _, ⟨a, rfl, _⟩, h4⟩ := h
  obtain rfl : c4 = [] := h4
  exact ⟨s, a, Array.ext' (by rw [e]; rfl)⟩
theorem RolloutPlans_holds : Rows.RolloutPlansSaid := lRolloutPlans.over fun c0 c1 a2 l2 k2 w h0 h1 h2 => by
  obtain ⟨s, a, rfl⟩ := rules_of h0
  obtain ⟨x, rfl, hx⟩ := obI_ofP h1
  obtain ⟨ao, la, ca, l, e, hS, hA⟩ := rowOb_of h2
  simp [Value.cells] at e
  obtain ⟨rfl, rfl, rfl⟩ := e
  exact rolloutPlans_core s a x l _ _ _ w hx hS hA
end Go.Proofs.Ytpbppgfogepjeaa
