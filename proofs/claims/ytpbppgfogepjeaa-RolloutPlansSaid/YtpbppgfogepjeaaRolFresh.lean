/- The contracts of rollout.New and of the law's fresh: is a pod new? Condition: the objects read; New's first is a workload. -/
import Derived.Test.YtpbppgfogepjeaaRolEq
import Derived.Test.YtpbppgfogepjeaaTwoNewM
import Derived.Test.YtpbppgfogepjeaaObIM
import Derived.BigRegion
import Derived.Deep.QuietTactic
namespace Go.Proofs.Ytpbppgfogepjeaa
open Go.ChangeShapes Go.WideShapes Go.ChangeAt Go.RowKit Go.Deep

theorem mixedN : Try.prog.follows .mixedOrders = true := by kernel_rfl
theorem aggWl : AggOK Try.prog 29 7 := .mk' (by kernel_rfl) (by kernel_rfl)
structure Res2 where
  cpu : Int
  mem : Int
theorem fieldsRes : Try.prog.underlying 25 = some (.struct (Try.prog.fieldsOf 25)) := by kernel_rfl
theorem stoodRes : Try.prog.stoodInHeld 25 = false := by kernel_rfl
theorem run_equalRes (x y : Res2) (w : World) : (Op.equalIn 10000 25 (.agg #[.int .i64 x.cpu, .int .i64 x.mem]) (.agg #[.int .i64 y.cpu, .int .i64 y.mem])).run Try.prog w = .ok ((x.cpu == y.cpu) && (x.mem == y.mem)) w := by
  rw [run_equalIn_agg w 9999 _ _ _ fieldsRes stoodRes]
  have h0 : (Op.equalIn 9999 23 (.int .i64 x.cpu) (.int .i64 y.cpu)).run Try.prog w = .ok (x.cpu == y.cpu) w := run_equalIn_int w 9998 _ .i64 .i64 _ _ (by kernel_rfl)
  have h1 : (Op.equalIn 9999 23 (.int .i64 x.mem) (.int .i64 y.mem)).run Try.prog w = .ok (x.mem == y.mem) w := run_equalIn_int w 9998 _ .i64 .i64 _ _ (by kernel_rfl)
  have hm : (Try.prog.fieldsOf 25).toList.map (fun f => (f.name, f.type, f.offset)) = [("CPU", 23, 0), ("Mem", 23, 1)] := by kernel_rfl
  obtain ⟨s0, s1, hl, a0, b0, c0, a1, b1, c1⟩ := fields_of2 hm
  have p0 : (part 23 #[.int .i64 x.cpu, .int .i64 x.mem] 0).run Try.prog w = .ok (.int .i64 x.cpu) w := by kernel_rfl
  have r0 : (part 23 #[.int .i64 y.cpu, .int .i64 y.mem] 0).run Try.prog w = .ok (.int .i64 y.cpu) w := by kernel_rfl
  have d0 : "CPU" ≠ "_" := by decide
  have p1 : (part 23 #[.int .i64 x.cpu, .int .i64 x.mem] 1).run Try.prog w = .ok (.int .i64 x.mem) w := by kernel_rfl
  have r1 : (part 23 #[.int .i64 y.cpu, .int .i64 y.mem] 1).run Try.prog w = .ok (.int .i64 y.mem) w := by kernel_rfl
  have d1 : "Mem" ≠ "_" := by decide
  rw [hl]
  refine eqFields_st (by rw [a0]; exact d0) (by rw [b0, c0]; exact p0) (by rw [b0, c0]; exact r0) (by rw [b0]; exact h0) ?_
  have := eqFields_st (P := Try.prog) (d := 9999) (w := w) (fs := []) (s := true) (by rw [a1]; exact d1) (by rw [b1, c1]; exact p1) (by rw [b1, c1]; exact r1) (by rw [b1]; exact h1) rfl
  rw [Bool.and_true] at this
  exact this
theorem eqlRes (x y : Res2) (w : World) : (binOp .eql 25 (.agg #[.int .i64 x.cpu, .int .i64 x.mem]) (.agg #[.int .i64 y.cpu, .int .i64 y.mem])).run Try.prog w = .ok (.bool ((x.cpu == y.cpu) && (x.mem == y.mem))) w := by
  rw [run_eql_struct, run_equalRes]
  rfl
theorem neqRes (x y : Res2) (w : World) : (binOp .neq 25 (.agg #[.int .i64 x.cpu, .int .i64 x.mem]) (.agg #[.int .i64 y.cpu, .int .i64 y.mem])).run Try.prog w = .ok (.bool (!((x.cpu == y.cpu) && (x.mem == y.mem)))) w := by
  rw [run_neq_struct, run_equalRes]
  rfl
theorem guardRes : Try.prog.eqGuardType Try.prog.depth 25 = false := by kernel_rfl
def askB (x y : ObI) : Bool := (x.o.w.cpu == y.o.p.cpu) && (x.o.w.mem == y.o.p.mem)
def freshB (x y : ObI) : Bool := (y.kd == 1) && ((y.o.p.owner.toList == x.nm.toList) && (askB x y && ((x.o.w.warm == y.o.p.warm) && (rowEq labEq x.o.w.L.xs y.o.p.L.xs && (rowEq askEq x.o.w.S.xs y.o.p.S.xs && rowEq labEq x.o.w.T.xs y.o.p.T.xs)))))
structure NPf (w0 w : World) (N : Nat) (n p : ObI) : Prop where
  nAt : ∀ j u, n.cells[j]? = some u → w.cell? ⟨N, j, none⟩ = some u
  pAt : ∀ j u, p.cells[j]? = some u → w.cell? ⟨N + 1, j, none⟩ = some u
  below : Below N w0 w
theorem NPf.b {w0 w w' : World} {N : Nat} {n p : ObI} (h : NPf w0 w N n p) (hN : N ≤ w.heap.size) (hb : Below w.heap.size w w') : NPf w0 w' N n p :=
  ⟨fun j u hu => Below.cell_some hb (h.nAt j u hu), fun j u hu => Below.cell_some hb (h.pAt j u hu), h.below.trans (hb.mono hN)⟩
theorem NPf.new (w : World) (n p : ObI) : NPf w ((w.alloc (.cells n.cells.toArray 44)).alloc (.cells p.cells.toArray 44)) w.heap.size n p := by
  refine ⟨fun j u hu => Below.cell_some ((Below.refl _ _).alloc (Nat.le_refl _) _) (ob_new w n _ j u hu), fun j u hu => ?_, ((Below.refl _ _).alloc (Nat.le_refl _) _).alloc (by simp) _⟩
  have := ob_new (w.alloc (.cells n.cells.toArray 44)) p 44 j u hu
  rwa [World.size_alloc] at this
def WlV.cells7 (x : WlV) : List Value := [.int .i64 x.rep, .int .i64 x.cpu, .int .i64 x.mem, .slice x.L.ao x.L.la x.L.ca, .slice x.S.ao x.S.la x.S.ca, .slice x.T.ao x.T.la x.T.ca, .int .i64 x.warm]
def PodV.cells10 (x : PodV) : List Value := [.string x.owner, .string x.node, .int .i64 x.phase, .int .i64 x.since, .int .i64 x.cpu, .int .i64 x.mem, .slice x.L.ao x.L.la x.L.ca, .slice x.S.ao x.S.la x.S.ca, .slice x.T.ao x.T.la x.T.ca, .int .i64 x.warm]
def zeroW : Array Value := #[.int .i64 0, .int .i64 0, .int .i64 0, .slice none 0 0, .slice none 0 0, .slice none 0 0, .int .i64 0]
def zeroP : Array Value := #[.string ⟨#[]⟩, .string ⟨#[]⟩, .int .i64 0, .int .i64 0, .int .i64 0, .int .i64 0, .slice none 0 0, .slice none 0 0, .slice none 0 0, .int .i64 0]
theorem newW (A : Act) (w : World) {o : Oper} (ho : o.op = .alloc 29) : (execOp A.eval o).run Try.prog w = .ok (.value (.pointer (some ⟨w.heap.size, 0, none⟩))) (w.alloc (.cells zeroW 29)) := by
  unfold execOp
  rw [ho]
  kernel_rfl
theorem newP (A : Act) (w : World) {o : Oper} (ho : o.op = .alloc 31) : (execOp A.eval o).run Try.prog w = .ok (.value (.pointer (some ⟨w.heap.size, 0, none⟩))) (w.alloc (.cells zeroP 31)) := by
  unfold execOp
  rw [ho]
  kernel_rfl
theorem wl_cells (x : ObI) : ∀ j u, x.o.w.cells7[j]? = some u → x.cells[3 + j]? = some u := by
  intro j u h
  match j, h with
  | 0, h => exact h
  | 1, h => exact h
  | 2, h => exact h
  | 3, h => exact h
  | 4, h => exact h
  | 5, h => exact h
  | 6, h => exact h
  | j + 7, h => cases h
theorem pod_cells10 (x : ObI) : ∀ j u, x.o.p.cells10[j]? = some u → x.cells[10 + j]? = some u := by
  intro j u h
  match j, h with
  | 0, h => exact h
  | 1, h => exact h
  | 2, h => exact h
  | 3, h => exact h
  | 4, h => exact h
  | 5, h => exact h
  | 6, h => exact h
  | 7, h => exact h
  | 8, h => exact h
  | 9, h => exact h
  | j + 10, h => cases h

set_option maxRecDepth 100000 in
set_option maxHeartbeats 2000000 in
theorem new_any (x y : ObI) (w : World) (hx : ObAt w x) (hy : ObAt w y) (hk : x.kd = 0) :
    Calls Try.prog 25 #[.agg x.cells.toArray, .agg y.cells.toArray] w fun e w' => e = .returned (.bool (freshB x y)) ∧ Below w.heap.size w w' := by
  obtain ⟨w2, hw2⟩ : ∃ w2, (w.alloc (.cells x.cells.toArray 44)).alloc (.cells y.cells.toArray 44) = w2 := ⟨_, rfl⟩
  have hNP := NPf.new w x y
  rw [hw2] at hNP
  have hsz2 : w2.heap.size = w.heap.size + 2 := by rw [← hw2]; simp
  obtain ⟨N, hN⟩ : ∃ N, w.heap.size = N := ⟨_, rfl⟩
  rw [hN] at hNP hsz2
  have k0 := hNP.nAt 0 _ x.h0
  have k1 := hNP.nAt 1 _ x.h1
  have j0 := hNP.pAt 0 _ y.h0
  have j10 := hNP.pAt 10 _ y.h10
  rw [hk] at k0
  have HNP := Lib.hid hNP
  have HX := Lib.hid hx
  have HY := Lib.hid hy
  have Hw : Hid (∀ b : BW w2, ∀ j u, x.o.w.cells7[j]? = some u → b.w'.cell? (Addr.add ⟨N, 3, none⟩ j) = some u) := fun b j u hu => BW.cell (by rw [Addr.add_lit]; exact hNP.nAt _ _ (wl_cells x j u hu)) b
  have Hp : Hid (∀ b : BW w2, ∀ j u, y.o.p.cells10[j]? = some u → b.w'.cell? (Addr.add ⟨N + 1, 10, none⟩ j) = some u) := fun b j u hu => BW.cell (by rw [Addr.add_lit]; exact hNP.pAt _ _ (pod_cells10 y j u hu)) b
  clear hx hy hNP
  obtain ⟨nc, hnc⟩ : ∃ l, x.cells = l := ⟨_, rfl⟩
  obtain ⟨pc, hpc⟩ : ∃ l, y.cells = l := ⟨_, rfl⟩
  rw [hnc, hpc] at hw2
  rw [hnc, hpc]
  clear hnc hpc
  by_cases hkd : y.kd = 1
  · rw [hkd] at j0
    obtain ⟨q, hq⟩ : ∃ q, (y.o.p.owner.toList == x.nm.toList) = q := ⟨_, rfl⟩
    cases q
    · have hf : freshB x y = false := by unfold freshB; rw [hq]; simp
      rw [hf]
      go_enter Try.func25, Try.ntmps25
      go_wp2_with fail
      go_ret
      exact ⟨rfl, by rw [hN]; exact HNP.out.below⟩
    · have hf : freshB x y = (askB x y && ((x.o.w.warm == y.o.p.warm) && (rowEq labEq x.o.w.L.xs y.o.p.L.xs && (rowEq askEq x.o.w.S.xs y.o.p.S.xs && rowEq labEq x.o.w.T.xs y.o.p.T.xs)))) := by unfold freshB; rw [hq, hkd]; simp
      rw [hf]
      obtain ⟨qa, hqa⟩ : ∃ q, askB x y = q := ⟨_, rfl⟩
      obtain ⟨qw, hqw⟩ : ∃ q, (x.o.w.warm == y.o.p.warm) = q := ⟨_, rfl⟩
      obtain ⟨q3, hq3⟩ : ∃ q, rowEq labEq x.o.w.L.xs y.o.p.L.xs = q := ⟨_, rfl⟩
      obtain ⟨q4, hq4⟩ : ∃ q, rowEq askEq x.o.w.S.xs y.o.p.S.xs = q := ⟨_, rfl⟩
      obtain ⟨q5, hq5⟩ : ∃ q, rowEq labEq x.o.w.T.xs y.o.p.T.xs = q := ⟨_, rfl⟩
      rw [hqa, hqw, hq3, hq4, hq5]
      have Hqa := Lib.hid hqa
      have Hq3 := Lib.hid hq3
      have Hq4 := Lib.hid hq4
      have Hq5 := Lib.hid hq5
      clear hqa hq3 hq4 hq5
      obtain ⟨cw, hcw⟩ : ∃ l, x.o.w.cells7 = l := ⟨_, rfl⟩
      obtain ⟨cp, hcp⟩ : ∃ l, y.o.p.cells10 = l := ⟨_, rfl⟩
      have hwl : cw.length = 7 := by rw [← hcw]; rfl
      have hpl : cp.length = 10 := by rw [← hcp]; rfl
      have howl : ∀ v ∈ cw, v.oneCell' = true := by rw [← hcw]; exact fun v hv => List.all_eq_true.1 (show x.o.w.cells7.all (fun u => u.oneCell') = true from rfl) v hv
      have hopl : ∀ v ∈ cp, v.oneCell' = true := by rw [← hcp]; exact fun v hv => List.all_eq_true.1 (show y.o.p.cells10.all (fun u => u.oneCell') = true from rfl) v hv
      have Hcw := Lib.hid hcw
      have Hcp := Lib.hid hcp
      rw [hcw] at Hw
      rw [hcp] at Hp
      clear hcw hcp hf
      go_enter Try.func25, Try.ntmps25
      go_upto_region 3 with fail
      refine region_later mixedN ?_
      refine later_inv (fun w' => ∃ b : BW w2, w' = b.w') (fun d A w' => ∃ v5 v6, A = ⟨#[.agg nc.toArray, .agg pc.toArray, .pointer (some ⟨N, 0, none⟩), .pointer (some ⟨N + 1, 0, none⟩), .bool false, v5, v6, .pointer (some ⟨N, 0, none⟩), .int .i64 0, .bool false, .bool false, .pointer (some ⟨N + 1, 0, none⟩), .int .i64 1, .bool false, .bool false, .bool false, .pointer (some ⟨N + 1, 10, none⟩), .pointer (some ⟨N + 1, 10, none⟩), .string y.o.p.owner, .pointer (some ⟨N, 1, none⟩), .string x.nm, .bool false, .bool false, .pointer (some ⟨N, 3, none⟩), .agg cw.toArray, .pointer (some ⟨N + 1, 10, none⟩), .agg cp.toArray, undef, undef, undef, undef, undef, undef, undef, undef, undef, undef, undef, undef, undef, undef, undef, undef, undef, undef, undef, undef, undef, undef, undef, undef, undef, undef, undef, undef, undef, undef, undef, undef, undef], []⟩ ∧ TwoS w2 w' (d 4) (d 5) (d 6) (d 7) 29 31 zeroW zeroP cw.toArray cp.toArray v5 v6) [4, 5, 6, 7] 0 8 30 (by kernel_rfl) (by kernel_rfl) ⟨⟨{ w2 with drawn := w2.drawn + 1 }, ⟨rfl, rfl, rfl, Nat.le_refl _, fun _ _ => rfl⟩⟩, rfl⟩ ?_ ?_ ?_
      · intro i o ho hi d A w' hI hdi hdep hC
        obtain ⟨v5, v6, rfl, hT⟩ := hI
        obtain ⟨bw, rfl⟩ := hC
        simp only [List.mem_cons, List.not_mem_nil, or_false] at hi
        rcases hi with rfl | rfl | rfl | rfl
        · obtain rfl := Option.some.inj ho
          exact upon_new (z := zeroW) (T := 29) (newW _ _ rfl) ⟨⟨⟨_, bw.h.alloc bw.h.size _⟩, rfl⟩, _, v6, rfl, hT.first hdi bw.h.size⟩
        · obtain rfl := Option.some.inj ho
          exact upon_new (z := zeroP) (T := 31) (newP _ _ rfl) ⟨⟨⟨_, bw.h.alloc bw.h.size _⟩, rfl⟩, v5, _, rfl, hT.second hdi bw.h.size⟩
        · obtain rfl := Option.some.inj ho
          obtain ⟨k, rfl, hk1, hk2, hT2⟩ := hT.put1 (hdep 4 rfl (by kernel_rfl)) hdi
          exact upon_put aggWl (.tmp 5) (.tmp 24) rfl k cw hwl howl zeroW rfl hk2 rfl rfl ⟨⟨⟨_, bw.h.trans ((Fr.setRow (fun q => q = k) _ k _ rfl).below bw.h.size (fun q hq => by omega))⟩, rfl⟩, _, v6, rfl, hT2⟩
        · obtain rfl := Option.some.inj ho
          obtain ⟨k, rfl, hk1, hk2, hT2⟩ := hT.put2 (hdep 5 rfl (by kernel_rfl)) hdi
          exact upon_put aggPod (.tmp 6) (.tmp 26) rfl k cp hpl hopl zeroP rfl hk2 rfl rfl ⟨⟨⟨_, bw.h.trans ((Fr.setRow (fun q => q = k) _ k _ rfl).below bw.h.size (fun q hq => by omega))⟩, rfl⟩, v5, _, rfl, hT2⟩
      · rintro A w' ⟨bw, rfl⟩ ⟨d, ⟨v5, v6, rfl, hT⟩, hall⟩
        rw [hall 4 (by decide), hall 5 (by decide), hall 6 (by decide), hall 7 (by decide)] at hT
        obtain ⟨b5, b6, rfl, rfl, hl5, hl6, hne, hr5, hr6⟩ := hT.both
        obtain ⟨w3, hb3⟩ := bw
        dsimp only at hr5 hr6 ⊢
        clear hall hT
        refine later_end 8 rfl ?_
        rw [← Hcw.out] at hr5
        rw [← Hcp.out] at hr6
        have HB3 : Hid (Below w.heap.size w w3) := by show Below _ _ _; rw [hN]; exact HNP.out.below.trans (hb3.mono (by omega))
        have hqa := Hqa.out
        have hE : ∀ w, _ := fun w => eqlRes ⟨x.o.w.cpu, x.o.w.mem⟩ ⟨y.o.p.cpu, y.o.p.mem⟩ w
        dsimp only at hE
        unfold askB at hqa
        rw [hqa] at hE
        have HE := Lib.hid hE
        have cA := block_part hr5 (i := 1) (n := 2) [.int .i64 x.o.w.cpu, .int .i64 x.o.w.mem] rfl
        have cB := block_part hr6 (i := 4) (n := 2) [.int .i64 y.o.p.cpu, .int .i64 y.o.p.mem] rfl
        have F5 := Lib.hid hr5
        have F6 := Lib.hid hr6
        have a3 : w3.cell? ⟨b5, 3, none⟩ = some (.slice x.o.w.L.ao x.o.w.L.la x.o.w.L.ca) := cell_of_row w3 b5 3 _ _ _ hr5
        have a6 : w3.cell? ⟨b5, 6, none⟩ = some (.int .i64 x.o.w.warm) := cell_of_row w3 b5 6 _ _ _ hr5
        have p6 : w3.cell? ⟨b6, 6, none⟩ = some (.slice y.o.p.L.ao y.o.p.L.la y.o.p.L.ca) := cell_of_row w3 b6 6 _ _ _ hr6
        have p9 : w3.cell? ⟨b6, 9, none⟩ = some (.int .i64 y.o.p.warm) := cell_of_row w3 b6 9 _ _ _ hr6
        clear hE hqa hr5 hr6 hb3 hq k0 k1 j0 j10
        go_simp
        cases qa
        · go_wp2_with (first
            | ((with_reducible refine at_slot 28 ?_); go_must (refine wpList_load_gd aggRes rfl _ rfl ⟨b5, 1, none⟩ rfl _ rfl cA ?_))
            | ((with_reducible refine at_slot 30 ?_); go_must (refine wpList_load_gd aggRes rfl _ rfl ⟨b6, 4, none⟩ rfl _ rfl cB ?_))
            | ((with_reducible refine at_slot 31 ?_); go_must (refine wpList_bin rfl _ _ rfl _ _ _ rfl rfl (fun w => run_eqGuard_agg _ _ _ _ _ _ _ guardRes) HE.out ?_)))
          go_ret
          exact ⟨rfl, HB3.out⟩
        · cases qw
          · go_wp2_with (first
              | ((with_reducible refine at_slot 28 ?_); go_must (refine wpList_load_gd aggRes rfl _ rfl ⟨b5, 1, none⟩ rfl _ rfl cA ?_))
              | ((with_reducible refine at_slot 30 ?_); go_must (refine wpList_load_gd aggRes rfl _ rfl ⟨b6, 4, none⟩ rfl _ rfl cB ?_))
              | ((with_reducible refine at_slot 31 ?_); go_must (refine wpList_bin rfl _ _ rfl _ _ _ rfl rfl (fun w => run_eqGuard_agg _ _ _ _ _ _ _ guardRes) HE.out ?_)))
            go_ret
            exact ⟨rfl, HB3.out⟩
          · have HL := Lib.hid (equalL_any x.o.w.L.xs y.o.p.L.xs _ _ _ _ _ _ w3 (RowL.b HB3.out HX.out.sh.w.L) (RowL.b HB3.out HY.out.sh.p.L))
            go_wp2_with (first
              | ((with_reducible refine at_slot 28 ?_); go_must (refine wpList_load_gd aggRes rfl _ rfl ⟨b5, 1, none⟩ rfl _ rfl cA ?_))
              | ((with_reducible refine at_slot 30 ?_); go_must (refine wpList_load_gd aggRes rfl _ rfl ⟨b6, 4, none⟩ rfl _ rfl cB ?_))
              | ((with_reducible refine at_slot 31 ?_); go_must (refine wpList_bin rfl _ _ rfl _ _ _ rfl rfl (fun w => run_eqGuard_agg _ _ _ _ _ _ _ guardRes) HE.out ?_)))
            refine HL.out.mono ?_
            rintro e w4 ⟨rfl, hb4⟩
            rw [Hq3.out]
            have HB4 := Lib.hid (HB3.out.trans (hb4.mono HB3.out.size))
            have G5 := Lib.hid ((hb4.block b5 (Array.getElem?_eq_some_iff.1 F5.out).1).trans F5.out)
            have G6 := Lib.hid ((hb4.block b6 (Array.getElem?_eq_some_iff.1 F6.out).1).trans F6.out)
            have a4 : w4.cell? ⟨b5, 4, none⟩ = some (.slice x.o.w.S.ao x.o.w.S.la x.o.w.S.ca) := cell_of_row w4 b5 4 _ _ _ G5.out
            have p7 : w4.cell? ⟨b6, 7, none⟩ = some (.slice y.o.p.S.ao y.o.p.S.la y.o.p.S.ca) := cell_of_row w4 b6 7 _ _ _ G6.out
            clear hb4 HL a3 a6 p6 p9 cA cB HE F5 F6
            cases q3
            · go_wp2_with fail
              go_ret
              exact ⟨rfl, HB4.out⟩
            · have HS := Lib.hid (equalR_any x.o.w.S.xs y.o.p.S.xs _ _ _ _ _ _ w4 (RowS.b HB4.out HX.out.sh.w.S) (RowS.b HB4.out HY.out.sh.p.S))
              go_wp2_with fail
              refine HS.out.mono ?_
              rintro e w5 ⟨rfl, hb5⟩
              rw [Hq4.out]
              have HB5 := Lib.hid (HB4.out.trans (hb5.mono HB4.out.size))
              have K5 := Lib.hid ((hb5.block b5 (Array.getElem?_eq_some_iff.1 G5.out).1).trans G5.out)
              have K6 := Lib.hid ((hb5.block b6 (Array.getElem?_eq_some_iff.1 G6.out).1).trans G6.out)
              have a5 : w5.cell? ⟨b5, 5, none⟩ = some (.slice x.o.w.T.ao x.o.w.T.la x.o.w.T.ca) := cell_of_row w5 b5 5 _ _ _ K5.out
              have p8 : w5.cell? ⟨b6, 8, none⟩ = some (.slice y.o.p.T.ao y.o.p.T.la y.o.p.T.ca) := cell_of_row w5 b6 8 _ _ _ K6.out
              clear hb5 HS a4 p7 G5 G6
              cases q4
              · go_wp2_with fail
                go_ret
                exact ⟨rfl, HB5.out⟩
              · have HT := Lib.hid (equalL_any x.o.w.T.xs y.o.p.T.xs _ _ _ _ _ _ w5 (RowL.b HB5.out HX.out.sh.w.T) (RowL.b HB5.out HY.out.sh.p.T))
                go_wp2_with fail
                refine HT.out.mono ?_
                rintro e w6 ⟨rfl, hb6⟩
                rw [Hq5.out]
                have HB6 := Lib.hid (HB5.out.trans (hb6.mono HB5.out.size))
                clear hb6 HT a5 p8 K5 K6
                cases q5
                · go_wp2_with fail
                  go_ret
                  exact ⟨rfl, HB6.out⟩
                · go_wp2_with fail
                  go_ret
                  exact ⟨rfl, HB6.out⟩
      · repeat (first | (refine wpVal_skipR rfl ?_) | (refine wpVal_takeR rfl ?_; first | (refine wpVal_loadK aggWl rfl _ rfl _ rfl _ hwl (by rintro _ ⟨b, rfl⟩; exact Hw.out b) (fun K hK => ?_); go_simp; refine hK _ ?_; clear hK K) | (refine wpVal_loadK aggPod rfl _ rfl _ rfl _ hpl (by rintro _ ⟨b, rfl⟩; exact Hp.out b) (fun K hK => ?_); go_simp; refine hK _ ?_; clear hK K) | (refine wpVal_oneK rfl (fun K hK => ?_); go_simp; refine hK _ ?_; clear hK K)))
        refine wpVal_endR ?_
        exact ⟨undef, undef, rfl, TwoS.none⟩
  · have hne : (y.kd != 1) = true := by simpa using hkd
    have hf : freshB x y = false := by unfold freshB; rw [show (y.kd == 1) = false from by simpa using hkd]; rfl
    rw [hf]
    go_enter Try.func25, Try.ntmps25
    go_wp2_with fail
    go_ret
    exact ⟨rfl, by rw [hN]; exact HNP.out.below⟩
end Go.Proofs.Ytpbppgfogepjeaa
