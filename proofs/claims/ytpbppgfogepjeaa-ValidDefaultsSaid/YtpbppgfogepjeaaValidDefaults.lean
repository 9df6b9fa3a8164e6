/- ValidDefaults: any object with defaults is as the document says; with them twice as with them once; what may be, may be with them. Conditions: none. -/
import Derived.Test.YtpbppgfogepjeaaDefLaw
import Derived.Test.YtpbppgfogepjeaaValidLives
import Derived.Test.YtpbppgfogepjeaaCheck
import Derived.Test.YtpbppgfogepjeaaFewSays
import Derived.Test.YtpbppgfogepjeaaPhaseGM
import Derived.Test.YtpbppgfogepjeaaPhaseInv
import Derived.Test.YtpbppgfogepjeaaRightM
import Derived.Test.YtpbppgfogepjeaaValidDefaultsLift
namespace Go.Proofs.Ytpbppgfogepjeaa
open Go.ChangeShapes Go.WideShapes Go.ChangeAt Go.RowKit Go.Deep

theorem few_ob (x : ObI) (w : World) (hr : Reach6 x.o) : Calls Try.prog 7 #[.agg x.cells.toArray] w fun e w' => SaysFew x.o e ∧ Below w.heap.size w w' := few_says x.kd x.nm x.ver x.o w hr
theorem check_ob (x : ObI) (w : World) (h : ShapesAt w x.o) : Calls Try.prog 11 #[.agg x.cells.toArray] w fun e w' => e = .returned (.int .i64 (checkOf x.kd x.nm x.o)) ∧ Below w.heap.size w w' := check_any x.kd x.nm x.ver x.o w h
theorem same_ob (x y : ObI) (w : World) (hv : 0 ≤ x.ver ∧ x.ver ≤ 18446744073709551615) (hx : ShapesAt w x.o) (hy : ShapesAt w y.o) (mx : (objS x.kd x.nm x.ver x.o).size ≤ 9223372036854775807) (e1 : y.kd = x.kd) (e2 : y.nm = x.nm) (e3 : y.ver = x.ver) (e4 : objS x.kd x.nm x.ver x.o = objS x.kd x.nm x.ver y.o) :
    Calls Try.prog 9 #[.agg x.cells.toArray, .agg y.cells.toArray] w fun e w' => e = .returned (.bool true) ∧ Below w.heap.size w w' := by
  obtain ⟨kd, nm, ver, o⟩ := x
  obtain ⟨kd', nm', ver', o'⟩ := y
  dsimp only at *
  subst e1 e2 e3
  have := same_any kd' nm' ver' o kd' nm' ver' o' w hv hv hx hy mx (by rw [← e4]; exact mx)
  rw [same_eq e4] at this
  exact this
def shO (x : ObI) (M : RowV Metric) (U D : RowV Policy) (T : RowV Scaled) : ObI := ⟨4, x.nm, x.ver, { (default : ObI).o with h := x.o.h.rows M U D T }⟩
def zeroOb : Array Value := (default : ObI).cells.toArray
theorem newOb (A : Act) (w : World) {o : Oper} (ho : o.op = .alloc 44) : (execOp A.eval o).run Try.prog w = .ok (.value (.pointer (some ⟨w.heap.size, 0, none⟩))) (w.alloc (.cells zeroOb 44)) := by
  unfold execOp
  rw [ho]
  kernel_rfl
theorem upon_callQ {P : Program} {A : Act} {w : World} {o : Oper} {next : Value → World → Prop} (f : Nat) (args : List Operand) (ats : Array TypeId) (hop : o.op = .call { callee := .value (.func f), args := args.toArray, argTypes := ats }) {fn : Func} {c : Code} (hf : P.funcs[f]? = some fn)
    (hn : (fn.name == "runtime.NumGoroutine") = false) (hb : fn.body = some c) (vs : List Value) (hv : args.map A.eval = vs) (h : Calls P f vs.toArray w fun e w' => ∃ v, e = .returned v ∧ next v w') : loudUpon P next ((execOp A.eval o).run P w) := by
  have h2' : fn.name ≠ "runtime.NumGoroutine" := by simpa using hn
  have h3' : fn.body ≠ none := by rw [hb]; intro e; cases e
  have e2 : (execOp A.eval o).run P w = .ok (.enter f vs.toArray) w := by
    unfold execOp
    have e : (args.toArray.map A.eval) = vs.toArray := by rw [← hv]; simp
    simp only [hop, resolve, e]
    simp [Act.eval, Deferred.ofValue, invoke, callFunc, hf, h2', h3']
  rw [e2]
  exact h
theorem upon_build {P : Program} {A : Act} {w : World} {o : Oper} {next : Value → World → Prop} (t : TypeId) (parts : List (Nat × Operand)) (hop : o.op = .build t parts.toArray) (args : List (Nat × Value)) (hargs : parts.map (fun p => (p.1, A.eval p.2)) = args) (v : Value) (hrun : (Instr.build t args.toArray).run P w = .ok v w) (h : next v w) : loudUpon P next ((execOp A.eval o).run P w) := by
  subst hargs
  have e : (parts.toArray.map fun (p : Nat × Operand) => (p.1, A.eval p.2)) = (parts.map fun p => (p.1, A.eval p.2)).toArray := by simp
  have e2 : (execOp A.eval o).run P w = .ok (.value v) w := by
    unfold execOp
    simp only [hop]
    rw [e]
    simp [hrun]
  rw [e2]
  exact h
theorem buildShO (x : ObI) (M : RowV Metric) (U D : RowV Policy) (T : RowV Scaled) (w : World) : (Instr.build 44 [(0, .int .i64 4), (1, .string x.nm), (2, .int .u64 x.ver), (7, .agg (x.o.h.rows M U D T).cells12.toArray)].toArray).run Try.prog w = .ok (.agg (shO x M U D T).cells.toArray) w := by kernel_rfl
structure H4 (B : Nat) (w : World) (M : RowV Metric) (U D : RowV Policy) (T : RowV Scaled) : Prop where
  M : NewR Metric.cells 3 B w M
  U : NewR Policy.cells 3 B w U
  D : NewR Policy.cells 3 B w D
  T : NewR Scaled.cells 3 B w T
structure Av (k : Nat) (M : RowV Metric) (U D : RowV Policy) (T : RowV Scaled) : Prop where
  M : ∀ a, M.ao = some a → a.block ≠ k
  U : ∀ a, U.ao = some a → a.block ≠ k
  D : ∀ a, D.ao = some a → a.block ≠ k
  T : ∀ a, T.ao = some a → a.block ≠ k
section
variable {B : Nat} {w w' : World} {M : RowV Metric} {U D : RowV Policy} {T : RowV Scaled}
theorem H4.mono {B' : Nat} (h : H4 B w M U D T) (hB : B' ≤ B) : H4 B' w M U D T := ⟨h.M.mono hB, h.U.mono hB, h.D.mono hB, h.T.mono hB⟩
theorem H4.below (h : H4 B w M U D T) (hb : Below w.heap.size w w') : H4 B w' M U D T := ⟨h.M.below hb, h.U.below hb, h.D.below hb, h.T.below hb⟩
theorem H4.put (h : H4 B w M U D T) {k : Nat} (a : Av k M U D T) (hf : Fr (fun q => q = k) w w') : H4 B w' M U D T := ⟨h.M.frA hf fun x e => a.M x e, h.U.frA hf fun x e => a.U x e, h.D.frA hf fun x e => a.D x e, h.T.frA hf fun x e => a.T x e⟩
theorem H4.lo {k : Nat} (h : H4 B w M U D T) (hk : k < B) : Av k M U D T := ⟨fun a e => by have := h.M.lo a e; omega, fun a e => by have := h.U.lo a e; omega, fun a e => by have := h.D.lo a e; omega, fun a e => by have := h.T.lo a e; omega⟩
theorem H4.hi (h : H4 B w M U D T) : Av w.heap.size M U D T := ⟨fun a e => by have := h.M.hi a e; omega, fun a e => by have := h.U.hi a e; omega, fun a e => by have := h.D.hi a e; omega, fun a e => by have := h.T.hi a e; omega⟩
theorem H4.shapes (h : H4 B w M U D T) (x : ObI) : ShapesAt w (shO x M U D T).o := ⟨⟨.nil, .nil, .nil⟩, ⟨.nil, .nil, .nil⟩, ⟨.nil, .nil⟩, ⟨.nil, .nil⟩, ⟨h.M.rd, h.U.rd, h.D.rd, h.T.rd⟩⟩
end
structure Lk (h : HpaV) (M : RowV Metric) (U D : RowV Policy) (T : RowV Scaled) : Prop where
  M : h.M.Like M
  U : (rowU h.up).Like U
  D : (rowD h.down).Like D
  T : h.past.Like T
theorem Lk.text {x : ObI} {M : RowV Metric} {U D : RowV Policy} {T : RowV Scaled} (h : Lk x.o.h M U D T) (ver : Int) (nm : ByteArray) : objS 4 nm ver (shO x M U D T).o = objS 4 nm ver (defV 4 x.o) := by
  unfold objS defV
  rw [if_neg (by decide), if_neg (by decide), if_neg (by decide), if_neg (by decide), if_neg (by decide), if_neg (by decide), if_neg (by decide), if_neg (by decide), if_pos rfl]
  exact hpa_like h.M h.U h.D h.T
def midV (kd : Int) (o : ShapesV) : ShapesV := if kd = 3 then { o with g := clampV o.g } else o
def ObI.mid (x : ObI) : ObI := ⟨x.kd, x.nm, x.ver, midV x.kd x.o⟩
theorem midAt {w : World} {kd : Int} {o : ShapesV} (h : ShapesAt w o) : ShapesAt w (midV kd o) := by
  unfold midV
  split
  · exact ⟨h.w, h.p, h.n, ⟨h.g.L, h.g.T⟩, h.h⟩
  · exact h
theorem with_self (o : ShapesV) : o.with o.rows = o := rfl
theorem like_self (r : Rows14) : r.Like r := ⟨⟨rfl, rfl⟩, ⟨rfl, rfl⟩, ⟨rfl, rfl⟩, ⟨rfl, rfl⟩, ⟨rfl, rfl⟩, ⟨rfl, rfl⟩, ⟨rfl, rfl⟩, ⟨rfl, rfl⟩, ⟨rfl, rfl⟩, ⟨rfl, rfl⟩, ⟨rfl, rfl⟩, ⟨rfl, rfl⟩, ⟨rfl, rfl⟩, ⟨rfl, rfl⟩⟩
theorem cellsAt {W : World} {b : Nat} {cs : List Value} {T : TypeId} (h : W.heap[b]? = some (.cells cs.toArray T (0, 0))) : ∀ j u, cs[j]? = some u → W.cell? ((⟨b, 0, none⟩ : Addr).add j) = some u := fun j u hu => by
  rw [Addr.add_lit, Nat.zero_add, cell_of_row W b j _ _ _ h]
  simpa using hu
theorem cellAt {W : World} {b j : Nat} {cs : List Value} {T : TypeId} {u : Value} (h : W.heap[b]? = some (.cells cs.toArray T (0, 0))) (hu : cs[j]? = some u) : W.cell? ⟨b, j, none⟩ = some u := by
  rw [cell_of_row W b j _ _ _ h]
  simpa using hu
theorem slr_blk {α : Type} {f : α → List Value} {sz : Nat} {w w' : World} {b off n cap : Nat} {xs : List α} (h : SlR (Flat f) sz w (some ⟨b, off, none⟩) n cap xs) (he : w'.heap[b]? = w.heap[b]?) : SlR (Flat f) sz w' (some ⟨b, off, none⟩) n cap xs :=
  ⟨h.hlen, h.hcap, h.hmax, (fun e => by cases e), fun a ha i hi => by
    obtain rfl := Option.some.inj ha
    obtain ⟨c, h1, h2, h3⟩ := h.hat _ rfl i hi
    exact ⟨c, h1, fun j u hu => by
      have := h2 j u hu
      rw [Addr.add_lit] at this ⊢
      rw [World.cell?_of_block (a := ⟨b, _, none⟩) he]
      exact this, h3⟩⟩
def WantIs (x z : ObI) : Prop := ∃ r : Rows14, z = ObI.mk x.kd x.nm x.ver ((defV x.kd x.o).with r) ∧ (defV x.kd x.o).rows.Like r

set_option maxRecDepth 100000 in
set_option maxHeartbeats 4000000 in
theorem validDefaults_core (x : ObI) (w : World) (hS : ShapesAt w x.o) (hb : Bd shObj w x.cells) (hr : Reach6 x.o) (hv : 0 ≤ x.ver ∧ x.ver ≤ 18446744073709551615) :
    Calls Try.prog 3 #[.agg x.cells.toArray] w fun e w' => e = .returned (.bool true) ∧ Below w.heap.size w w' := by
  have HS := Lib.hid hS
  have HV := Lib.hid hv
  have HBg : Hid (Few30 x.o → Big x.nm x.o) := fun f => big_of hb hS f
  have HFw := Lib.hid (fun W => few_ob x W hr)
  have HDf : Hid (Few30 x.o → ∀ W, Below w.heap.size w W → _) := fun f W hW => default_any x W (hS.b hW) (few_rows f)
  have h0 := x.h0
  have h1 := x.h1
  have h2 := x.h2
  have h27 := x.h27
  have h28 := x.h28
  have h29 := x.h29
  have h41 := x.h41
  have h42 := x.h42
  have h44 := x.h44
  have h45 := x.h45
  obtain ⟨xc, hxe⟩ : ∃ c, x.cells = c := ⟨_, rfl⟩
  have hxl : xc.length = 47 := by rw [← hxe]; rfl
  have hxo : xc.all (fun u => u.oneCell') = true := by rw [← hxe]; exact x.one
  have Hxe := Lib.hid hxe
  rw [hxe] at h0 h1 h2 h27 h28 h29 h41 h42 h44 h45 HFw HDf ⊢
  clear hxe hS hb hr hv
  obtain ⟨w1, hw1⟩ : ∃ q, w.alloc (.cells xc.toArray 44) = q := ⟨_, rfl⟩
  have hb1 : Below w.heap.size w w1 := by rw [← hw1]; exact (Below.refl _ _).alloc (Nat.le_refl _) _
  have v1 : w1.heap[w.heap.size]? = some (.cells xc.toArray 44 (0, 0)) := by rw [← hw1]; exact heap_alloc_new _ _
  obtain ⟨N, hN⟩ : ∃ N, w.heap.size = N := ⟨_, rfl⟩
  have hz1 : N < w1.heap.size := by rw [← hw1, ← hN]; simp
  have HNw : Hid (∀ W, Below N w W → Below w.heap.size w W) := fun W h => by rw [hN]; exact h
  rw [hN] at v1 hb1
  have V1 := Lib.hid v1
  have B1 := Lib.hid hb1
  clear v1 hb1
  rw [hN]
  go_enter Try.func3, Try.ntmps3
  go_wp2_with fail
  refine (lives07 w1).mono ?_
  rintro e w2 ⟨rfl, hb2⟩
  have V2 := Lib.hid ((hb2.block N (by omega)).trans V1.out)
  have B2 := Lib.hid (B1.out.trans (hb2.mono (by omega)))
  have hz2 : N < w2.heap.size := Nat.lt_of_lt_of_le hz1 hb2.size
  have c2 := cellsAt V2.out
  clear hb2 hw1 V1 B1
  go_wp2_with ((with_reducible refine at_slot 9 ?_); go_must (refine wpList_load_gd aggObI rfl _ rfl ⟨N, 0, none⟩ rfl xc hxl c2 ?_))
  refine (HFw.out w2).mono ?_
  rintro e w3 ⟨⟨b, rfl, hbF⟩, hb3⟩
  have V3 := Lib.hid ((hb3.block N (by omega)).trans V2.out)
  have B3 := Lib.hid (B2.out.trans (hb3.mono (by omega)))
  have hz3 : N < w3.heap.size := Nat.lt_of_lt_of_le hz2 hb3.size
  have HbF := Lib.hid hbF
  clear hb3 hbF V2 B2 c2
  cases b
  · go_wp2_with fail
    refine (lives07 w3).mono ?_
    rintro e wE ⟨rfl, hbE⟩
    have HE := Lib.hid (HNw.out _ (B3.out.trans (hbE.mono (by omega))))
    clear hbE
    go_wp2_with fail
    go_ret
    exact ⟨rfl, by rw [← hN]; exact HE.out⟩
  · have HF : Hid (Few30 x.o) := HbF.out rfl
    have HBig := Lib.hid (HBg.out HF.out)
    have HD := Lib.hid (HDf.out HF.out w3 (HNw.out _ B3.out))
    have c3 := cellsAt V3.out
    clear HbF HBg HFw
    go_wp2_with ((with_reducible refine at_slot 14 ?_); go_must (refine wpList_load_at aggObI rfl _ rfl ⟨N, 0, none⟩ rfl xc hxl c3 ?_))
    refine HD.out.mono ?_
    rintro e w4 ⟨r, rfl, hL, hyS, hb4⟩
    obtain ⟨y, hy⟩ : ∃ y, ObI.mk x.kd x.nm x.ver ((defV x.kd x.o).with r) = y := ⟨_, rfl⟩
    have hyo : y.o = (defV x.kd x.o).with r := by rw [← hy]
    have HL := Lib.hid hL
    have HYw : Hid (WantIs x y) := ⟨r, hy.symm, hL⟩
    rw [hy]
    rw [← hyo] at hyS
    obtain ⟨yc, hyc⟩ : ∃ c, y.cells = c := ⟨_, rfl⟩
    have hyl : yc.length = 47 := by rw [← hyc]; rfl
    have hyon : yc.all (fun u => u.oneCell') = true := by rw [← hyc]; exact y.one
    rw [hyc]
    have Hyc := Lib.hid hyc
    have v4 := (hb4.block N (by omega)).trans V3.out
    obtain ⟨w5, hw5⟩ : ∃ q, w4.alloc (.cells yc.toArray 44) = q := ⟨_, rfl⟩
    obtain ⟨b3, hb3e⟩ : ∃ q, w4.heap.size = q := ⟨_, rfl⟩
    have hb5 : Below w4.heap.size w4 w5 := by rw [← hw5]; exact (Below.refl _ _).alloc (Nat.le_refl _) _
    have y5 : w5.heap[b3]? = some (.cells yc.toArray 44 (0, 0)) := by rw [← hw5, ← hb3e]; exact heap_alloc_new _ _
    have hz5 : w5.heap.size = b3 + 1 := by rw [← hw5, ← hb3e]; simp
    have v5 := (hb5.block N (by have := hb4.size; omega)).trans v4
    obtain ⟨w6, hw6⟩ : ∃ q, w5.alloc (.cells xc.toArray 44) = q := ⟨_, rfl⟩
    obtain ⟨b4, hb4e⟩ : ∃ q, w5.heap.size = q := ⟨_, rfl⟩
    have hb6 : Below w5.heap.size w5 w6 := by rw [← hw6]; exact (Below.refl _ _).alloc (Nat.le_refl _) _
    have z6 : w6.heap[b4]? = some (.cells xc.toArray 44 (0, 0)) := by rw [← hw6, ← hb4e]; exact heap_alloc_new _ _
    have hNb : N < b3 ∧ b3 < b4 := by have := hb4.size; omega
    have v6 := (hb6.block N (by omega)).trans v5
    have hz6 : b4 < w6.heap.size := (Array.getElem?_eq_some_iff.1 z6).1
    have hB5 : Below N w w5 := (B3.out.trans (hb4.mono (by omega))).trans (hb5.mono (by have := hb4.size; omega))
    have V5 := Lib.hid v5
    have Y5 := Lib.hid y5
    have Z6 := Lib.hid z6
    have B5 := Lib.hid hB5
    have YS := Lib.hid (hyS.b hb5)
    have hB56 := hb6
    rw [hb4e] at hB56
    have B56 := Lib.hid hB56
    have Hb4 := Lib.hid hb4e
    have B6 : Hid (Below N w w6) := hB5.trans (hB56.mono (by omega))
    have c5 := cellsAt v5
    have k0 := cellAt v6 h0
    have k27 := cellAt v6 h27
    have k28 := cellAt v6 h28
    have k29 := cellAt v6 h29
    have Hyo := Lib.hid hyo
    clear hb4 hb5 hb6 v4 v5 v6 y5 z6 hB5 hB56 hyS hL hy V3 B3 c3 HD hyc hz5 hz3 hyo
    go_upto_region 5 with (first
      | ((with_reducible refine at_slot 3 ?_); go_must (refine wpList_var aggObI rfl rfl rfl _ _ rfl rfl yc.toArray rfl rfl (by simp [hyl]) (by simpa using hyon) ?_; rw [hw5, hb3e]))
      | ((with_reducible refine at_slot 16 ?_); go_must (refine wpList_load_at aggObI rfl _ rfl ⟨N, 0, none⟩ rfl xc hxl c5 ?_))
      | ((with_reducible refine at_slot 4 ?_); go_must (refine wpList_var aggObI rfl rfl rfl _ _ rfl rfl xc.toArray rfl rfl (by simp [hxl]) (by simpa using hxo) ?_; rw [hw6, hb4e])))
    go_simp
    clear c5 hw5 hw6 hb3e hb4e
    obtain ⟨q5, hq5⟩ : ∃ q, ((x.kd == 3) && decide (x.o.g.min ≤ x.o.g.max)) = q := ⟨_, rfl⟩
    have Hq5 := Lib.hid hq5
    clear hq5
    go_cut [28] from 17 to 27 (fun v wx => v = .bool q5 ∧ w6 = wx)
    case first =>
      cases hk3 : (x.kd == 3)
      · have e5 : q5 = false := by rw [← Hq5.out, hk3]; rfl
        go_wp2_with fail
        go_meet
        case rel => exact ⟨by rw [e5], rfl⟩
      · obtain ⟨dd, hdd⟩ : ∃ q, decide (x.o.g.min ≤ x.o.g.max) = q := ⟨_, rfl⟩
        have e5 : dd = q5 := by rw [← Hq5.out, hk3, hdd]; rfl
        go_wp2_with fail
        go_meet
        case rel => exact ⟨by rw [← e5], rfl⟩
    case rest =>
      obtain ⟨rfl, rfl⟩ := hcut
      go_upto_if 28 with fail
      go_cut [] from 29 to 55 (fun wx => Hid (wx.heap[b4]? = some (.cells x.mid.cells.toArray 44 (0, 0))) ∧ Hid (Below b4 w5 wx))
      case first =>
       cases q5
       · cases hk3 : (x.kd == 3)
         · have hm : x.mid = x := by unfold ObI.mid midV; rw [if_neg (by simpa using hk3)]
           have HZ : Hid (w6.heap[b4]? = some (.cells x.mid.cells.toArray 44 (0, 0))) := by rw [hm, Hxe.out]; exact Z6
           clear hm
           go_wp2_with fail
           go_meet
           case rel => exact ⟨HZ, B56⟩
         · have HE := Lib.hid (HNw.out _ B6.out)
           go_wp2_with fail
           go_ret
           exact ⟨rfl, by rw [← hN]; exact HE.out⟩
       · have hq := Hq5.out
         rw [Bool.and_eq_true] at hq
         have hk3 : x.kd = 3 := by simpa using hq.1
         have hle := of_decide_eq_true hq.2
         have hmid : x.mid = ObI.mk x.kd x.nm x.ver { x.o with g := clampV x.o.g } := by unfold ObI.mid midV; rw [if_pos hk3]
         have hcell : ∀ tg, min (max x.o.g.target x.o.g.min) x.o.g.max = tg → xc.toArray.setIfInBounds 29 (.int .i64 tg) = x.mid.cells.toArray := fun tg h => by rw [hmid, ← h, ← Hxe.out]; rfl
         have fr29 := row_free Z6.out 29
         have z29 : w6.cell? ⟨b4, 29, none⟩ = some (.int .i64 x.o.g.target) := cellAt Z6.out h29
         by_cases hlt : x.o.g.target < x.o.g.min
         · have hc := hcell x.o.g.min (by omega)
           have HZ : Hid ((w6.setCell ⟨b4, 29, none⟩ (.int .i64 x.o.g.min)).heap[b4]? = some (.cells x.mid.cells.toArray 44 (0, 0))) := by rw [← hc]; exact row_setCell Z6.out _
           have HFx : Hid (Fr (fun k => k = b4) w6 (w6.setCell ⟨b4, 29, none⟩ (.int .i64 x.o.g.min))) := Fr.setC (fun k => k = b4) w6 ⟨b4, 29, none⟩ _ rfl
           have d1 : decide (x.o.g.target < x.o.g.min) = true := decide_eq_true hlt
           have d2 : decide (x.o.g.target > x.o.g.max) = false := decide_eq_false (by omega)
           have m27 : (w6.setCell ⟨b4, 29, none⟩ (.int .i64 x.o.g.min)).cell? ⟨N, 29, none⟩ = some (.int .i64 x.o.g.target) := HFx.out.cell k29 (by show ¬ N = b4; omega)
           have m28 : (w6.setCell ⟨b4, 29, none⟩ (.int .i64 x.o.g.min)).cell? ⟨N, 28, none⟩ = some (.int .i64 x.o.g.max) := HFx.out.cell k28 (by show ¬ N = b4; omega)
           clear hcell hc hmid hq hle hlt
           go_wp2_with fail
           go_meet
           case rel => exact ⟨HZ, B56.out.trans (HFx.out.below (by omega) (fun k hk => by omega))⟩
         · have d1 : decide (x.o.g.target < x.o.g.min) = false := decide_eq_false hlt
           by_cases hgt : x.o.g.target > x.o.g.max
           · have hc := hcell x.o.g.max (by omega)
             have HZ : Hid ((w6.setCell ⟨b4, 29, none⟩ (.int .i64 x.o.g.max)).heap[b4]? = some (.cells x.mid.cells.toArray 44 (0, 0))) := by rw [← hc]; exact row_setCell Z6.out _
             have HFx : Hid (Fr (fun k => k = b4) w6 (w6.setCell ⟨b4, 29, none⟩ (.int .i64 x.o.g.max))) := Fr.setC (fun k => k = b4) w6 ⟨b4, 29, none⟩ _ rfl
             have d2 : decide (x.o.g.target > x.o.g.max) = true := decide_eq_true hgt
             clear hcell hc hmid hq hle hlt hgt
             go_wp2_with fail
             go_meet
             case rel => exact ⟨HZ, B56.out.trans (HFx.out.below (by omega) (fun k hk => by omega))⟩
           · have hc := hcell x.o.g.target (by omega)
             have e29 : xc.toArray.setIfInBounds 29 (.int .i64 x.o.g.target) = xc.toArray := by
               apply Array.ext_getElem?
               intro i
               rw [Array.getElem?_setIfInBounds]
               split
               · rename_i h
                 subst h
                 split
                 · simpa using h29.symm
                 · rename_i h
                   simp at h
                   omega
               · rfl
             rw [e29] at hc
             have HZ : Hid (w6.heap[b4]? = some (.cells x.mid.cells.toArray 44 (0, 0))) := by rw [← hc]; exact Z6
             have d2 : decide (x.o.g.target > x.o.g.max) = false := decide_eq_false hgt
             clear hcell hc hmid hq hle hlt hgt e29
             go_wp2_with fail
             go_meet
             case rel => exact ⟨HZ, B56⟩
      case rest =>
       obtain ⟨hz7, hb7⟩ := hcut
       obtain ⟨w7, rfl⟩ : ∃ w7 : World, w7 = wc := ⟨_, rfl⟩
       have V7 := Lib.hid ((hb7.out.block N (by omega)).trans V5.out)
       have hs7 : b4 < w7.heap.size := (Array.getElem?_eq_some_iff.1 hz7.out).1
       have j0 := cellAt V7.out h0
       clear k0 k27 k28 k29
       go_upto_if 58 with fail
       obtain ⟨q58, h58⟩ : ∃ q, (x.kd == 4) = q := ⟨_, rfl⟩
       rw [h58]
       have H58 := Lib.hid h58
       clear h58
       go_cut [] from 59 to 95 (fun wx => ∃ z, Hid (WantIs x z) ∧ Hid (wx.heap[b4]? = some (.cells z.cells.toArray 44 (0, 0))) ∧ Hid (ShapesAt wx z.o) ∧ Hid (Below b4 w5 wx))
       case first =>
         cases q58
         · have hk4 : x.kd ≠ 4 := by simpa using H58.out
           have hW : Hid (WantIs x x.mid) := by
             refine ⟨(defV x.kd x.o).rows, ?_, like_self _⟩
             rw [with_self]
             unfold ObI.mid midV defV
             rw [if_neg hk4]
           have hSm : Hid (ShapesAt w7 x.mid.o) := midAt (HS.out.b (HNw.out _ (B5.out.trans (hb7.out.mono (by omega)))))
           go_wp2_with fail
           go_meet
           case rel => exact ⟨x.mid, hW, hz7, hSm, hb7⟩
         · have hk4 : Hid (x.kd = 4) := by show _ = _; simpa using H58.out
           have hmid : x.mid = x := by have := hk4.out; unfold ObI.mid midV; rw [if_neg (by omega)]
           rw [hmid, Hxe.out] at hz7
           have X7 := Lib.hid (HS.out.b (HNw.out _ (B5.out.trans (hb7.out.mono (by omega)))))
           have j42 := cellAt V7.out h42
           have j41 := cellAt V7.out h41
           clear hmid
           go_upto_region 13 with fail
           go_cut [71] from 59 to 70 (fun v wx => v = .bool (fillB x.o.h.up) ∧ w7 = wx)
           case first =>
             cases ea : ((x.o.h.up.P.la : Int) == 0)
             · have e : fillB x.o.h.up = false := by unfold fillB; rw [ea]; rfl
               go_wp2_with fail
               go_meet
               case rel => exact ⟨by rw [e], rfl⟩
             · obtain ⟨pq, hpq⟩ : ∃ q, (x.o.h.up.pick != 2) = q := ⟨_, rfl⟩
               have e : fillB x.o.h.up = pq := by unfold fillB; rw [ea, hpq]; rfl
               go_wp2_with fail
               go_meet
               case rel => exact ⟨by rw [e], rfl⟩
           case rest =>
             obtain ⟨rfl, rfl⟩ := hcut
             go_upto_if 71 with fail
             obtain ⟨fu, hfu⟩ : ∃ q, fillB x.o.h.up = q := ⟨_, rfl⟩
             rw [hfu]
             have HFu := Lib.hid hfu
             clear hfu
             go_cut [] from 72 to 77 (fun wx => ∃ U : RowV Policy, Hid ((rowU x.o.h.up).Like U) ∧ Hid (wx.heap[b4]? = some (.cells (ObI.mk x.kd x.nm x.ver { x.o with h := x.o.h.rows x.o.h.M U x.o.h.down.P x.o.h.past }).cells.toArray 44 (0, 0))) ∧ Hid (∀ w' : World, Below b4 w5 w' → (∀ k, b4 < k → k < wx.heap.size → w'.heap[k]? = wx.heap[k]?) → RowP w' U) ∧ Hid (Below b4 w5 wx))
             case first =>
               cases fu
               · have hU : Hid ((rowU x.o.h.up).Like x.o.h.up.P) := by show RowV.Like _ _; rw [rowU_no HFu.out]; exact ⟨rfl, rfl⟩
                 have hz : Hid (w7.heap[b4]? = some (.cells (ObI.mk x.kd x.nm x.ver { x.o with h := x.o.h.rows x.o.h.M x.o.h.up.P x.o.h.down.P x.o.h.past }).cells.toArray 44 (0, 0))) := by
                   have e : ObI.mk x.kd x.nm x.ver { x.o with h := x.o.h.rows x.o.h.M x.o.h.up.P x.o.h.down.P x.o.h.past } = x := rfl
                   show _ = _
                   rw [e, Hxe.out]
                   exact hz7.out
                 have hP : Hid (∀ w' : World, Below b4 w5 w' → (∀ k, b4 < k → k < w7.heap.size → w'.heap[k]? = w7.heap[k]?) → RowP w' x.o.h.up.P) := fun w' h _ => (HS.out.b (HNw.out _ (B5.out.trans (h.mono (by omega))))).h.U
                 go_wp2_with fail
                 go_meet
                 case rel => exact ⟨x.o.h.up.P, hU, hz, hP, hb7⟩
               · obtain ⟨w8, hw8⟩ : ∃ q, w7.alloc (.cells (polA.cells ++ polB.cells).toArray 49) = q := ⟨_, rfl⟩
                 obtain ⟨b8, hb8⟩ : ∃ q, w7.heap.size = q := ⟨_, rfl⟩
                 have hB8 : Below w7.heap.size w7 w8 := by rw [← hw8]; exact (Below.refl _ _).alloc (Nat.le_refl _) _
                 have z8 := (hB8.block b4 hs7).trans hz7.out
                 have m42 := cellAt z8 h42
                 have f42 := row_free z8 42
                 have hP8 : SlR (Flat Policy.cells) 3 w8 (some ⟨b8, 0, none⟩) 2 2 [polA, polB] := by
                   rw [← hw8, ← hb8]
                   exact SlR.of_new (f := Policy.cells) (sz := 3) w7 [polA, polB] 49 _ 2 rfl (by unfold maxLen; omega) (fun _ => rfl) (by simp)
                 have hset : xc.toArray.setIfInBounds 42 (.slice (some ⟨b8, 0, none⟩) 2 2) = (ObI.mk x.kd x.nm x.ver { x.o with h := x.o.h.rows x.o.h.M ⟨some ⟨b8, 0, none⟩, 2, 2, [polA, polB]⟩ x.o.h.down.P x.o.h.past }).cells.toArray := by rw [← Hxe.out]; rfl
                 have hF : Fr (fun k => k = b4) w8 (w8.setCell ⟨b4, 42, none⟩ (.slice (some ⟨b8, 0, none⟩) 2 2)) := Fr.setC (fun k => k = b4) w8 ⟨b4, 42, none⟩ _ rfl
                 have hz : Hid ((w8.setCell ⟨b4, 42, none⟩ (.slice (some ⟨b8, 0, none⟩) 2 2)).heap[b4]? = some (.cells (ObI.mk x.kd x.nm x.ver { x.o with h := x.o.h.rows x.o.h.M ⟨some ⟨b8, 0, none⟩, 2, 2, [polA, polB]⟩ x.o.h.down.P x.o.h.past }).cells.toArray 44 (0, 0))) := by rw [← hset]; exact row_setCell z8 _
                 have hz8 : b8 < w8.heap.size := by rw [← hw8, ← hb8]; simp
                 have hP : Hid (∀ w' : World, Below b4 w5 w' → (∀ k, b4 < k → k < (w8.setCell ⟨b4, 42, none⟩ (.slice (some ⟨b8, 0, none⟩) 2 2)).heap.size → w'.heap[k]? = (w8.setCell ⟨b4, 42, none⟩ (.slice (some ⟨b8, 0, none⟩) 2 2)).heap[k]?) → RowP w' ⟨some ⟨b8, 0, none⟩, 2, 2, [polA, polB]⟩) := fun w' _ h =>
                   slr_blk (hP8.frG hF (fun a e => by cases e; show ¬ b8 = b4; omega)) (h b8 (by omega) (by have := hF.size; omega))
                 have hU : Hid ((rowU x.o.h.up).Like ⟨some ⟨b8, 0, none⟩, 2, 2, [polA, polB]⟩) := by show RowV.Like _ _; unfold rowU; rw [HFu.out]; exact ⟨rfl, rfl⟩
                 have hBx : Hid (Below b4 w5 (w8.setCell ⟨b4, 42, none⟩ (.slice (some ⟨b8, 0, none⟩) 2 2))) := (hb7.out.trans (hB8.mono (by omega))).trans (hF.below (by have := hB8.size; omega) (fun k hk => by omega))
                 clear z8 hP8 hset hF hB8
                 go_wp2_with ((with_reducible refine at_slot 74 ?_); go_must (refine wpList_buildSlice rfl 37 2 [(0, _), (1, _)] rfl [(0, .agg polA.cells.toArray), (1, .agg polB.cells.toArray)] rfl _ _ (twoPol polA polB) ?_; rw [hw8, hb8]))
                 go_meet
                 case rel => exact ⟨_, hU, hz, hP, hBx⟩
             case rest =>
               obtain ⟨U, lU, hz9, HPU, hb9⟩ := hcut
               obtain ⟨w9, rfl⟩ : ∃ w9 : World, w9 = wc := ⟨_, rfl⟩
               have V9 := Lib.hid ((hb9.out.block N (by omega)).trans V5.out)
               have hs9 : b4 < w9.heap.size := (Array.getElem?_eq_some_iff.1 hz9.out).1
               have X9 := Lib.hid (HS.out.b (HNw.out _ (B5.out.trans (hb9.out.mono (by omega)))))
               have j45 := cellAt V9.out h45
               have j44 := cellAt V9.out h44
               clear j42 j41 j0 hz7 X7
               go_upto_region 15 with fail
               go_cut [90] from 78 to 89 (fun v wx => v = .bool (fillB x.o.h.down) ∧ w9 = wx)
               case first =>
                 cases ea : ((x.o.h.down.P.la : Int) == 0)
                 · have e : fillB x.o.h.down = false := by unfold fillB; rw [ea]; rfl
                   go_wp2_with fail
                   go_meet
                   case rel => exact ⟨by rw [e], rfl⟩
                 · obtain ⟨pq, hpq⟩ : ∃ q, (x.o.h.down.pick != 2) = q := ⟨_, rfl⟩
                   have e : fillB x.o.h.down = pq := by unfold fillB; rw [ea, hpq]; rfl
                   go_wp2_with fail
                   go_meet
                   case rel => exact ⟨by rw [e], rfl⟩
               case rest =>
                 obtain ⟨rfl, rfl⟩ := hcut
                 go_upto_if 90 with fail
                 obtain ⟨fd, hfd⟩ : ∃ q, fillB x.o.h.down = q := ⟨_, rfl⟩
                 rw [hfd]
                 have HFd := Lib.hid hfd
                 clear hfd
                 cases fd
                 · have hW : Hid (WantIs x (ObI.mk x.kd x.nm x.ver { x.o with h := x.o.h.rows x.o.h.M U x.o.h.down.P x.o.h.past })) := by
                     obtain ⟨a1, a2⟩ := def4 (r := x.o.rows) (T := x.o.h.past) (M := x.o.h.M) hk4.out (like_self _) ⟨rfl, rfl⟩ lU.out (show (rowD x.o.h.down).Like x.o.h.down.P by rw [rowD_no HFd.out]; exact ⟨rfl, rfl⟩) ⟨rfl, rfl⟩
                     exact ⟨_, by rw [← a1]; rfl, a2⟩
                   have hSz : Hid (ShapesAt w9 (ObI.mk x.kd x.nm x.ver { x.o with h := x.o.h.rows x.o.h.M U x.o.h.down.P x.o.h.past }).o) := ⟨X9.out.w, X9.out.p, X9.out.n, X9.out.g, ⟨X9.out.h.M, HPU.out w9 hb9.out (fun _ _ _ => rfl), X9.out.h.D, X9.out.h.P⟩⟩
                   go_wp2_with fail
                   go_meet
                   case rel => exact ⟨_, hW, hz9, hSz, hb9⟩
                 · obtain ⟨w8, hw8⟩ : ∃ q, w9.alloc (.cells polA.cells.toArray 49) = q := ⟨_, rfl⟩
                   obtain ⟨b8, hb8⟩ : ∃ q, w9.heap.size = q := ⟨_, rfl⟩
                   have hB8 : Below w9.heap.size w9 w8 := by rw [← hw8]; exact (Below.refl _ _).alloc (Nat.le_refl _) _
                   have z8 := (hB8.block b4 hs9).trans hz9.out
                   have m45 : w8.cell? ⟨b4, 45, none⟩ = some (.slice x.o.h.down.P.ao x.o.h.down.P.la x.o.h.down.P.ca) := cellAt z8 rfl
                   have f45 := row_free z8 45
                   have hP8 : SlR (Flat Policy.cells) 3 w8 (some ⟨b8, 0, none⟩) 1 1 [polA] := by
                     rw [← hw8, ← hb8]
                     exact SlR.of_new (f := Policy.cells) (sz := 3) w9 [polA] 49 _ 1 rfl (by unfold maxLen; omega) (fun _ => rfl) (by simp)
                   have hset : (ObI.mk x.kd x.nm x.ver { x.o with h := x.o.h.rows x.o.h.M U x.o.h.down.P x.o.h.past }).cells.toArray.setIfInBounds 45 (.slice (some ⟨b8, 0, none⟩) 1 1) = (ObI.mk x.kd x.nm x.ver { x.o with h := x.o.h.rows x.o.h.M U ⟨some ⟨b8, 0, none⟩, 1, 1, [polA]⟩ x.o.h.past }).cells.toArray := rfl
                   have hF : Fr (fun k => k = b4) w8 (w8.setCell ⟨b4, 45, none⟩ (.slice (some ⟨b8, 0, none⟩) 1 1)) := Fr.setC (fun k => k = b4) w8 ⟨b4, 45, none⟩ _ rfl
                   have hz : Hid ((w8.setCell ⟨b4, 45, none⟩ (.slice (some ⟨b8, 0, none⟩) 1 1)).heap[b4]? = some (.cells (ObI.mk x.kd x.nm x.ver { x.o with h := x.o.h.rows x.o.h.M U ⟨some ⟨b8, 0, none⟩, 1, 1, [polA]⟩ x.o.h.past }).cells.toArray 44 (0, 0))) := by rw [← hset]; exact row_setCell z8 _
                   have hBx : Below b4 w5 (w8.setCell ⟨b4, 45, none⟩ (.slice (some ⟨b8, 0, none⟩) 1 1)) := (hb9.out.trans (hB8.mono (by omega))).trans (hF.below (by have := hB8.size; omega) (fun k hk => by omega))
                   have hPd : RowP (w8.setCell ⟨b4, 45, none⟩ (.slice (some ⟨b8, 0, none⟩) 1 1)) ⟨some ⟨b8, 0, none⟩, 1, 1, [polA]⟩ := hP8.frG hF (fun a e => by cases e; show ¬ b8 = b4; omega)
                   have hXs := HS.out.b (HNw.out _ (B5.out.trans (hBx.mono (by omega))))
                   have hPu : RowP (w8.setCell ⟨b4, 45, none⟩ (.slice (some ⟨b8, 0, none⟩) 1 1)) U := HPU.out _ hBx (fun k h1 h2 => (hF.block k (by have := hB8.size; omega) (by omega)).trans (hB8.block k h2))
                   have hW : Hid (WantIs x (ObI.mk x.kd x.nm x.ver { x.o with h := x.o.h.rows x.o.h.M U ⟨some ⟨b8, 0, none⟩, 1, 1, [polA]⟩ x.o.h.past })) := by
                     obtain ⟨a1, a2⟩ := def4 (r := x.o.rows) (T := x.o.h.past) (M := x.o.h.M) (D := ⟨some ⟨b8, 0, none⟩, 1, 1, [polA]⟩) hk4.out (like_self _) ⟨rfl, rfl⟩ lU.out (show (rowD x.o.h.down).Like _ by unfold rowD; rw [HFd.out]; exact ⟨rfl, rfl⟩) ⟨rfl, rfl⟩
                     exact ⟨_, by rw [← a1]; rfl, a2⟩
                   have hSz : Hid (ShapesAt (w8.setCell ⟨b4, 45, none⟩ (.slice (some ⟨b8, 0, none⟩) 1 1)) (ObI.mk x.kd x.nm x.ver { x.o with h := x.o.h.rows x.o.h.M U ⟨some ⟨b8, 0, none⟩, 1, 1, [polA]⟩ x.o.h.past }).o) := ⟨hXs.w, hXs.p, hXs.n, hXs.g, ⟨hXs.h.M, hPu, hPd, hXs.h.P⟩⟩
                   have HBx := Lib.hid hBx
                   clear z8 hP8 hset hF hB8 hBx hPd hXs hPu
                   go_wp2_with ((with_reducible refine at_slot 92 ?_); go_must (refine wpList_buildSlice rfl 37 1 [(0, _)] rfl [(0, .agg polA.cells.toArray)] rfl _ _ (onePol polA) ?_; rw [hw8, hb8]))
                   go_meet
                   case rel => exact ⟨_, hW, hz, hSz, HBx⟩
       case rest =>
         obtain ⟨z, hzw, hz8, hzS, hb8⟩ := hcut
         obtain ⟨w8, rfl⟩ : ∃ w8 : World, w8 = wc := ⟨_, rfl⟩
         clear hz7 hb7 V7 j0 hs7
         have v8 := (hb8.out.block N (by omega)).trans V5.out
         have y8 := (hb8.out.block b3 (by omega)).trans Y5.out
         have yS8 : ShapesAt w8 y.o := YS.out.b (by rw [Hb4.out]; exact hb8.out)
         obtain ⟨rz, hze, hzl⟩ := hzw.out
         have Tz : objS x.kd x.nm x.ver z.o = objS x.kd x.nm x.ver (defV x.kd x.o) := by rw [hze]; exact like_text hzl
         have Ty : objS x.kd x.nm x.ver y.o = objS x.kd x.nm x.ver (defV x.kd x.o) := by rw [Hyo.out]; exact like_text HL.out
         obtain ⟨ry, hye, hyl2⟩ := HYw.out
         have e1 : y.kd = x.kd := by rw [hye]
         have e2 : y.nm = x.nm := by rw [hye]
         have e3 : y.ver = x.ver := by rw [hye]
         have g1 : z.kd = x.kd := by rw [hze]
         have g2 : z.nm = x.nm := by rw [hze]
         have g3 : z.ver = x.ver := by rw [hze]
         have hsz : (objS x.kd x.nm x.ver (defV x.kd x.o)).size ≤ 9223372036854775807 := big_text (big_def x.kd HBig.out)
         have hsm : ∀ W, Below w8.heap.size w8 W → Calls Try.prog 9 #[.agg y.cells.toArray, .agg z.cells.toArray] W fun e w' => e = .returned (.bool true) ∧ Below W.heap.size W w' := fun W hW =>
           same_ob y z W (by rw [e3]; exact HV.out) (yS8.b hW) (hzS.out.b hW) (by rw [e1, e2, e3, Ty]; exact hsz) (by rw [e1, g1]) (by rw [e2, g2]) (by rw [e3, g3]) (by rw [e1, e2, e3, Ty, Tz])
         have hidm : defV y.kd y.o = y.o := by rw [e1, Hyo.out]; exact def_idem HL.out
         have hdf : ∀ W, Below w8.heap.size w8 W → Calls Try.prog 8 #[.agg y.cells.toArray] W fun e w' => ∃ y2 : ObI, e = .returned (.agg y2.cells.toArray) ∧ y2.kd = y.kd ∧ y2.nm = y.nm ∧ y2.ver = y.ver ∧ objS y.kd y.nm y.ver y2.o = objS y.kd y.nm y.ver y.o ∧ ShapesAt w' y2.o ∧ Below W.heap.size W w' := fun W hW =>
           (default_any y W (yS8.b hW) (by rw [Hyo.out]; exact few_like (few_def (few_rows HF.out)) HL.out)).mono fun _ _ ⟨r2, q1, q2, q3, q4⟩ => ⟨_, q1, rfl, rfl, rfl, by rw [hidm] at q2 ⊢; exact like_text q2, q3, q4⟩
         have hsm2 : ∀ (y2 : ObI) (W : World), y2.kd = y.kd → y2.nm = y.nm → y2.ver = y.ver → objS y.kd y.nm y.ver y2.o = objS y.kd y.nm y.ver y.o → ShapesAt W y2.o → Below w8.heap.size w8 W → Calls Try.prog 9 #[.agg y2.cells.toArray, .agg y.cells.toArray] W fun e w' => e = .returned (.bool true) ∧ Below W.heap.size W w' := fun y2 W q1 q2 q3 q4 q5 hW =>
           same_ob y2 y W (by rw [q3, e3]; exact HV.out) q5 (yS8.b hW) (by rw [q1, q2, q3, q4, e1, e2, e3, Ty]; exact hsz) q1.symm q2.symm q3.symm (by rw [q1, q2, q3, q4])
         obtain ⟨zc, hzc⟩ : ∃ c, z.cells = c := ⟨_, rfl⟩
         have hzl47 : zc.length = 47 := by rw [← hzc]; rfl
         have Hzc := Lib.hid hzc
         rw [hzc] at hsm hz8
         rw [Hyc.out] at hsm hdf
         have hsm2' := hsm2
         simp only [Hyc.out] at hsm2'
         have HSm := Lib.hid hsm
         have HDf2 := Lib.hid hdf
         have HSm2 := Lib.hid hsm2'
         have HTz := Lib.hid Tz
         have Hsz := Lib.hid hsz
         have V8 := Lib.hid v8
         have Y8 := Lib.hid y8
         have YS8 := Lib.hid yS8
         have Hek := Lib.hid (And.intro e1 (And.intro e2 e3))
         have Hgk := Lib.hid (And.intro g1 (And.intro g2 g3))
         have cy8 := BW.cells (cellsAt y8)
         have cz8 := BW.cells (cellsAt hz8.out)
         have hs8 : b4 < w8.heap.size := (Array.getElem?_eq_some_iff.1 hz8.out).1
         have hmix : Try.prog.follows .mixedOrders = true := by kernel_rfl
         clear v8 y8 yS8 hze hzl Tz Ty hye hyl2 e1 e2 e3 g1 g2 g3 hsz hsm hidm hdf hsm2 hsm2' hzc
         go_upto_region 17 with fail
         refine region_later hmix ?_
         obtain ⟨wD, hwD⟩ : ∃ q : World, { w8 with drawn := w8.drawn + 1 } = q := ⟨_, rfl⟩
         have hbD : Below w8.heap.size w8 wD := by rw [← hwD]; exact ⟨rfl, rfl, rfl, Nat.le_refl _, fun _ _ => rfl⟩
         rw [hwD]
         have HbD := Lib.hid hbD
         refine later_phase (fun w' => ∃ p : BW w8, w' = p.w') [2] 2 0 3 30 (by kernel_rfl) (by kernel_rfl) ⟨⟨wD, hbD⟩, rfl⟩ ?_
         clear hwD hbD
         repeat (first | (refine wpVal_skipR rfl ?_) | (refine wpVal_takeR rfl ?_; first | (refine wpVal_loadG aggObI rfl _ rfl ⟨b3, 0, none⟩ rfl yc hyl (by rintro _ ⟨bw, rfl⟩; exact cy8 bw) (fun K hK => ?_); go_simp; refine hK _ ?_; clear hK K) | (refine wpVal_loadG aggObI rfl _ rfl ⟨b4, 0, none⟩ rfl zc hzl47 (by rintro _ ⟨bw, rfl⟩; exact cz8 bw) (fun K hK => ?_); go_simp; refine hK _ ?_; clear hK K)))
         refine wpVal_endR ?_
         refine wpLoud_callG rfl rfl 9 [.tmp 96, .tmp 97] _ rfl Try.func9 (by kernel_rfl) rfl [.agg yc.toArray, .agg zc.toArray] (by as_aux_lemma => kernel_rfl) ((HSm.out wD HbD.out).mono ?_)
         rintro e wa ⟨rfl, hba⟩
         refine ⟨_, rfl, fun h => absurd h (by decide), ?_⟩
         have HbA := Lib.hid (HbD.out.trans (hba.mono HbD.out.size))
         clear hba HbD
         refine wpLoud_nil ?_
         refine later_phase (fun w' => ∃ p : BW w8, w' = p.w') [6, 8] 8 3 9 30 (by kernel_rfl) (by kernel_rfl) ⟨⟨wa, HbA.out⟩, rfl⟩ ?_
         repeat (first | (refine wpVal_skipR rfl ?_) | (refine wpVal_takeR rfl ?_; first | (refine wpVal_loadG aggObI rfl _ rfl ⟨b3, 0, none⟩ rfl yc hyl (by rintro _ ⟨bw, rfl⟩; exact cy8 bw) (fun K hK => ?_); go_simp; refine hK _ ?_; clear hK K) | (refine wpVal_oneG rfl (fun K hK => ?_); refine ⟨_, fun w => by go_simp; rfl, ?_⟩; go_simp; refine hK _ ?_; clear hK K)))
         refine wpVal_endR ?_
         refine wpLoud_callG rfl rfl 8 [.tmp 101] _ rfl Try.func8 (by kernel_rfl) rfl [.agg yc.toArray] (by as_aux_lemma => kernel_rfl) ((HDf2.out wa HbA.out).mono ?_)
         rintro e wb ⟨y2, rfl, q1, q2, q3, q4, q5, hbb⟩
         have hbb8 := HbA.out.trans (hbb.mono HbA.out.size)
         refine ⟨_, rfl, fun _ => ⟨⟨wb, hbb8⟩, rfl⟩, ?_⟩
         have HSw := Lib.hid (HSm2.out y2 wb q1 q2 q3 q4 q5 hbb8)
         obtain ⟨y2c, hy2⟩ : ∃ c, y2.cells = c := ⟨_, rfl⟩
         rw [hy2] at HSw ⊢
         refine wpLoud_callG rfl rfl 9 [.tmp 102, .tmp 103] _ rfl Try.func9 (by kernel_rfl) rfl [.agg y2c.toArray, .agg yc.toArray] (by as_aux_lemma => kernel_rfl) (HSw.out.mono ?_)
         rintro e w9 ⟨rfl, hb9⟩
         refine ⟨_, rfl, fun h => absurd h (by decide), ?_⟩
         have Hb9 := Lib.hid (hbb8.trans (hb9.mono hbb8.size))
         clear hbb hbb8 hb9 HSw q1 q2 q3 q4 q5 hy2 HbA cy8 cz8 HSm HSm2 HDf2
         refine wpLoud_nil ?_
         refine later_phase (fun _ => True) [] 0 9 11 30 (by kernel_rfl) (by kernel_rfl) trivial ?_
         repeat (first | (refine wpVal_skipR rfl ?_) | (refine wpVal_takeR rfl ?_; refine wpVal_oneG rfl (fun K hK => ?_); refine ⟨_, fun w => by go_simp; rfl, ?_⟩; go_simp; refine hK _ ?_; clear hK K))
         refine wpVal_endR ?_
         refine wpLoud_nil ?_
         refine later_end 11 rfl ?_
         go_simp
         have V9 := Lib.hid ((Hb9.out.block N (by omega)).trans V8.out)
         have Y9 := Lib.hid ((Hb9.out.block b3 (by omega)).trans Y8.out)
         have Z9 := Lib.hid ((Hb9.out.block b4 hs8).trans hz8.out)
         have B9 := Lib.hid (Below.trans (B5.out.trans (hb8.out.mono (by omega))) (Hb9.out.mono (by omega)))
         have ZS9 := Lib.hid (hzS.out.b Hb9.out)
         have YS9 := Lib.hid (YS8.out.b Hb9.out)
         clear V8 Y8 hz8 hzS hb8 Hb9 YS8
         have c5n := BW.cell (cellAt V9.out h1)
         have c5v := BW.cell (cellAt V9.out h2)
         have cH := BW.cells (block_part V9.out (i := 35) (n := 12) x.o.h.cells12 (by rw [← Hxe.out]; rfl))
         have hhl : x.o.h.cells12.length = 12 := rfl
         obtain ⟨hc, hhc⟩ : ∃ c, x.o.h.cells12 = c := ⟨_, rfl⟩
         rw [hhc] at cH hhl
         have HSh : Hid (∀ W, Below w9.heap.size w9 W → Calls Try.prog 10 #[.agg hc.toArray] W fun e w' => ∃ M U D T, e = .returned (.agg (x.o.h.rows M U D T).cells12.toArray) ∧ Lk x.o.h M U D T ∧ H4 W.heap.size w' M U D T ∧ Below W.heap.size W w') := fun W hW => by
           have f := few_rows HF.out
           rw [← hhc]
           exact (shape_any x.o.h W (HS.out.b (HNw.out _ (B9.out.trans (hW.mono (by have := B9.out.size; omega))))).h f.hM f.hU f.hD f.hP).mono fun _ _ ⟨M, U, D, T, q1, q2, q3, q4, q5, q6, q7, q8, q9, q10⟩ => ⟨M, U, D, T, q1, ⟨q2, q3, q4, q5⟩, ⟨q6, q7, q8, q9⟩, q10⟩
         have Hhc := Lib.hid hhc
         have hs9 : b4 < w9.heap.size := (Array.getElem?_eq_some_iff.1 Z9.out).1
         clear hhc
         go_upto_region 19 with fail
         refine region_later hmix ?_
         obtain ⟨wD, hwD⟩ : ∃ q : World, { w9 with drawn := w9.drawn + 1 } = q := ⟨_, rfl⟩
         have hbD : Below w9.heap.size w9 wD := by rw [← hwD]; exact ⟨rfl, rfl, rfl, Nat.le_refl _, fun _ _ => rfl⟩
         rw [hwD]
         refine later_inv (fun w' => ∃ b : BW w9, w' = b.w') (fun d A w' => ∃ (v5 v113 v114 : Value) (k : Nat) (M : RowV Metric) (U D : RowV Policy) (T : RowV Scaled), A = ⟨#[.agg xc.toArray, .pointer (some ⟨N, 0, none⟩), u2, .pointer (some ⟨b3, 0, none⟩), .pointer (some ⟨b4, 0, none⟩), v5, .bool true, .bool false, .bool false, .agg xc.toArray, .bool true, .bool false, .bool false, undef, .agg xc.toArray, .agg yc.toArray, .agg xc.toArray, u17, u18, u19, u20, u21, u22, u23, u24, u25, u26, u27, .bool q5, u29, u30, u31, u32, u33, u34, u35, u36, u37, u38, u39, u40, u41, u42, u43, u44, u45, u46, u47, u48, u49, u50, u51, u52, u53, u54, u55, .pointer (some ⟨N, 0, none⟩), .int .i64 x.kd, .bool q58, u59, u60, u61, u62, u63, u64, u65, u66, u67, u68, u69, u70, u71, u72, u73, u74, u75, u76, u77, u78, u79, u80, u81, u82, u83, u84, u85, u86, u87, u88, u89, u90, u91, u92, u93, u94, u95, .agg yc.toArray, .agg zc.toArray, .bool true, .bool false, .bool false, .agg yc.toArray, .agg y2c.toArray, .agg yc.toArray, .bool true, .bool false, .bool false, .pointer (some ⟨N, 1, none⟩), .string x.nm, .pointer (some ⟨N, 2, none⟩), .int .u64 x.ver, .pointer (some ⟨N, 35, none⟩), .agg hc.toArray, v113, v114, undef, undef, undef, undef, undef, undef, undef, undef, undef, undef, undef, undef, undef, undef, undef, undef, undef], []⟩ ∧
             (d 6 = true → v113 = .agg (x.o.h.rows M U D T).cells12.toArray ∧ Lk x.o.h M U D T ∧ H4 w9.heap.size w' M U D T ∧ (d 8 = true → Av k M U D T)) ∧ (d 7 = true → d 6 = true ∧ v114 = .agg (shO x M U D T).cells.toArray) ∧
             (d 8 = true → v5 = .pointer (some ⟨k, 0, none⟩) ∧ w9.heap.size ≤ k ∧ w'.heap[k]? = some (.cells (if d 9 = true then (shO x M U D T).cells.toArray else zeroOb) 44 (0, 0))) ∧ (d 9 = true → d 7 = true ∧ d 8 = true)) [6, 7, 8, 9] 0 10 30 (by kernel_rfl) (by kernel_rfl) ⟨⟨wD, hbD⟩, rfl⟩ ?_ ?_ ?_
         · intro i o ho hi d A w' hI hdi hdep hC
           obtain ⟨v5, v113, v114, k, M, U, D, T, rfl, h6, h7, h8, h9⟩ := hI
           obtain ⟨bw, rfl⟩ := hC
           simp only [List.mem_cons, List.not_mem_nil, or_false] at hi
           rcases hi with rfl | rfl | rfl | rfl
           · obtain rfl := Option.some.inj ho
             have n7 : d 7 = false := by cases e : d 7; rfl; exact absurd (h7 e).1 (by rw [hdi]; decide)
             have n9 : d 9 = false := by cases e : d 9; rfl; exact absurd (h9 e).1 (by rw [n7]; decide)
             refine upon_callQ 10 [.tmp 112] _ rfl Try.func10 (by kernel_rfl) rfl [.agg hc.toArray] (by as_aux_lemma => kernel_rfl) ((HSh.out _ bw.h).mono ?_)
             rintro e w'' ⟨M', U', D', T', rfl, q1, q2, q3⟩
             refine ⟨_, rfl, ⟨⟨w'', bw.h.trans (q3.mono bw.h.size)⟩, rfl⟩, v5, _, v114, k, M', U', D', T', rfl, fun _ => ⟨rfl, q1, q2.mono bw.h.size, fun e8 => ?_⟩, fun e7 => ?_, fun e8 => ?_, fun e9 => ?_⟩
             · obtain ⟨_, _, r⟩ := h8 (by simpa using e8)
               exact q2.lo (Array.getElem?_eq_some_iff.1 r).1
             · exact absurd (show d 7 = true by simpa using e7) (by rw [n7]; decide)
             · obtain ⟨a1, a2, r⟩ := h8 (by simpa using e8)
               refine ⟨a1, a2, (q3.block k (Array.getElem?_eq_some_iff.1 r).1).trans ?_⟩
               rw [r, n9]
               simp [n9]
             · exact absurd (show d 9 = true by simpa using e9) (by rw [n9]; decide)
           · obtain rfl := Option.some.inj ho
             have d6 := hdep 6 rfl (by kernel_rfl)
             obtain ⟨rfl, q1, q2, q3⟩ := h6 d6
             have n9 : d 9 = false := by cases e : d 9; rfl; exact absurd (h9 e).1 (by rw [hdi]; decide)
             refine upon_build 44 [(0, .const (.int .i64 4)), (1, .tmp 108), (2, .tmp 110), (7, .tmp 113)] rfl [(0, .int .i64 4), (1, .string x.nm), (2, .int .u64 x.ver), (7, .agg (x.o.h.rows M U D T).cells12.toArray)] (by as_aux_lemma => kernel_rfl) _ (buildShO x M U D T _) ?_
             refine ⟨⟨bw, rfl⟩, v5, _, _, k, M, U, D, T, rfl, fun _ => ⟨rfl, q1, q2, fun e8 => q3 (by simpa using e8)⟩, fun _ => ⟨by simpa using d6, rfl⟩, fun e8 => ?_, fun e9 => ?_⟩
             · obtain ⟨a1, a2, r⟩ := h8 (by simpa using e8)
               refine ⟨a1, a2, ?_⟩
               rw [r, n9]
               simp [n9]
             · exact absurd (show d 9 = true by simpa using e9) (by rw [n9]; decide)
           · obtain rfl := Option.some.inj ho
             have n9 : d 9 = false := by cases e : d 9; rfl; exact absurd (h9 e).2 (by rw [hdi]; decide)
             refine upon_new (z := zeroOb) (T := 44) (newOb _ _ rfl) ?_
             refine ⟨⟨⟨_, bw.h.alloc bw.h.size _⟩, rfl⟩, _, v113, v114, bw.w'.heap.size, M, U, D, T, rfl, fun e6 => ?_, fun e7 => ?_, fun _ => ⟨rfl, bw.h.size, ?_⟩, fun e9 => ?_⟩
             · obtain ⟨a1, a2, a3, _⟩ := h6 (by simpa using e6)
               exact ⟨a1, a2, a3.below ((Below.refl _ _).alloc (Nat.le_refl _) _), fun _ => a3.hi⟩
             · obtain ⟨a1, a2⟩ := h7 (by simpa using e7)
               exact ⟨by simpa using a1, a2⟩
             · rw [heap_alloc_new]
               simp [n9]
             · exact absurd (show d 9 = true by simpa using e9) (by rw [n9]; decide)
           · obtain rfl := Option.some.inj ho
             have d7 := hdep 7 rfl (by kernel_rfl)
             have d8 := hdep 8 rfl (by kernel_rfl)
             obtain ⟨d6, rfl⟩ := h7 d7
             obtain ⟨rfl, a2, r⟩ := h8 d8
             obtain ⟨b1, b2, b3', b4'⟩ := h6 d6
             rw [hdi, if_neg (by decide)] at r
             have hav := b4' d8
             have hfr : Fr (fun q => q = k) bw.w' (bw.w'.setRow k (shO x M U D T).cells.toArray) := Fr.setRow (fun q => q = k) _ k _ rfl
             refine upon_put aggObI (.tmp 5) (.tmp 114) rfl k (shO x M U D T).cells rfl (List.all_eq_true.1 (shO x M U D T).one) zeroOb rfl r rfl rfl ?_
             refine ⟨⟨⟨_, bw.h.trans (hfr.below bw.h.size (fun q hq => by omega))⟩, rfl⟩, _, v113, _, k, M, U, D, T, rfl, fun _ => ⟨b1, b2, b3'.put hav hfr, fun _ => hav⟩, fun _ => ⟨by simpa using d6, rfl⟩, fun _ => ⟨rfl, a2, ?_⟩, fun _ => ⟨by simpa using d7, by simpa using d8⟩⟩
             rw [setRow_heap r]
             simp
         · rintro A w' ⟨bw, rfl⟩ ⟨d, ⟨v5, v113, v114, k, M, U, D, T, rfl, h6, h7, h8, h9⟩, hall⟩
           obtain ⟨rfl, q1, q2, q3⟩ := h6 (hall 6 (by decide))
           obtain ⟨_, rfl⟩ := h7 (hall 7 (by decide))
           obtain ⟨rfl, a2, r⟩ := h8 (hall 8 (by decide))
           rw [hall 9 (by decide), if_pos rfl] at r
           obtain ⟨w10, hb10⟩ := bw
           dsimp only at r q2 ⊢
           refine later_end 10 rfl ?_
           have hSx := q2.shapes x
           have hTx := fun ver nm => q1.text (x := x) ver nm
           obtain ⟨sx, hsx⟩ : ∃ s, shO x M U D T = s := ⟨_, rfl⟩
           have s1 : sx.kd = 4 := by rw [← hsx]; rfl
           have s2 : sx.nm = x.nm := by rw [← hsx]; rfl
           have s3 : sx.ver = x.ver := by rw [← hsx]; rfl
           rw [hsx] at r hSx hTx ⊢
           obtain ⟨sc, hsc⟩ : ∃ c, sx.cells = c := ⟨_, rfl⟩
           have hscl : sc.length = 47 := by rw [← hsc]; rfl
           rw [hsc] at r ⊢
           have v10 := (hb10.block N (by omega)).trans V9.out
           have y10 := (hb10.block b3 (by omega)).trans Y9.out
           have z10 := (hb10.block b4 hs9).trans Z9.out
           have yS10 := YS9.out.b hb10
           have zS10 := ZS9.out.b hb10
           have xS10 := HS.out.b (HNw.out _ (B9.out.trans (hb10.mono (by omega))))
           have B10 := Lib.hid (B9.out.trans (hb10.mono (by omega)))
           have j0 := cellAt v10 h0
           have cS := cellsAt r
           have cZ := cellsAt z10
           have hz10 : N < w10.heap.size := (Array.getElem?_eq_some_iff.1 v10).1
           have hsm3 : x.kd = 4 → Calls Try.prog 9 #[.agg sx.cells.toArray, .agg z.cells.toArray] w10 fun e w' => e = .returned (.bool true) ∧ Below w10.heap.size w10 w' := fun h4 => by
             obtain ⟨g1, g2, g3⟩ := Hgk.out
             have t1 := hTx x.ver x.nm
             have t2 := HTz.out
             have t3 := Hsz.out
             rw [h4] at t2 t3
             exact same_ob sx z w10 (by rw [s3]; exact HV.out) hSx zS10 (by rw [s1, s2, s3, t1]; exact t3) (by rw [s1, g1, h4]) (by rw [s2, g2]) (by rw [s3, g3]) (by rw [s1, s2, s3, t1, t2])
           rw [hsc, Hzc.out] at hsm3
           have HSm3 := Lib.hid hsm3
           have V10 := Lib.hid v10
           have Y10 := Lib.hid y10
           have YS10 := Lib.hid yS10
           have XS10 := Lib.hid xS10
           have hck : checkOf x.kd x.nm x.o = 0 → checkOf y.kd y.nm y.o = 0 := fun h => by
             obtain ⟨e1, e2, _⟩ := Hek.out
             rw [e1, e2, Hyo.out, like_check HL.out]
             exact def_check h
           have Hck := Lib.hid hck
           clear q1 q2 q3 h6 h7 h8 h9 hall hTx hSx hsx hsc s1 s2 s3 v10 y10 z10 yS10 zS10 xS10 hb10 r hsm3 hck c5n c5v cH HSh hbD hwD a2
           go_simp
           by_cases hk4 : x.kd = 4
           · have HSm4 := Lib.hid (HSm3.out hk4)
             rw [hk4] at j0
             clear HSm3
             go_wp2_with (first
               | ((with_reducible refine at_slot 119 ?_); go_must (refine wpList_load_gd aggObI rfl _ rfl ⟨k, 0, none⟩ rfl sc hscl cS ?_))
               | ((with_reducible refine at_slot 120 ?_); go_must (refine wpList_load_gd aggObI rfl _ rfl ⟨b4, 0, none⟩ rfl zc hzl47 cZ ?_)))
             refine HSm4.out.mono ?_
             rintro e w11 ⟨rfl, hb11⟩
             have V11 := Lib.hid ((hb11.block N hz10).trans V10.out)
             have Y11 := Lib.hid ((hb11.block b3 (Array.getElem?_eq_some_iff.1 Y10.out).1).trans Y10.out)
             have B11 := Lib.hid (B10.out.trans (hb11.mono (by omega)))
             have XS11 := Lib.hid (XS10.out.b hb11)
             have YS11 := Lib.hid (YS10.out.b hb11)
             clear hb11 HSm4 j0 cS cZ
             have cX11 := cellsAt V11.out
             have cY11 := cellsAt Y11.out
             have hcx := check_ob x w11 XS11.out
             have hcy := fun (W : World) (hW : Below w11.heap.size w11 W) => check_ob y W (YS11.out.b hW)
             rw [Hxe.out] at hcx
             rw [Hyc.out] at hcy
             obtain ⟨cx, hcxe⟩ : ∃ c, checkOf x.kd x.nm x.o = c := ⟨_, rfl⟩
             rw [hcxe] at hcx
             have HCx := Lib.hid hcx
             have HCy := Lib.hid hcy
             have Hcxe := Lib.hid hcxe
             clear hcx hcy hcxe
             have hz11 : N < w11.heap.size := (Array.getElem?_eq_some_iff.1 V11.out).1
             go_wp2_with ((with_reducible refine at_slot 124 ?_); go_must (refine wpList_load_at aggObI rfl _ rfl ⟨N, 0, none⟩ rfl xc hxl cX11 ?_))
             refine HCx.out.mono ?_
             rintro e w12 ⟨rfl, hb12⟩
             by_cases hc0 : cx = 0
             · have Y12 := Lib.hid ((hb12.block b3 (Array.getElem?_eq_some_iff.1 Y11.out).1).trans Y11.out)
               have cY12 := cellsAt Y12.out
               have HCz := Lib.hid (HCy.out w12 hb12)
               have hy0 := Hck.out (Hcxe.out.trans hc0)
               rw [hy0] at HCz
               subst hc0
               have B12 := Lib.hid (B11.out.trans (hb12.mono (by omega)))
               have hz12 : N < w12.heap.size := Nat.lt_of_lt_of_le hz11 hb12.size
               clear hb12 HCx HCy hy0 cX11 cY11
               go_wp2_with ((with_reducible refine at_slot 128 ?_); go_must (refine wpList_load_gd aggObI rfl _ rfl ⟨b3, 0, none⟩ rfl yc hyl cY12 ?_))
               refine HCz.out.mono ?_
               rintro e w13 ⟨rfl, hb13⟩
               have HE := Lib.hid (HNw.out _ (B12.out.trans (hb13.mono (by omega))))
               clear hb13 HCz
               go_wp2_with fail
               go_ret
               exact ⟨rfl, by rw [← hN]; exact HE.out⟩
             · have hne : (cx != 0) = true := by simpa using hc0
               have HE := Lib.hid (HNw.out _ (B11.out.trans (hb12.mono (by omega))))
               clear hb12 HCx HCy hc0 cX11 cY11
               go_wp2_with fail
               go_ret
               exact ⟨rfl, by rw [← hN]; exact HE.out⟩
           · have e4 : (x.kd == 4) = false := beq_eq_false_iff_ne.2 hk4
             obtain ⟨w11, rfl⟩ : ∃ w11 : World, w11 = w10 := ⟨_, rfl⟩
             have V11 := V10
             have Y11 := Y10
             have B11 := B10
             have XS11 := XS10
             have YS11 := YS10
             clear HSm3 cS cZ
             have cX11 := cellsAt V11.out
             have cY11 := cellsAt Y11.out
             have hcx := check_ob x w11 XS11.out
             have hcy := fun (W : World) (hW : Below w11.heap.size w11 W) => check_ob y W (YS11.out.b hW)
             rw [Hxe.out] at hcx
             rw [Hyc.out] at hcy
             obtain ⟨cx, hcxe⟩ : ∃ c, checkOf x.kd x.nm x.o = c := ⟨_, rfl⟩
             rw [hcxe] at hcx
             have HCx := Lib.hid hcx
             have HCy := Lib.hid hcy
             have Hcxe := Lib.hid hcxe
             clear hcx hcy hcxe
             have hz11 : N < w11.heap.size := (Array.getElem?_eq_some_iff.1 V11.out).1
             go_wp2_with ((with_reducible refine at_slot 124 ?_); go_must (refine wpList_load_at aggObI rfl _ rfl ⟨N, 0, none⟩ rfl xc hxl cX11 ?_))
             refine HCx.out.mono ?_
             rintro e w12 ⟨rfl, hb12⟩
             by_cases hc0 : cx = 0
             · have Y12 := Lib.hid ((hb12.block b3 (Array.getElem?_eq_some_iff.1 Y11.out).1).trans Y11.out)
               have cY12 := cellsAt Y12.out
               have HCz := Lib.hid (HCy.out w12 hb12)
               have hy0 := Hck.out (Hcxe.out.trans hc0)
               rw [hy0] at HCz
               subst hc0
               have B12 := Lib.hid (B11.out.trans (hb12.mono (by omega)))
               have hz12 : N < w12.heap.size := Nat.lt_of_lt_of_le hz11 hb12.size
               clear hb12 HCx HCy hy0 cX11 cY11
               go_wp2_with ((with_reducible refine at_slot 128 ?_); go_must (refine wpList_load_gd aggObI rfl _ rfl ⟨b3, 0, none⟩ rfl yc hyl cY12 ?_))
               refine HCz.out.mono ?_
               rintro e w13 ⟨rfl, hb13⟩
               have HE := Lib.hid (HNw.out _ (B12.out.trans (hb13.mono (by omega))))
               clear hb13 HCz
               go_wp2_with fail
               go_ret
               exact ⟨rfl, by rw [← hN]; exact HE.out⟩
             · have hne : (cx != 0) = true := by simpa using hc0
               have HE := Lib.hid (HNw.out _ (B11.out.trans (hb12.mono (by omega))))
               clear hb12 HCx HCy hc0 cX11 cY11
               go_wp2_with fail
               go_ret
               exact ⟨rfl, by rw [← hN]; exact HE.out⟩
         · repeat (first | (refine wpVal_skipR rfl ?_) | (refine wpVal_takeR rfl ?_; first | (refine wpVal_loadG aggHpa12 rfl _ rfl ⟨N, 35, none⟩ rfl hc hhl (by rintro _ ⟨bw, rfl⟩; exact cH bw) (fun K hK => ?_); go_simp; refine hK _ ?_; clear hK K) | (refine wpVal_mem rfl rfl (fun K hK => ?_); refine ⟨_, by rintro _ ⟨bw, rfl⟩; have hq := c5n bw; have hq2 := c5v bw; go_simp; rfl, ?_⟩; go_simp; refine hK _ ?_; clear hK K) | (refine wpVal_oneK rfl (fun K hK => ?_); refine ⟨_, fun w => by go_simp; rfl, ?_⟩; go_simp; refine hK _ ?_; clear hK K)))
           refine wpVal_endR ?_
           exact ⟨undef, undef, undef, 0, ⟨none, 0, 0, []⟩, ⟨none, 0, 0, []⟩, ⟨none, 0, 0, []⟩, ⟨none, 0, 0, []⟩, rfl, (fun h => by cases h), (fun h => by cases h), (fun h => by cases h), (fun h => by cases h)⟩
theorem ValidDefaults_holds : Rows.ValidDefaultsSaid := lValidDefaults.over fun c0 w h0 b0 => by
  obtain ⟨kd, nm, ver, o, e0, hS, _⟩ := obj_of_rel h0
  have e1 : c0 = (ObI.mk kd nm ver o).cells.toArray := by
    apply Array.ext'
    exact e0
  subst e1
  exact validDefaults_core ⟨kd, nm, ver, o⟩ w hS b0 (reach_of b0) (ver_of h0)
end Go.Proofs.Ytpbppgfogepjeaa
