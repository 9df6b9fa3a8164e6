/- The contract of chapter 35's plan by definition. Condition: the objects read, at most 1000; rules that may be, a workload of few replicas. -/
import Derived.Test.YtpbppgfogepjeaaRolLawM
import Derived.Test.YtpbppgfogepjeaaRolPlan2
import Derived.Test.YtpbppgfogepjeaaRolFresh2
namespace Go.Proofs.Ytpbppgfogepjeaa
open Go.ChangeShapes Go.WideShapes Go.ChangeAt Go.RowKit Go.Deep

theorem OwnOb.lit {w : World} {B : Nat} {ao : Option Addr} {n cap : Nat} {xs : List ObI} (h : OwnOb w B (.slice ao n cap) xs) (hn : xs.length = n) : ∀ a, ao = some a → ∃ g, a = ⟨g, 0, none⟩ := by
  unfold OwnOb at h
  rw [hn] at h
  exact owns_lit h
theorem own_built {W : World} {B : Nat} {oc : List Value} (hl : oc.length = 47) (hB : B ≤ W.heap.size) : (W.alloc (.cells oc.toArray 44)).ownsRow B 44 47 (.slice (some ⟨W.heap.size, 0, none⟩) 1 1) 1 oc :=
  ⟨by simpa using hl, .inr ⟨_, 1, oc.toArray, rfl, hB, heap_alloc_new _ _, Nat.le_refl _, by decide, by simpa using hl, by simp [← hl]⟩⟩

structure LwSt (w0 w : World) (b : Nat) (c : Int) (v : Value) (ns : List ByteArray) : Prop where
  row : w.heap[b]? = some (.cells #[.int .i64 c, v, .bool false] 70 (0, 0))
  own : OwnN w w0.heap.size v ns
  fr : Fr (fun k => k = b) w0 w
section
variable {w0 w w' : World} {bb : Nat} {c : Int} {v : Value} {ns : List ByteArray}
theorem LwSt.lt (h : LwSt w0 w bb c v ns) : bb < w.heap.size := (Array.getElem?_eq_some_iff.1 h.row).1
theorem LwSt.b (h : LwSt w0 w bb c v ns) (hb : Below w.heap.size w w') : LwSt w0 w' bb c v ns :=
  ⟨(hb.block bb h.lt).trans h.row, owns_fr (Fr.of_below hb (fun _ => False)) h.own (fun _ _ h => h), h.fr.then hb⟩
theorem LwSt.shape (h : LwSt w0 w bb c v ns) : ∃ va vcap, v = .slice va ns.length vcap := by
  rcases h.own.2 with ⟨rfl, h0⟩ | ⟨g, cap, cur, rfl, _⟩
  · exact ⟨none, 0, by rw [h0]⟩
  · exact ⟨some ⟨g, 0, none⟩, cap, rfl⟩
variable {va : Option Addr} {vcap g' cap' : Nat} {x : ByteArray}
theorem LwSt.mid (h : LwSt w0 w bb c (.slice va ns.length vcap) ns) (hb : bb < w0.heap.size) (hg : (w.alloc (.cells #[.string x] 9)).grownBy w' (Value.slice va ns.length vcap).ownBlock) :
    w'.heap[bb]? = some (.cells #[.int .i64 c, .slice va ns.length vcap, .bool false] 70 (0, 0)) := by
  refine (hg.block bb (by have := h.lt; simp; omega) (fun e => ?_)).trans ((Below.heap_alloc _ _ _ h.lt).trans h.row)
  have := (World.ownsRow.lt h.own bb e.symm).1
  omega
theorem LwSt.more (h : LwSt w0 w bb c (.slice va ns.length vcap) ns) (hb : bb < w0.heap.size)
    (ho : w'.ownsRow w0.heap.size 9 1 (.slice (some ⟨g', 0, none⟩) (ns.length + 1) cap') (ns.length + 1) (ns.flatMap cN ++ (#[Value.string x]).toList)) (hg : (w.alloc (.cells #[.string x] 9)).grownBy w' (Value.slice va ns.length vcap).ownBlock) :
    LwSt w0 (w'.setCell ⟨bb, 1, none⟩ (.slice (some ⟨g', 0, none⟩) (ns.length + 1) cap')) bb c (.slice (some ⟨g', 0, none⟩) (ns.length + 1) cap') (ns ++ [x]) := by
  have hf := Fr.grown (S := fun k => (Value.slice va ns.length vcap).ownBlock = some k) hg (fun k hk => hk)
  have hf2 : Fr (fun k => k = bb) w' (w'.setCell ⟨bb, 1, none⟩ (.slice (some ⟨g', 0, none⟩) (ns.length + 1) cap')) := Fr.setC (fun k => k = bb) w' ⟨bb, 1, none⟩ _ rfl
  refine ⟨row_setCell (h.mid hb hg) _, owns_fr hf2 (OwnN.first ho) (fun k hk e => ?_), ((h.fr.alloc _).trans hf (fun i hi => .inr (World.ownsRow.lt h.own _ hi).1)).trans hf2 (fun i hi => .inl hi)⟩
  have := (World.ownsRow.lt ho k hk).1
  omega
theorem LwSt.keep (hg : (w.alloc (.cells #[.string x] 9)).grownBy w' (Value.slice va ns.length vcap).ownBlock) {p : Addr} {u z : Value} (hu : w.cell? p = some u) (hp : p.block ≠ bb) (hv : ∀ k, (Value.slice va ns.length vcap).ownBlock = some k → k ≠ p.block) :
    (w'.setCell ⟨bb, 1, none⟩ z).cell? p = some u := by
  have h1 := hg.cell (Below.cell_some ((Below.refl _ _).alloc (Nat.le_refl _) _) hu) (fun e => hv _ e.symm rfl)
  exact (Fr.setC (fun k => k = bb) w' ⟨bb, 1, none⟩ z rfl).cell h1 hp
end
theorem stepL_val (x : ObI) (rep s a : Int) (ys : List ObI) (od nw rd rn c1 c2 c3 mu sp : Int) (st : Int × List ByteArray) (st2 : Int × Int × List ByteArray) (h1 : c1 = rep - nw) (h2 : c2 = if rep + s - od - nw < c1 then rep + s - od - nw else c1) (h3 : c3 = if c2 < 0 then 0 else c2) (h4 : mu = if rep - a < 0 then 0 else rep - a) (h5 : sp = rd - mu)
    (h6 : ys.foldl (oStep (pvI x)) (sp, []) = st) (h7 : ys.foldl (nStep (pvI x)) (nw - rep, st.1, st.2) = st2) : stepL (pvI x) rep s a ys od nw rd rn = ⟨c3, st2.2.2, (od == 0) && (nw == rep) && (rn == rep)⟩ := by
  subst h1 h2 h3 h4 h5
  unfold stepL
  dsimp only
  rw [h6, h7]

set_option maxRecDepth 100000 in
set_option maxHeartbeats 4000000 in
theorem plan35_any (s a : Int) (x : ObI) (l : List ObI) (ao : Option Addr) (n cap : Nat) (w : World) (hx : ObAt w x) (hS : SlR (Flat ObI.cells) 47 w ao n cap l) (hA : ∀ y ∈ l, ObAt w y) (hn : n ≤ 1000) (hsa : 0 ≤ s ∧ s ≤ 1000 ∧ 0 ≤ a ∧ a ≤ 1000) (hrep : 0 ≤ x.o.w.rep ∧ x.o.w.rep ≤ 1000000) :
    Calls Try.prog 24 #[.agg #[.int .i64 s, .int .i64 a], .agg x.cells.toArray, .slice ao n cap] w fun e w' => ∃ S bo bc, S = stepL (pvI x) x.o.w.rep s a (insL (liveI x l) []) ((liveI x l).filter fun y => !freshB x y).length ((liveI x l).filter fun y => freshB x y).length (rdy (pvI x) (liveI x l)) (rdy (pvI x) ((liveI x l).filter fun y => freshB x y)) ∧
      e = .returned (.agg #[.int .i64 S.create, .slice bo S.names.length bc, .bool S.done]) ∧ SlR (Flat cN) 1 w' bo S.names.length bc S.names ∧ Below w.heap.size w w' := by
  have h1 := x.h1
  have h3 := x.h3
  have hcm := hS.hmax
  have hlc := hS.hcap
  unfold maxLen at hcm
  have hFr : ∀ (W : World) (y : ObI), Below w.heap.size w W → ObAt w y → Calls Try.prog 26 #[.agg x.cells.toArray, .agg y.cells.toArray] W fun e w' => e = .returned (.bool (freshB x y)) ∧ Below W.heap.size W w' :=
    fun W y hb hy => fresh_any x y W (hx.b hb) (hy.b hb)
  obtain ⟨xc, hxe⟩ : ∃ c, x.cells = c := ⟨_, rfl⟩
  have hxl : xc.length = 47 := by rw [← hxe]; rfl
  rw [hxe] at h1 h3 hFr ⊢
  obtain ⟨rep, hre⟩ : ∃ r, x.o.w.rep = r := ⟨_, rfl⟩
  obtain ⟨xn, hxn⟩ : ∃ r, x.nm = r := ⟨_, rfl⟩
  rw [hre] at h3 hrep ⊢
  rw [hxn] at h1
  have Hxn := Lib.hid hxn
  have HFr := Lib.hid hFr
  have HS := Lib.hid hS
  have HA := Lib.hid hA
  clear hxe hre hxn hFr hS hA hx
  have hP := PlAt.new w s a xc
  obtain ⟨W, hW⟩ : ∃ W, (((w.alloc (.cells #[.int .i64 s, .int .i64 a] 67)).alloc (.cells xc.toArray 44)).alloc (.cells #[.int .i64 0, .slice none 0 0, .bool false] 70)) = W := ⟨_, rfl⟩
  rw [hW] at hP
  have hzW : W.heap.size = w.heap.size + 3 := by rw [← hW]; simp
  obtain ⟨w1, hw1⟩ : ∃ q, W.alloc (.cells #[.int .i64 0, .slice none 0 0, .bool false] 70) = q := ⟨_, rfl⟩
  have hb1 : Below W.heap.size W w1 := by rw [← hw1]; exact (Below.refl _ _).alloc (Nat.le_refl _) _
  have hO1 : w1.heap[W.heap.size]? = some (.cells #[.int .i64 0, .slice none 0 0, .bool false] 70 (0, 0)) := by rw [← hw1]; exact heap_alloc_new _ _
  have hz1 : w1.heap.size = W.heap.size + 1 := by rw [← hw1]; simp
  have hP1 := hP.b (by omega) hb1
  have HB1 := Lib.hid hP1.below
  obtain ⟨N, hN⟩ : ∃ N, w.heap.size = N := ⟨_, rfl⟩
  rw [hN] at hP1 hzW
  rw [hzW] at hz1 hO1
  have HP1 := Lib.hid hP1
  have HO1 := Lib.hid hO1
  have x1 : w1.cell? ⟨N + 1, 1, none⟩ = some (.string xn) := hP1.x 1 _ h1
  have x3 : w1.cell? ⟨N + 1, 3, none⟩ = some (.int .i64 rep) := hP1.x 3 _ h3
  have HNw : Hid (∀ W, Below N w W → Below w.heap.size w W) := fun W h => by rw [hN]; exact h
  have hzw : w.heap.size ≤ w1.heap.size := by omega
  rw [hN]
  clear hP hP1 hb1 hO1
  go_enter Try.func24, Try.ntmps24
  go_upto_block 0 with fail
  go_cut [8, 10, 11, 12, 13] from 30 to 95 (fun v8 v10 v11 v12 v13 wx => ∃ q : PS, v10 = .int .i64 q.old ∧ v11 = .int .i64 q.now ∧ v12 = .int .i64 q.ready ∧ v13 = .int .i64 q.rnew ∧
      Hid (q.old ≤ n ∧ q.now ≤ n ∧ q.ready ≤ n ∧ q.rnew ≤ n ∧ q.ord.length ≤ n) ∧ Hid (l.foldl (PS.step x) ps0 = q) ∧ Hid (OwnOb wx w1.heap.size v8 q.ord) ∧ Hid (∀ y ∈ q.ord, y ∈ l) ∧ Hid (Below w1.heap.size w1 wx))
  case rest =>
   obtain ⟨q, rfl, rfl, rfl, rfl, hbd, hst, ho, hmem, hb⟩ := hcut
   obtain ⟨w2, rfl⟩ : ∃ w2 : World, w2 = wc := ⟨_, rfl⟩
   have hq1 : q.old ≤ 1000 ∧ q.now ≤ 1000 ∧ q.ready ≤ 1000 ∧ q.rnew ≤ 1000 ∧ q.ord.length ≤ 1000 := by have := hbd.out; omega
   obtain ⟨oa, oc, hoe, hSo, hoB⟩ := ho.out.reads
   subst hoe
   have HP2 := Lib.hid (HP1.out.b (by omega) hb.out)
   have hO2 := (hb.out.block (N + 3) (by omega)).trans HO1.out
   have HBw2 := Lib.hid (HB1.out.trans (hb.out.mono hzw))
   have hz2 : w1.heap.size ≤ w2.heap.size := hb.out.size
   obtain ⟨od, hod⟩ : ∃ z, q.old = z := ⟨_, rfl⟩
   obtain ⟨nw, hnw⟩ : ∃ z, q.now = z := ⟨_, rfl⟩
   obtain ⟨rd, hrd⟩ : ∃ z, q.ready = z := ⟨_, rfl⟩
   obtain ⟨rn, hrn⟩ : ∃ z, q.rnew = z := ⟨_, rfl⟩
   obtain ⟨m, hm⟩ : ∃ z, q.ord.length = z := ⟨_, rfl⟩
   rw [hod, hnw, hrd, hrn, hm] at hq1
   rw [hod, hnw, hrd, hrn, hm]
   rw [hm] at hSo
   have Hod := Lib.hid hod
   have Hnw := Lib.hid hnw
   have Hrd := Lib.hid hrd
   have Hrn := Lib.hid hrn
   have Hm := Lib.hid hm
   have HS2 := Lib.hid hSo
   have hso1 := hSo.hmax
   have hso2 := hSo.hcap
   unfold maxLen at hso1
   have HoB : Hid (∀ A, oa = some A → ¬ A.block = N + 3) := fun A e h => by have := hoB A e; omega
   have r0 : w2.cell? ⟨N, 0, none⟩ = some (.int .i64 s) := cell_of_row _ _ 0 _ _ _ HP2.out.r
   have r1 : w2.cell? ⟨N, 1, none⟩ = some (.int .i64 a) := cell_of_row _ _ 1 _ _ _ HP2.out.r
   have m0 : w2.cell? ⟨N + 3, 0, none⟩ = some (.int .i64 0) := cell_of_row _ _ 0 _ _ _ hO2
   have f0 := row_free hO2 0
   have HO2 := Lib.hid hO2
   clear hod hnw hrd hrn hm hSo hoB hO2 hb ho HO1 HP1 x1 x3 hW hw1
   go_upto_region 22 with fail
   obtain ⟨c1, hc1⟩ : ∃ z, rep - (nw : Int) = z := ⟨_, rfl⟩
   rw [hc1]
   obtain ⟨w3, hw3⟩ : ∃ q, w2.setCell ⟨N + 3, 0, none⟩ (.int .i64 c1) = q := ⟨_, rfl⟩
   rw [hw3]
   have hO3 : w3.heap[N + 3]? = some (.cells #[.int .i64 c1, .slice none 0 0, .bool false] 70 (0, 0)) := by rw [← hw3]; exact row_setCell HO2.out _
   have hF3 : Fr (fun k => k = N + 3) w2 w3 := by rw [← hw3]; exact Fr.setC (fun k => k = N + 3) w2 ⟨N + 3, 0, none⟩ _ rfl
   have r0' := hF3.cell r0 (by show ¬ N = N + 3; omega)
   have m0' : w3.cell? ⟨N + 3, 0, none⟩ = some (.int .i64 c1) := cell_of_row _ _ 0 _ _ _ hO3
   have f0' := row_free hO3 0
   have HO3 := Lib.hid hO3
   have HF3 := Lib.hid hF3
   have Hc1 := Lib.hid hc1
   clear hO3 hF3 hw3 m0 f0 hc1
   go_upto_if 111 with fail
   obtain ⟨mo, hmo⟩ : ∃ z, rep + s - (od : Int) - nw = z := ⟨_, rfl⟩
   rw [hmo]
   have Hmo := Lib.hid hmo
   clear hmo
   obtain ⟨db, hdb⟩ : ∃ q, decide (mo < c1) = q := ⟨_, rfl⟩
   rw [hdb]
   have Hdb := Lib.hid hdb
   clear hdb
   go_cut [] from 112 to 113 (fun wx => ∃ c : Int, Hid (c = if mo < c1 then mo else c1) ∧ Hid (wx.heap[N + 3]? = some (.cells #[.int .i64 c, .slice none 0 0, .bool false] 70 (0, 0))) ∧ Hid (Fr (fun k => k = N + 3) w2 wx))
   case first =>
    cases db
    · have hmc : ¬ mo < c1 := of_decide_eq_false Hdb.out
      have HE : Hid (c1 = if mo < c1 then mo else c1) := (if_neg hmc).symm
      clear hmc
      go_wp2_with fail
      go_meet
      case rel => exact ⟨c1, HE, HO3, HF3⟩
    · have hmc : mo < c1 := of_decide_eq_true Hdb.out
      have HE : Hid (mo = if mo < c1 then mo else c1) := (if_pos hmc).symm
      have HOx : Hid ((w3.setCell ⟨N + 3, 0, none⟩ (.int .i64 mo)).heap[N + 3]? = some (.cells #[.int .i64 mo, .slice none 0 0, .bool false] 70 (0, 0))) := row_setCell HO3.out _
      have HFx : Hid (Fr (fun k => k = N + 3) w2 (w3.setCell ⟨N + 3, 0, none⟩ (.int .i64 mo))) := HF3.out.trans (Fr.setC (fun k => k = N + 3) w3 ⟨N + 3, 0, none⟩ _ rfl) (fun i hi => .inl hi)
      clear hmc
      go_wp2_with fail
      go_meet
      case rel => exact ⟨mo, HE, HOx, HFx⟩
   case rest =>
    obtain ⟨c2, hc2, hO4, hF4⟩ := hcut
    obtain ⟨w4, rfl⟩ : ∃ w4 : World, w4 = wc := ⟨_, rfl⟩
    clear r0' m0' f0' HO3 HF3
    have m0 : w4.cell? ⟨N + 3, 0, none⟩ = some (.int .i64 c2) := cell_of_row _ _ 0 _ _ _ hO4.out
    have f0 := row_free hO4.out 0
    go_upto_if 116 with fail
    obtain ⟨db, hdb⟩ : ∃ q, decide (c2 < 0) = q := ⟨_, rfl⟩
    rw [hdb]
    have Hdb := Lib.hid hdb
    clear hdb
    go_cut [] from 117 to 117 (fun wx => ∃ c : Int, Hid (c = if c2 < 0 then 0 else c2) ∧ Hid (wx.heap[N + 3]? = some (.cells #[.int .i64 c, .slice none 0 0, .bool false] 70 (0, 0))) ∧ Hid (Fr (fun k => k = N + 3) w2 wx))
    case first =>
     cases db
     · have hmc : ¬ c2 < 0 := of_decide_eq_false Hdb.out
       have HE : Hid (c2 = if c2 < 0 then 0 else c2) := (if_neg hmc).symm
       clear hmc
       go_wp2_with fail
       go_meet
       case rel => exact ⟨c2, HE, hO4, hF4⟩
     · have hmc : c2 < 0 := of_decide_eq_true Hdb.out
       have HE : Hid (0 = if c2 < 0 then 0 else c2) := (if_pos hmc).symm
       have HOx : Hid ((w4.setCell ⟨N + 3, 0, none⟩ (.int .i64 0)).heap[N + 3]? = some (.cells #[.int .i64 0, .slice none 0 0, .bool false] 70 (0, 0))) := row_setCell hO4.out _
       have HFx : Hid (Fr (fun k => k = N + 3) w2 (w4.setCell ⟨N + 3, 0, none⟩ (.int .i64 0))) := hF4.out.trans (Fr.setC (fun k => k = N + 3) w4 ⟨N + 3, 0, none⟩ _ rfl) (fun i hi => .inl hi)
       clear hmc
       go_wp2_with fail
       go_meet
       case rel => exact ⟨0, HE, HOx, HFx⟩
    case rest =>
     obtain ⟨c3, hc3, hO5, hF5⟩ := hcut
     obtain ⟨w5, rfl⟩ : ∃ w5 : World, w5 = wc := ⟨_, rfl⟩
     clear m0 f0 hO4 hF4
     have r1' := hF5.out.cell r1 (by show ¬ N = N + 3; omega)
     obtain ⟨mu, hmu⟩ : ∃ z, (if rep - a < 0 then 0 else rep - a) = z := ⟨_, rfl⟩
     have hmub : 0 ≤ mu ∧ mu ≤ 1000000 := by split at hmu <;> omega
     have Hmu := Lib.hid hmu
     clear hmu
     go_upto_if 123 with fail
     obtain ⟨db, hdb⟩ : ∃ q, decide (rep - a < 0) = q := ⟨_, rfl⟩
     rw [hdb]
     have Hdb := Lib.hid hdb
     clear hdb
     go_cut [18] (fun v wx => v = .int .i64 mu ∧ w5 = wx)
     case first =>
      cases db
      · have hmc : ¬ rep - a < 0 := of_decide_eq_false Hdb.out
        have HE : Hid (mu = rep - a) := by have := Hmu.out; rw [if_neg hmc] at this; exact this.symm
        clear hmc
        go_wp2_with fail
        go_meet
        case rel => exact ⟨by rw [HE.out], rfl⟩
      · have hmc : rep - a < 0 := of_decide_eq_true Hdb.out
        have HE : Hid (mu = 0) := by have := Hmu.out; rw [if_pos hmc] at this; exact this.symm
        clear hmc
        go_wp2_with fail
        go_meet
        case rel => exact ⟨by rw [HE.out], rfl⟩
     case rest =>
      obtain ⟨rfl, rfl⟩ := hcut
      clear r1'
      obtain ⟨sp, hsp⟩ : ∃ z, (rd : Int) - mu = z := ⟨_, rfl⟩
      have hspb : -1000000 ≤ sp ∧ sp ≤ 1000 := by omega
      have hwsp : IntKind.i64.wrap sp = sp := IntWalk.i64_in _ (by omega)
      have HL5 : Hid (LwSt w2 w5 (N + 3) c3 (.slice none 0 0) []) := ⟨hO5.out, OwnN.nil _ _, hF5.out⟩
      have Hsp : Hid (sp = (rd : Int) - mu) := hsp.symm
      have hNz : N + 3 < w2.heap.size := by omega
      clear hO5 hF5
      go_upto_block 4 with fail
      clear hsp hwsp
      go_cut [19] from 129 to 157 (fun v wx => ∃ (st : Int × List ByteArray) (vn : Value), v = .int .i64 st.1 ∧ Hid (q.ord.foldl (oStep (pvI x)) (sp, []) = st) ∧ Hid (sp - m ≤ st.1 ∧ st.1 ≤ sp ∧ st.2.length ≤ m) ∧ Hid (LwSt w2 wx (N + 3) c3 vn st.2))
      case first =>
       go_wp2_with fail
       go_loopw [19, 129] (fun v i wr => ∃ (k : Nat) (st : Int × List ByteArray) (vn : Value), k ≤ m ∧ i = .int .i64 k ∧ v = .int .i64 st.1 ∧ Hid ((q.ord.take k).foldl (oStep (pvI x)) (sp, []) = st) ∧ sp - k ≤ st.1 ∧ st.1 ≤ sp ∧ st.2.length ≤ k ∧ Hid (LwSt w2 wr (N + 3) c3 vn st.2)) (fun _ i _ => m - (intOf i).toNat)
       case atStart => exact ⟨0, (sp, []), .slice none 0 0, Nat.zero_le _, rfl, rfl, rfl, by simp, by simp, by simp, HL5.out⟩
       case round =>
        obtain ⟨k, st, vn, hk, rfl, rfl, hst2, hs1, hs2, hs3, hg⟩ := hrel
        obtain ⟨wq, rfl⟩ : ∃ wq : World, wq = wr := ⟨_, rfl⟩
        obtain ⟨s1, s2⟩ := st
        dsimp only at hs1 hs2 hs3 hg
        by_cases hlt : k < m
        · have hS2 := HS2.out.frG hg.out.fr HoB.out
          obtain ⟨b0, off, rfl⟩ := hS2.ptr (by decide) (by omega)
          have kx : k < q.ord.length := by have := hS2.hlen; omega
          have hcl := hS2.flat kx
          have hay := HA.out _ (hmem.out _ (List.getElem_mem kx))
          have hnx : (q.ord.take (k + 1)).foldl (oStep (pvI x)) (sp, []) = oStep (pvI x) (s1, s2) q.ord[k] := by rw [List.take_succ_eq_append_getElem kx, List.foldl_append, hst2.out]; rfl
          obtain ⟨y, hy⟩ : ∃ y, q.ord[k] = y := ⟨_, rfl⟩
          rw [hy] at hcl hay hnx
          obtain ⟨W3, hW3⟩ : ∃ W, wq.alloc (.cells y.cells.toArray 44) = W := ⟨_, rfl⟩
          obtain ⟨bo, hbo⟩ : ∃ bo, wq.heap.size = bo := ⟨_, rfl⟩
          have hbW : Below wq.heap.size wq W3 := by rw [← hW3]; exact (Below.refl _ _).alloc (Nat.le_refl _) _
          have hnc : ∀ j u, y.cells[j]? = some u → W3.cell? ⟨bo, j, none⟩ = some u := by rw [← hW3, ← hbo]; exact ob_new wq y _
          obtain ⟨va, vcap, rfl⟩ := hg.out.shape
          have Hvb : Hid (∀ kk, (Value.slice va s2.length vcap).ownBlock = some kk → kk ≠ bo) := fun kk h e => by have := (World.ownsRow.lt hg.out.own kk h).2; omega
          have HL3 := Lib.hid (hg.out.b hbW)
          have hboN : ¬ bo = N + 3 := by have := hg.out.lt; omega
          have HX3 : Hid (∀ t u, xc[t]? = some u → W3.cell? ⟨N + 1, t, none⟩ = some u) := fun t u hu => HL3.out.fr.cell (HP2.out.x t u hu) (by show ¬ N + 1 = N + 3; omega)
          have HCf := Lib.hid (HFr.out W3 y (HBw2.out.trans (HL3.out.fr.below (by omega) (fun k hk => by omega))) hay)
          obtain ⟨fv, hfv⟩ : ∃ q, freshB x y = q := ⟨_, rfl⟩
          obtain ⟨rb, hrb⟩ : ∃ q, (y.o.p.phase == 2) = q := ⟨_, rfl⟩
          rw [hfv] at HCf
          have Hfv : Hid ((pvI x y).fr = fv) := hfv
          have Hrb := Lib.hid hrb
          have k1 := hnc 1 _ y.h1
          have k12 := hnc 12 _ y.h12
          obtain ⟨yc, hyc⟩ : ∃ c, y.cells = c := ⟨_, rfl⟩
          have hycl : yc.length = 47 := by rw [← hyc]; rfl
          have hyo : yc.all (fun u => u.oneCell') = true := by rw [← hyc]; exact y.one
          rw [hyc] at hcl hW3 hnc HCf
          have Hcl := Lib.hid hcl
          have Hnc := Lib.hid hnc
          have Hnx := Lib.hid hnx
          clear hcl hS2 hay hnx hy hbW hnc hyc hfv hrb hg
          go_wp2_with (first
           | ((with_reducible refine at_slot 132 ?_); go_must (refine wpList_load_at aggObI rfl _ rfl ⟨b0, off + k * 47, none⟩ rfl yc hycl (fun j u hu => by rw [Addr.add_lit]; exact Hcl.out j u hu) ?_))
           | ((with_reducible refine at_slot 21 ?_); go_must (refine wpList_var aggObI rfl rfl rfl _ _ rfl rfl yc.toArray rfl rfl (by simp [hycl]) (by simpa using hyo) ?_; rw [hW3, hbo]))
           | ((with_reducible refine at_slot 133 ?_); go_must (refine wpList_load_at aggObI rfl _ rfl ⟨N + 1, 0, none⟩ rfl xc hxl (fun j u hu => by rw [Addr.add_lit, Nat.zero_add]; exact HX3.out j u hu) ?_))
           | ((with_reducible refine at_slot 134 ?_); go_must (refine wpList_load_at aggObI rfl _ rfl ⟨bo, 0, none⟩ rfl yc hycl (fun j u hu => by rw [Addr.add_lit, Nat.zero_add]; exact Hnc.out j u hu) ?_)))
          refine HCf.out.mono ?_
          rintro e w6 ⟨rfl, hb6⟩
          have HL6 := Lib.hid (HL3.out.b hb6)
          have j1 := Below.cell_some hb6 k1
          have j12 := Below.cell_some hb6 k12
          have v1 : w6.cell? ⟨N + 3, 1, none⟩ = some (.slice va s2.length vcap) := cell_of_row _ _ 1 _ _ _ HL6.out.row
          clear hb6 k1 k12 HL3 HCf Hcl Hnc HX3
          have hstp : ∀ R, oStep (pvI x) (s1, s2) y = R → Hid ((q.ord.take (k + 1)).foldl (oStep (pvI x)) (sp, []) = R) := fun R h => Hnx.out.trans h
          cases fv
          · cases rb
            · have hr1 : (y.o.p.phase != 2) = true := by rw [bne, Hrb.out]; rfl
              have hr2 := Hrb.out
              have HN := hstp (s1, s2 ++ [y.nm]) (by
                have h2 : (pvI x y).ph ≠ 2 := fun h => by have := Hrb.out; rw [show y.o.p.phase = 2 from h] at this; cases this
                unfold oStep
                rw [if_neg (by rw [Hfv.out]; decide), if_pos (.inl h2), if_neg h2]
                rfl)
              clear hstp
              go_upto_region 37 with ((with_reducible refine at_slot 148 ?_); go_must (refine wpList_buildSlice rfl 68 1 [(0, _)] rfl [(0, .string y.nm)] rfl _ _ (oneName y.nm) ?_; refine wpList_append_new elemName rfl _ _ rfl w2.heap.size (.slice va s2.length vcap) s2.length (s2.flatMap cN) rfl (HL6.out.own.alloc _) (by have := HL6.out.fr.size; simp; omega) _ _ rfl (heap_alloc_new _ _) rfl rfl (by unfold maxLen; omega) (by omega) ?_; intro g' cap' w' ho' hg' hn'; have HO' := Lib.hid ho'; have HG' := Lib.hid hg'; have hr' := LwSt.mid HL6.out hNz hg'; have cv' := cell_of_row _ _ 1 _ _ _ hr'; have fv' := row_free hr' 1; simp at cv'; clear ho' hg' hn' hr'))
              obtain ⟨W7, hW7⟩ : ∃ q, w'.setCell ⟨N + 3, 1, none⟩ (.slice (some ⟨g', 0, none⟩) (s2.length + 1) cap') = q := ⟨_, rfl⟩
              have hL7 := HL6.out.more hNz HO'.out HG'.out
              have i12 : W7.cell? ⟨bo, 12, none⟩ = some (.int .i64 y.o.p.phase) := by rw [← hW7]; exact LwSt.keep HG'.out j12 hboN Hvb.out
              rw [hW7] at hL7 ⊢
              have HL7 := Lib.hid hL7
              clear hW7 hL7 j1 j12 v1 cv' fv'
              go_wp2_with fail
              go_roundw
              case rel => exact ⟨k + 1, (s1, s2 ++ [y.nm]), _, by omega, by go_num, rfl, HN, by dsimp only; omega, hs2, by simp; omega, HL7.out⟩
              case measure => simp [intOf]; omega
            · have hr1 : (y.o.p.phase != 2) = false := by rw [bne, Hrb.out]; rfl
              have hr2 := Hrb.out
              have h2 : (pvI x y).ph = 2 := eq_of_beq Hrb.out
              have H2 := Lib.hid h2
              clear h2
              by_cases hpos : 0 < s1
              · have hd : decide (s1 > 0) = true := decide_eq_true hpos
                have HN := hstp (s1 - 1, s2 ++ [y.nm]) (by
                  unfold oStep
                  rw [if_neg (by rw [Hfv.out]; decide), if_pos (.inr hpos), if_pos H2.out]
                  rfl)
                clear hstp
                go_upto_region 37 with ((with_reducible refine at_slot 148 ?_); go_must (refine wpList_buildSlice rfl 68 1 [(0, _)] rfl [(0, .string y.nm)] rfl _ _ (oneName y.nm) ?_; refine wpList_append_new elemName rfl _ _ rfl w2.heap.size (.slice va s2.length vcap) s2.length (s2.flatMap cN) rfl (HL6.out.own.alloc _) (by have := HL6.out.fr.size; simp; omega) _ _ rfl (heap_alloc_new _ _) rfl rfl (by unfold maxLen; omega) (by omega) ?_; intro g' cap' w' ho' hg' hn'; have HO' := Lib.hid ho'; have HG' := Lib.hid hg'; have hr' := LwSt.mid HL6.out hNz hg'; have cv' := cell_of_row _ _ 1 _ _ _ hr'; have fv' := row_free hr' 1; simp at cv'; clear ho' hg' hn' hr'))
                obtain ⟨W7, hW7⟩ : ∃ q, w'.setCell ⟨N + 3, 1, none⟩ (.slice (some ⟨g', 0, none⟩) (s2.length + 1) cap') = q := ⟨_, rfl⟩
                have hL7 := HL6.out.more hNz HO'.out HG'.out
                have i12 : W7.cell? ⟨bo, 12, none⟩ = some (.int .i64 y.o.p.phase) := by rw [← hW7]; exact LwSt.keep HG'.out j12 hboN Hvb.out
                rw [hW7] at hL7 ⊢
                have HL7 := Lib.hid hL7
                clear hW7 hL7 j1 j12 v1 cv' fv'
                go_wp2_with fail
                go_roundw
                case rel => exact ⟨k + 1, (s1 - 1, s2 ++ [y.nm]), _, by omega, by go_num, rfl, HN, by dsimp only; omega, by dsimp only; omega, by simp; omega, HL7.out⟩
                case measure => simp [intOf]; omega
              · have hd : decide (s1 > 0) = false := decide_eq_false hpos
                have HN := hstp (s1, s2) (by
                  unfold oStep
                  rw [if_neg (by rw [Hfv.out]; decide), if_neg (by rintro (h | h); exact h H2.out; exact hpos h)])
                clear hstp
                go_wp2_with fail
                go_roundw
                case rel => exact ⟨k + 1, (s1, s2), _, by omega, by go_num, rfl, HN, by dsimp only; omega, hs2, by dsimp only; omega, HL6.out⟩
                case measure => simp [intOf]; omega
          · have HN := hstp (s1, s2) (by unfold oStep; rw [if_pos Hfv.out])
            clear hstp
            go_wp2_with fail
            go_roundw
            case rel => exact ⟨k + 1, (s1, s2), _, by omega, by go_num, rfl, HN, by dsimp only; omega, hs2, by dsimp only; omega, HL6.out⟩
            case measure => simp [intOf]; omega
        · obtain rfl : k = m := by omega
          have ht : q.ord.take k = q.ord := List.take_of_length_le (by have := Hm.out; omega)
          rw [ht] at hst2
          clear ht
          have HBd : Hid (sp - k ≤ s1 ∧ s1 ≤ sp ∧ s2.length ≤ k) := ⟨hs1, hs2, hs3⟩
          go_wp2_with fail
          go_meet
          case rel => exact ⟨(s1, s2), vn, rfl, hst2, HBd, hg⟩
      case rest =>
       obtain ⟨st, vn, rfl, hst3, hbd3, hL8⟩ := hcut
       obtain ⟨w8, rfl⟩ : ∃ w8 : World, w8 = wc := ⟨_, rfl⟩
       clear HL5
       obtain ⟨sp1, ns1⟩ := st
       dsimp only at hbd3 hL8
       have hb3 := hbd3.out
       obtain ⟨lf, hlf⟩ : ∃ z, (nw : Int) - rep = z := ⟨_, rfl⟩
       have hlfb : -1000000 ≤ lf ∧ lf ≤ 1000 := by omega
       have hwlf : IntKind.i64.wrap lf = lf := IntWalk.i64_in _ (by omega)
       have Hlf : Hid (lf = (nw : Int) - rep) := hlf.symm
       have HL9 : Hid (LwSt w2 w8 (N + 3) c3 vn ns1) := hL8.out
       obtain ⟨nl, hnl⟩ : ∃ z, ns1.length = z := ⟨_, rfl⟩
       rw [hnl] at hb3
       have Hnl := Lib.hid hnl
       clear hnl hL8
       dsimp only
       go_upto_block 6 with fail
       clear hlf hwlf
       go_cut [19, 22] from 163 to 198 (fun v v2 wx => ∃ (st : Int × Int × List ByteArray) (vn : Value), Hid (q.ord.foldl (nStep (pvI x)) (lf, sp1, ns1) = st) ∧ Hid (st.2.2.length ≤ nl + m) ∧ Hid (LwSt w2 wx (N + 3) c3 vn st.2.2))
       case first =>
        have hsb : -1001000 ≤ sp1 ∧ sp1 ≤ 1000 ∧ nl ≤ 1000 ∧ m ≤ 1000 := by omega
        clear hb3 hspb hmub hsa hrep hcm hlc hq1 hzW hz1
        go_wp2_with fail
        go_loopw [19, 22, 163] (fun v v2 i wr => ∃ (k : Nat) (st : Int × Int × List ByteArray) (vn : Value), k ≤ m ∧ i = .int .i64 k ∧ v = .int .i64 st.2.1 ∧ v2 = .int .i64 st.1 ∧ Hid ((q.ord.take k).foldl (nStep (pvI x)) (lf, sp1, ns1) = st) ∧ sp1 - k ≤ st.2.1 ∧ st.2.1 ≤ sp1 ∧ lf - k ≤ st.1 ∧ st.1 ≤ lf ∧ st.2.2.length ≤ nl + k ∧ Hid (LwSt w2 wr (N + 3) c3 vn st.2.2)) (fun _ _ i _ => m - (intOf i).toNat)
        case atStart => exact ⟨0, (lf, sp1, ns1), vn, Nat.zero_le _, rfl, rfl, rfl, rfl, by simp, by simp, by simp, by simp, by simp [Hnl.out], HL9.out⟩
        case round =>
         obtain ⟨k, st, vn2, hk, rfl, rfl, rfl, hst2, hs1, hs2, hs4, hs5, hs3, hg⟩ := hrel
         obtain ⟨wq, rfl⟩ : ∃ wq : World, wq = wr := ⟨_, rfl⟩
         obtain ⟨s0, s1, s2⟩ := st
         dsimp only at hs1 hs2 hs3 hs4 hs5 hg
         have hz1 : -1002000 ≤ s1 ∧ s1 ≤ 1000 := by omega
         have hz0 : -1002000 ≤ s0 ∧ s0 ≤ 1000 := by omega
         have hz3 : s2.length ≤ 2000 := by omega
         have HS := Lib.hid (And.intro hs1 (And.intro hs2 (And.intro hs4 (And.intro hs5 hs3))))
         clear hs1 hs2 hs4 hs5 hs3
         by_cases hlt : k < m
         · have hS2 := HS2.out.frG hg.out.fr HoB.out
           obtain ⟨b0, off, rfl⟩ := hS2.ptr (by decide) (by omega)
           have kx : k < q.ord.length := by have := hS2.hlen; omega
           have hcl := hS2.flat kx
           have hay := HA.out _ (hmem.out _ (List.getElem_mem kx))
           have hnx : (q.ord.take (k + 1)).foldl (nStep (pvI x)) (lf, sp1, ns1) = nStep (pvI x) (s0, s1, s2) q.ord[k] := by rw [List.take_succ_eq_append_getElem kx, List.foldl_append, hst2.out]; rfl
           obtain ⟨y, hy⟩ : ∃ y, q.ord[k] = y := ⟨_, rfl⟩
           rw [hy] at hcl hay hnx
           obtain ⟨W3, hW3⟩ : ∃ W, wq.alloc (.cells y.cells.toArray 44) = W := ⟨_, rfl⟩
           obtain ⟨bo, hbo⟩ : ∃ bo, wq.heap.size = bo := ⟨_, rfl⟩
           have hbW : Below wq.heap.size wq W3 := by rw [← hW3]; exact (Below.refl _ _).alloc (Nat.le_refl _) _
           have hnc : ∀ j u, y.cells[j]? = some u → W3.cell? ⟨bo, j, none⟩ = some u := by rw [← hW3, ← hbo]; exact ob_new wq y _
           obtain ⟨va, vcap, rfl⟩ := hg.out.shape
           have Hvb : Hid (∀ kk, (Value.slice va s2.length vcap).ownBlock = some kk → kk ≠ bo) := fun kk h e => by have := (World.ownsRow.lt hg.out.own kk h).2; omega
           have HL3 := Lib.hid (hg.out.b hbW)
           have hboN : ¬ bo = N + 3 := by have := hg.out.lt; omega
           have HX3 : Hid (∀ t u, xc[t]? = some u → W3.cell? ⟨N + 1, t, none⟩ = some u) := fun t u hu => HL3.out.fr.cell (HP2.out.x t u hu) (by show ¬ N + 1 = N + 3; omega)
           have HCf := Lib.hid (HFr.out W3 y (HBw2.out.trans (HL3.out.fr.below (by omega) (fun k hk => by omega))) hay)
           obtain ⟨fv, hfv⟩ : ∃ q, freshB x y = q := ⟨_, rfl⟩
           obtain ⟨rb, hrb⟩ : ∃ q, (y.o.p.phase == 2) = q := ⟨_, rfl⟩
           rw [hfv] at HCf
           have Hfv : Hid ((pvI x y).fr = fv) := hfv
           have Hrb := Lib.hid hrb
           have k1 := hnc 1 _ y.h1
           have k12 := hnc 12 _ y.h12
           obtain ⟨yc, hyc⟩ : ∃ c, y.cells = c := ⟨_, rfl⟩
           have hycl : yc.length = 47 := by rw [← hyc]; rfl
           have hyo : yc.all (fun u => u.oneCell') = true := by rw [← hyc]; exact y.one
           rw [hyc] at hcl hW3 hnc HCf
           have Hcl := Lib.hid hcl
           have Hnc := Lib.hid hnc
           have Hnx := Lib.hid hnx
           clear hcl hS2 hay hnx hy hbW hnc hyc hfv hrb hg
           have hstp : ∀ R, nStep (pvI x) (s0, s1, s2) y = R → Hid ((q.ord.take (k + 1)).foldl (nStep (pvI x)) (lf, sp1, ns1) = R) := fun R h => Hnx.out.trans h
           cases fv
           · have HN := hstp (s0, s1, s2) (by unfold nStep; rw [if_pos (.inl Hfv.out)])
             clear hstp
             go_wp2_with (first
              | ((with_reducible refine at_slot 166 ?_); go_must (refine wpList_load_at aggObI rfl _ rfl ⟨b0, off + k * 47, none⟩ rfl yc hycl (fun j u hu => by rw [Addr.add_lit]; exact Hcl.out j u hu) ?_))
              | ((with_reducible refine at_slot 24 ?_); go_must (refine wpList_var aggObI rfl rfl rfl _ _ rfl rfl yc.toArray rfl rfl (by simp [hycl]) (by simpa using hyo) ?_; rw [hW3, hbo]))
              | ((with_reducible refine at_slot 167 ?_); go_must (refine wpList_load_at aggObI rfl _ rfl ⟨N + 1, 0, none⟩ rfl xc hxl (fun j u hu => by rw [Addr.add_lit, Nat.zero_add]; exact HX3.out j u hu) ?_))
              | ((with_reducible refine at_slot 168 ?_); go_must (refine wpList_load_at aggObI rfl _ rfl ⟨bo, 0, none⟩ rfl yc hycl (fun j u hu => by rw [Addr.add_lit, Nat.zero_add]; exact Hnc.out j u hu) ?_)))
             refine HCf.out.mono ?_
             rintro e w6 ⟨rfl, hb6⟩
             have HL6 := Lib.hid (HL3.out.b hb6)
             have j1 := Below.cell_some hb6 k1
             have j12 := Below.cell_some hb6 k12
             have v1 : w6.cell? ⟨N + 3, 1, none⟩ = some (.slice va s2.length vcap) := cell_of_row _ _ 1 _ _ _ HL6.out.row
             clear hb6 k1 k12 HL3 HCf Hcl Hnc HX3
             go_wp2_with fail
             go_roundw
             case rel => exact ⟨k + 1, (s0, s1, s2), _, by omega, by go_num, rfl, rfl, HN, by have h := HS.out; clear hsb; dsimp only; omega, by have h := HS.out; clear hsb; dsimp only; omega, by have h := HS.out; clear hsb; dsimp only; omega, by have h := HS.out; clear hsb; dsimp only; omega, by have h := HS.out; clear hsb; dsimp only; omega, HL6.out⟩
             case measure => simp [intOf]; omega
           · by_cases hl0 : s0 ≤ 0
             · have hd0 : decide (s0 ≤ 0) = true := decide_eq_true hl0
               have HN := hstp (s0, s1, s2) (by unfold nStep; rw [if_pos (.inr hl0)])
               clear hstp
               go_wp2_with (first
                | ((with_reducible refine at_slot 166 ?_); go_must (refine wpList_load_at aggObI rfl _ rfl ⟨b0, off + k * 47, none⟩ rfl yc hycl (fun j u hu => by rw [Addr.add_lit]; exact Hcl.out j u hu) ?_))
                | ((with_reducible refine at_slot 24 ?_); go_must (refine wpList_var aggObI rfl rfl rfl _ _ rfl rfl yc.toArray rfl rfl (by simp [hycl]) (by simpa using hyo) ?_; rw [hW3, hbo]))
                | ((with_reducible refine at_slot 167 ?_); go_must (refine wpList_load_at aggObI rfl _ rfl ⟨N + 1, 0, none⟩ rfl xc hxl (fun j u hu => by rw [Addr.add_lit, Nat.zero_add]; exact HX3.out j u hu) ?_))
                | ((with_reducible refine at_slot 168 ?_); go_must (refine wpList_load_at aggObI rfl _ rfl ⟨bo, 0, none⟩ rfl yc hycl (fun j u hu => by rw [Addr.add_lit, Nat.zero_add]; exact Hnc.out j u hu) ?_)))
               refine HCf.out.mono ?_
               rintro e w6 ⟨rfl, hb6⟩
               have HL6 := Lib.hid (HL3.out.b hb6)
               have j1 := Below.cell_some hb6 k1
               have j12 := Below.cell_some hb6 k12
               have v1 : w6.cell? ⟨N + 3, 1, none⟩ = some (.slice va s2.length vcap) := cell_of_row _ _ 1 _ _ _ HL6.out.row
               clear hb6 k1 k12 HL3 HCf Hcl Hnc HX3
               go_wp2_with fail
               go_roundw
               case rel => exact ⟨k + 1, (s0, s1, s2), _, by omega, by go_num, rfl, rfl, HN, by have h := HS.out; clear hsb; dsimp only; omega, by have h := HS.out; clear hsb; dsimp only; omega, by have h := HS.out; clear hsb; dsimp only; omega, by have h := HS.out; clear hsb; dsimp only; omega, by have h := HS.out; clear hsb; dsimp only; omega, HL6.out⟩
               case measure => simp [intOf]; omega
             · have hd0 : decide (s0 ≤ 0) = false := decide_eq_false hl0
               have Hif : Hid (¬ ((pvI x y).fr = false ∨ s0 ≤ 0)) := by
                 rintro (h | h)
                 · rw [Hfv.out] at h; cases h
                 · exact hl0 h
               go_wp2_with (first
                | ((with_reducible refine at_slot 166 ?_); go_must (refine wpList_load_at aggObI rfl _ rfl ⟨b0, off + k * 47, none⟩ rfl yc hycl (fun j u hu => by rw [Addr.add_lit]; exact Hcl.out j u hu) ?_))
                | ((with_reducible refine at_slot 24 ?_); go_must (refine wpList_var aggObI rfl rfl rfl _ _ rfl rfl yc.toArray rfl rfl (by simp [hycl]) (by simpa using hyo) ?_; rw [hW3, hbo]))
                | ((with_reducible refine at_slot 167 ?_); go_must (refine wpList_load_at aggObI rfl _ rfl ⟨N + 1, 0, none⟩ rfl xc hxl (fun j u hu => by rw [Addr.add_lit, Nat.zero_add]; exact HX3.out j u hu) ?_))
                | ((with_reducible refine at_slot 168 ?_); go_must (refine wpList_load_at aggObI rfl _ rfl ⟨bo, 0, none⟩ rfl yc hycl (fun j u hu => by rw [Addr.add_lit, Nat.zero_add]; exact Hnc.out j u hu) ?_)))
               refine HCf.out.mono ?_
               rintro e w6 ⟨rfl, hb6⟩
               have HL6 := Lib.hid (HL3.out.b hb6)
               have j1 := Below.cell_some hb6 k1
               have j12 := Below.cell_some hb6 k12
               have v1 : w6.cell? ⟨N + 3, 1, none⟩ = some (.slice va s2.length vcap) := cell_of_row _ _ 1 _ _ _ HL6.out.row
               clear hb6 k1 k12 HL3 HCf Hcl Hnc HX3
               cases rb
               · have hr1 : (y.o.p.phase != 2) = true := by rw [bne, Hrb.out]; rfl
                 have hr2 := Hrb.out
                 have HN := hstp (s0 - 1, s1, s2 ++ [y.nm]) (by
                   have h2 : (pvI x y).ph ≠ 2 := fun h => by have := Hrb.out; rw [show y.o.p.phase = 2 from h] at this; cases this
                   unfold nStep
                   rw [if_neg Hif.out, if_pos (.inl h2), if_neg h2]
                   rfl)
                 clear hstp
                 go_upto_region 47 with ((with_reducible refine at_slot 187 ?_); go_must (refine wpList_buildSlice rfl 68 1 [(0, _)] rfl [(0, .string y.nm)] rfl _ _ (oneName y.nm) ?_; refine wpList_append_new elemName rfl _ _ rfl w2.heap.size (.slice va s2.length vcap) s2.length (s2.flatMap cN) rfl (HL6.out.own.alloc _) (by have := HL6.out.fr.size; simp; omega) _ _ rfl (heap_alloc_new _ _) rfl rfl (by unfold maxLen; omega) (by omega) ?_; intro g' cap' w' ho' hg' hn'; have HO' := Lib.hid ho'; have HG' := Lib.hid hg'; have hr' := LwSt.mid HL6.out hNz hg'; have cv' := cell_of_row _ _ 1 _ _ _ hr'; have fv' := row_free hr' 1; simp at cv'; clear ho' hg' hn' hr'))
                 obtain ⟨W7, hW7⟩ : ∃ q, w'.setCell ⟨N + 3, 1, none⟩ (.slice (some ⟨g', 0, none⟩) (s2.length + 1) cap') = q := ⟨_, rfl⟩
                 have hL7 := HL6.out.more hNz HO'.out HG'.out
                 have i12 : W7.cell? ⟨bo, 12, none⟩ = some (.int .i64 y.o.p.phase) := by rw [← hW7]; exact LwSt.keep HG'.out j12 hboN Hvb.out
                 rw [hW7] at hL7 ⊢
                 have HL7 := Lib.hid hL7
                 clear hW7 hL7 j1 j12 v1 cv' fv'
                 go_wp2_with fail
                 go_roundw
                 case rel => exact ⟨k + 1, (s0 - 1, s1, s2 ++ [y.nm]), _, by omega, by go_num, rfl, rfl, HN, by have h := HS.out; clear hsb; dsimp only; omega, by have h := HS.out; clear hsb; dsimp only; omega, by have h := HS.out; clear hsb; dsimp only; omega, by have h := HS.out; clear hsb; dsimp only; omega, by have h := HS.out; clear hsb; simp; omega, HL7.out⟩
                 case measure => simp [intOf]; omega
               · have hr1 : (y.o.p.phase != 2) = false := by rw [bne, Hrb.out]; rfl
                 have hr2 := Hrb.out
                 have h2 : (pvI x y).ph = 2 := eq_of_beq Hrb.out
                 have H2 := Lib.hid h2
                 clear h2
                 by_cases hpos : 0 < s1
                 · have hd : decide (s1 > 0) = true := decide_eq_true hpos
                   have HN := hstp (s0 - 1, s1 - 1, s2 ++ [y.nm]) (by
                     unfold nStep
                     rw [if_neg Hif.out, if_pos (.inr hpos), if_pos H2.out]
                     rfl)
                   clear hstp
                   go_upto_region 47 with ((with_reducible refine at_slot 187 ?_); go_must (refine wpList_buildSlice rfl 68 1 [(0, _)] rfl [(0, .string y.nm)] rfl _ _ (oneName y.nm) ?_; refine wpList_append_new elemName rfl _ _ rfl w2.heap.size (.slice va s2.length vcap) s2.length (s2.flatMap cN) rfl (HL6.out.own.alloc _) (by have := HL6.out.fr.size; simp; omega) _ _ rfl (heap_alloc_new _ _) rfl rfl (by unfold maxLen; omega) (by omega) ?_; intro g' cap' w' ho' hg' hn'; have HO' := Lib.hid ho'; have HG' := Lib.hid hg'; have hr' := LwSt.mid HL6.out hNz hg'; have cv' := cell_of_row _ _ 1 _ _ _ hr'; have fv' := row_free hr' 1; simp at cv'; clear ho' hg' hn' hr'))
                   obtain ⟨W7, hW7⟩ : ∃ q, w'.setCell ⟨N + 3, 1, none⟩ (.slice (some ⟨g', 0, none⟩) (s2.length + 1) cap') = q := ⟨_, rfl⟩
                   have hL7 := HL6.out.more hNz HO'.out HG'.out
                   have i12 : W7.cell? ⟨bo, 12, none⟩ = some (.int .i64 y.o.p.phase) := by rw [← hW7]; exact LwSt.keep HG'.out j12 hboN Hvb.out
                   rw [hW7] at hL7 ⊢
                   have HL7 := Lib.hid hL7
                   clear hW7 hL7 j1 j12 v1 cv' fv'
                   go_wp2_with fail
                   go_roundw
                   case rel => exact ⟨k + 1, (s0 - 1, s1 - 1, s2 ++ [y.nm]), _, by omega, by go_num, rfl, rfl, HN, by have h := HS.out; clear hsb; dsimp only; omega, by have h := HS.out; clear hsb; dsimp only; omega, by have h := HS.out; clear hsb; dsimp only; omega, by have h := HS.out; clear hsb; dsimp only; omega, by have h := HS.out; clear hsb; simp; omega, HL7.out⟩
                   case measure => simp [intOf]; omega
                 · have hd : decide (s1 > 0) = false := decide_eq_false hpos
                   have HN := hstp (s0, s1, s2) (by
                     unfold nStep
                     rw [if_neg Hif.out, if_neg (by rintro (h | h); exact h H2.out; exact hpos h)])
                   clear hstp
                   go_wp2_with fail
                   go_roundw
                   case rel => exact ⟨k + 1, (s0, s1, s2), _, by omega, by go_num, rfl, rfl, HN, by have h := HS.out; clear hsb; dsimp only; omega, by have h := HS.out; clear hsb; dsimp only; omega, by have h := HS.out; clear hsb; dsimp only; omega, by have h := HS.out; clear hsb; dsimp only; omega, by have h := HS.out; clear hsb; dsimp only; omega, HL6.out⟩
                   case measure => simp [intOf]; omega
         · obtain rfl : k = m := by omega
           have ht : q.ord.take k = q.ord := List.take_of_length_le (by have := Hm.out; omega)
           rw [ht] at hst2
           clear ht
           have HBd : Hid (s2.length ≤ nl + k) := HS.out.2.2.2.2
           go_wp2_with fail
           go_meet
           case rel => exact ⟨(s0, s1, s2), vn2, hst2, HBd, hg⟩
       case rest =>
        obtain ⟨st2, vn2, hst4, hbd4, hLa⟩ := hcut
        obtain ⟨wa, rfl⟩ : ∃ wa : World, wa = wc := ⟨_, rfl⟩
        clear HL9
        obtain ⟨nv, hnv⟩ : ∃ z, st2.2.2 = z := ⟨_, rfl⟩
        rw [hnv] at hbd4 hLa
        obtain ⟨va, vcap, rfl⟩ := hLa.out.shape
        have hval := stepL_val x rep s a q.ord od nw rd rn c1 c2 c3 mu sp (sp1, ns1) st2 Hc1.out.symm (by rw [Hmo.out]; exact hc2.out) hc3.out Hmu.out.symm Hsp.out hst3.out (by rw [← Hlf.out]; exact hst4.out)
        rw [hnv] at hval
        have hq := hst.out.symm.trans (PS.fold x l ps0)
        have g1 : q.ord = insL (liveI x l) [] := congrArg PS.ord hq
        have g2 : q.old = ((liveI x l).filter fun y => !freshB x y).length := (congrArg PS.old hq).trans (Nat.zero_add _)
        have g3 : q.now = ((liveI x l).filter fun y => freshB x y).length := (congrArg PS.now hq).trans (Nat.zero_add _)
        have g4 : q.ready = ((liveI x l).filter fun y => y.o.p.phase == 2).length := (congrArg PS.ready hq).trans (Nat.zero_add _)
        have g5 : q.rnew = (((liveI x l).filter fun y => freshB x y).filter fun y => y.o.p.phase == 2).length := (congrArg PS.rnew hq).trans (Nat.zero_add _)
        have hS : (⟨c3, nv, ((od : Int) == 0) && ((nw : Int) == rep) && ((rn : Int) == rep)⟩ : StepV) = stepL (pvI x) rep s a (insL (liveI x l) []) ((liveI x l).filter fun y => !freshB x y).length ((liveI x l).filter fun y => freshB x y).length (rdy (pvI x) (liveI x l)) (rdy (pvI x) ((liveI x l).filter fun y => freshB x y)) := by
          rw [← hval, ← g1, ← g2, ← g3, Hod.out, Hnw.out]
          have g6 : rdy (pvI x) (liveI x l) = (rd : Int) := by rw [← Hrd.out, g4]; rfl
          have g7 : rdy (pvI x) ((liveI x l).filter fun y => freshB x y) = (rn : Int) := by rw [← Hrn.out, g5]; rfl
          rw [g6, g7]
        obtain ⟨qa, hqa⟩ : ∃ q, ((od : Int) == 0) = q := ⟨_, rfl⟩
        obtain ⟨qb, hqb⟩ : ∃ q, ((nw : Int) == rep) = q := ⟨_, rfl⟩
        obtain ⟨qc, hqc⟩ : ∃ q, ((rn : Int) == rep) = q := ⟨_, rfl⟩
        rw [hqa, hqb, hqc] at hS
        have HSv := Lib.hid hS
        have m2 : wa.cell? ⟨N + 3, 2, none⟩ = some (.bool false) := cell_of_row _ _ 2 _ _ _ hLa.out.row
        have f2 := row_free hLa.out.row 2
        have hOut := hLa.out.fr.block (N + 2) (by omega) (by omega)
        have HOut := Lib.hid (hOut.trans HP2.out.out)
        clear hS hval hq g1 g2 g3 g4 g5 hnv hOut hbd4
        cases qa
        · go_upto_region 52 with fail
          obtain ⟨wb, hwb⟩ : ∃ q, wa.setCell ⟨N + 3, 2, none⟩ (.bool false) = q := ⟨_, rfl⟩
          have hrow := row_setCell hLa.out.row (i := 2) (.bool false)
          have hfb : Fr (fun k => k = N + 3) wa (wa.setCell ⟨N + 3, 2, none⟩ (.bool false)) := Fr.setC (fun k => k = N + 3) wa ⟨N + 3, 2, none⟩ _ rfl
          have hob := owns_fr hfb hLa.out.own (fun k hk e => by have := (World.ownsRow.lt hLa.out.own k hk).1; omega)
          have hOb := (hfb.block (N + 2) (by have := (Array.getElem?_eq_some_iff.1 HOut.out).1; exact this) (by omega)).trans HOut.out
          rw [hwb] at hrow hfb hob hOb ⊢
          have HFb := Lib.hid (hLa.out.fr.trans hfb (fun i hi => .inl hi))
          have HOb := Lib.hid hOb
          have Hob := Lib.hid hob
          rw [show N + 2 = N + 1 + 1 from rfl] at hOb
          have y0 := cell_of_row _ _ 0 _ _ _ hOb
          have y1 := cell_of_row _ _ 1 _ _ _ hOb
          have y2 := cell_of_row _ _ 2 _ _ _ hOb
          simp at y0 y1 y2
          have z0 := row_free hOb 0
          have z1 := row_free hOb 1
          have z2 := row_free hOb 2
          have cS := block_part hrow (i := 0) (n := 3) [.int .i64 c3, .slice va nv.length vcap, .bool false] rfl
          have hOb' := Lib.hid hOb
          clear hrow hfb hob hOb hwb m2 f2
          go_wp2_with ((with_reducible refine at_slot 212 ?_); go_must (refine wpList_load_at aggStep rfl _ rfl ⟨N + 3, 0, none⟩ rfl _ rfl cS ?_))
          obtain ⟨we, hwe⟩ : ∃ q, ((wb.setCell ⟨N + 1 + 1, 0, none⟩ (.int .i64 c3)).setCell ⟨N + 1 + 1, 1, none⟩ (.slice va nv.length vcap)).setCell ⟨N + 1 + 1, 2, none⟩ (.bool false) = q := ⟨_, rfl⟩
          have hrw : we.heap[N + 1 + 1]? = some (.cells #[.int .i64 c3, .slice va nv.length vcap, .bool false] 70 (0, 0)) := by rw [← hwe]; exact row_setCell (row_setCell (row_setCell hOb'.out _) _) _
          have hfe : Fr (fun k => k = N + 1 + 1) wb we := by
            rw [← hwe]
            exact ((Fr.setC (fun k => k = N + 1 + 1) wb ⟨N + 1 + 1, 0, none⟩ _ rfl).trans (Fr.setC (fun k => k = N + 1 + 1) _ ⟨N + 1 + 1, 1, none⟩ _ rfl) (fun i hi => .inl hi)).trans (Fr.setC (fun k => k = N + 1 + 1) _ ⟨N + 1 + 1, 2, none⟩ _ rfl) (fun i hi => .inl hi)
          have hoe := owns_fr hfe Hob.out (fun k hk e => by have := (World.ownsRow.lt Hob.out k hk).1; omega)
          obtain ⟨ra, rc, hre, hSe⟩ := OwnN.reads (xs := nv) hoe
          have HSe := Lib.hid hSe
          have HBe : Hid (Below w.heap.size w we) := HBw2.out.trans ((HFb.out.below (by omega) (fun k hk => by omega)).trans (hfe.below (by have := HFb.out.size; omega) (fun k hk => by omega)))
          injection hre with hre1 hre2 hre3
          rw [hwe]
          have k0 : we.cell? ⟨N + 1 + 1, 0, none⟩ = some (.int .i64 c3) := cell_of_row _ _ 0 _ _ _ hrw
          have k1 : we.cell? ⟨N + 1 + 1, 1, none⟩ = some (.slice va nv.length vcap) := cell_of_row _ _ 1 _ _ _ hrw
          have k2 : we.cell? ⟨N + 1 + 1, 2, none⟩ = some (.bool false) := cell_of_row _ _ 2 _ _ _ hrw
          refine bodyPost_ret (v := .agg #[.int .i64 c3, .slice va nv.length vcap, .bool false]) (by simp [results, Try.results24, go_sem, k0, k1, k2]) rfl ⟨⟨c3, nv, false⟩, va, vcap, HSv.out, rfl, ?_, by rw [← hN]; exact HBe.out⟩
          dsimp only
          rw [hre1, hre3]
          exact HSe.out
        · cases qb
          · go_upto_region 52 with fail
            obtain ⟨wb, hwb⟩ : ∃ q, wa.setCell ⟨N + 3, 2, none⟩ (.bool false) = q := ⟨_, rfl⟩
            have hrow := row_setCell hLa.out.row (i := 2) (.bool false)
            have hfb : Fr (fun k => k = N + 3) wa (wa.setCell ⟨N + 3, 2, none⟩ (.bool false)) := Fr.setC (fun k => k = N + 3) wa ⟨N + 3, 2, none⟩ _ rfl
            have hob := owns_fr hfb hLa.out.own (fun k hk e => by have := (World.ownsRow.lt hLa.out.own k hk).1; omega)
            have hOb := (hfb.block (N + 2) (by have := (Array.getElem?_eq_some_iff.1 HOut.out).1; exact this) (by omega)).trans HOut.out
            rw [hwb] at hrow hfb hob hOb ⊢
            have HFb := Lib.hid (hLa.out.fr.trans hfb (fun i hi => .inl hi))
            have HOb := Lib.hid hOb
            have Hob := Lib.hid hob
            rw [show N + 2 = N + 1 + 1 from rfl] at hOb
            have y0 := cell_of_row _ _ 0 _ _ _ hOb
            have y1 := cell_of_row _ _ 1 _ _ _ hOb
            have y2 := cell_of_row _ _ 2 _ _ _ hOb
            simp at y0 y1 y2
            have z0 := row_free hOb 0
            have z1 := row_free hOb 1
            have z2 := row_free hOb 2
            have cS := block_part hrow (i := 0) (n := 3) [.int .i64 c3, .slice va nv.length vcap, .bool false] rfl
            have hOb' := Lib.hid hOb
            clear hrow hfb hob hOb hwb m2 f2
            go_wp2_with ((with_reducible refine at_slot 212 ?_); go_must (refine wpList_load_at aggStep rfl _ rfl ⟨N + 3, 0, none⟩ rfl _ rfl cS ?_))
            obtain ⟨we, hwe⟩ : ∃ q, ((wb.setCell ⟨N + 1 + 1, 0, none⟩ (.int .i64 c3)).setCell ⟨N + 1 + 1, 1, none⟩ (.slice va nv.length vcap)).setCell ⟨N + 1 + 1, 2, none⟩ (.bool false) = q := ⟨_, rfl⟩
            have hrw : we.heap[N + 1 + 1]? = some (.cells #[.int .i64 c3, .slice va nv.length vcap, .bool false] 70 (0, 0)) := by rw [← hwe]; exact row_setCell (row_setCell (row_setCell hOb'.out _) _) _
            have hfe : Fr (fun k => k = N + 1 + 1) wb we := by
              rw [← hwe]
              exact ((Fr.setC (fun k => k = N + 1 + 1) wb ⟨N + 1 + 1, 0, none⟩ _ rfl).trans (Fr.setC (fun k => k = N + 1 + 1) _ ⟨N + 1 + 1, 1, none⟩ _ rfl) (fun i hi => .inl hi)).trans (Fr.setC (fun k => k = N + 1 + 1) _ ⟨N + 1 + 1, 2, none⟩ _ rfl) (fun i hi => .inl hi)
            have hoe := owns_fr hfe Hob.out (fun k hk e => by have := (World.ownsRow.lt Hob.out k hk).1; omega)
            obtain ⟨ra, rc, hre, hSe⟩ := OwnN.reads (xs := nv) hoe
            have HSe := Lib.hid hSe
            have HBe : Hid (Below w.heap.size w we) := HBw2.out.trans ((HFb.out.below (by omega) (fun k hk => by omega)).trans (hfe.below (by have := HFb.out.size; omega) (fun k hk => by omega)))
            injection hre with hre1 hre2 hre3
            rw [hwe]
            have k0 : we.cell? ⟨N + 1 + 1, 0, none⟩ = some (.int .i64 c3) := cell_of_row _ _ 0 _ _ _ hrw
            have k1 : we.cell? ⟨N + 1 + 1, 1, none⟩ = some (.slice va nv.length vcap) := cell_of_row _ _ 1 _ _ _ hrw
            have k2 : we.cell? ⟨N + 1 + 1, 2, none⟩ = some (.bool false) := cell_of_row _ _ 2 _ _ _ hrw
            refine bodyPost_ret (v := .agg #[.int .i64 c3, .slice va nv.length vcap, .bool false]) (by simp [results, Try.results24, go_sem, k0, k1, k2]) rfl ⟨⟨c3, nv, false⟩, va, vcap, HSv.out, rfl, ?_, by rw [← hN]; exact HBe.out⟩
            dsimp only
            rw [hre1, hre3]
            exact HSe.out
          · go_upto_region 52 with fail
            obtain ⟨wb, hwb⟩ : ∃ q, wa.setCell ⟨N + 3, 2, none⟩ (.bool qc) = q := ⟨_, rfl⟩
            have hrow := row_setCell hLa.out.row (i := 2) (.bool qc)
            have hfb : Fr (fun k => k = N + 3) wa (wa.setCell ⟨N + 3, 2, none⟩ (.bool qc)) := Fr.setC (fun k => k = N + 3) wa ⟨N + 3, 2, none⟩ _ rfl
            have hob := owns_fr hfb hLa.out.own (fun k hk e => by have := (World.ownsRow.lt hLa.out.own k hk).1; omega)
            have hOb := (hfb.block (N + 2) (by have := (Array.getElem?_eq_some_iff.1 HOut.out).1; exact this) (by omega)).trans HOut.out
            rw [hwb] at hrow hfb hob hOb ⊢
            have HFb := Lib.hid (hLa.out.fr.trans hfb (fun i hi => .inl hi))
            have HOb := Lib.hid hOb
            have Hob := Lib.hid hob
            rw [show N + 2 = N + 1 + 1 from rfl] at hOb
            have y0 := cell_of_row _ _ 0 _ _ _ hOb
            have y1 := cell_of_row _ _ 1 _ _ _ hOb
            have y2 := cell_of_row _ _ 2 _ _ _ hOb
            simp at y0 y1 y2
            have z0 := row_free hOb 0
            have z1 := row_free hOb 1
            have z2 := row_free hOb 2
            have cS := block_part hrow (i := 0) (n := 3) [.int .i64 c3, .slice va nv.length vcap, .bool qc] rfl
            have hOb' := Lib.hid hOb
            clear hrow hfb hob hOb hwb m2 f2
            go_wp2_with ((with_reducible refine at_slot 212 ?_); go_must (refine wpList_load_at aggStep rfl _ rfl ⟨N + 3, 0, none⟩ rfl _ rfl cS ?_))
            obtain ⟨we, hwe⟩ : ∃ q, ((wb.setCell ⟨N + 1 + 1, 0, none⟩ (.int .i64 c3)).setCell ⟨N + 1 + 1, 1, none⟩ (.slice va nv.length vcap)).setCell ⟨N + 1 + 1, 2, none⟩ (.bool qc) = q := ⟨_, rfl⟩
            have hrw : we.heap[N + 1 + 1]? = some (.cells #[.int .i64 c3, .slice va nv.length vcap, .bool qc] 70 (0, 0)) := by rw [← hwe]; exact row_setCell (row_setCell (row_setCell hOb'.out _) _) _
            have hfe : Fr (fun k => k = N + 1 + 1) wb we := by
              rw [← hwe]
              exact ((Fr.setC (fun k => k = N + 1 + 1) wb ⟨N + 1 + 1, 0, none⟩ _ rfl).trans (Fr.setC (fun k => k = N + 1 + 1) _ ⟨N + 1 + 1, 1, none⟩ _ rfl) (fun i hi => .inl hi)).trans (Fr.setC (fun k => k = N + 1 + 1) _ ⟨N + 1 + 1, 2, none⟩ _ rfl) (fun i hi => .inl hi)
            have hoe := owns_fr hfe Hob.out (fun k hk e => by have := (World.ownsRow.lt Hob.out k hk).1; omega)
            obtain ⟨ra, rc, hre, hSe⟩ := OwnN.reads (xs := nv) hoe
            have HSe := Lib.hid hSe
            have HBe : Hid (Below w.heap.size w we) := HBw2.out.trans ((HFb.out.below (by omega) (fun k hk => by omega)).trans (hfe.below (by have := HFb.out.size; omega) (fun k hk => by omega)))
            injection hre with hre1 hre2 hre3
            rw [hwe]
            have k0 : we.cell? ⟨N + 1 + 1, 0, none⟩ = some (.int .i64 c3) := cell_of_row _ _ 0 _ _ _ hrw
            have k1 : we.cell? ⟨N + 1 + 1, 1, none⟩ = some (.slice va nv.length vcap) := cell_of_row _ _ 1 _ _ _ hrw
            have k2 : we.cell? ⟨N + 1 + 1, 2, none⟩ = some (.bool qc) := cell_of_row _ _ 2 _ _ _ hrw
            refine bodyPost_ret (v := .agg #[.int .i64 c3, .slice va nv.length vcap, .bool qc]) (by simp [results, Try.results24, go_sem, k0, k1, k2]) rfl ⟨⟨c3, nv, qc⟩, va, vcap, HSv.out, rfl, ?_, by rw [← hN]; exact HBe.out⟩
            dsimp only
            rw [hre1, hre3]
            exact HSe.out
  case first =>
   go_wp2_with fail
   go_loopw [8, 10, 11, 12, 13, 30] (fun v8 v10 v11 v12 v13 i wr => ∃ (k : Nat) (q : PS), k ≤ n ∧ i = .int .i64 k ∧ v10 = .int .i64 q.old ∧ v11 = .int .i64 q.now ∧ v12 = .int .i64 q.ready ∧ v13 = .int .i64 q.rnew ∧
      Hid (q.old ≤ k ∧ q.now ≤ k ∧ q.ready ≤ k ∧ q.rnew ≤ k ∧ q.ord.length ≤ k) ∧ Hid ((l.take k).foldl (PS.step x) ps0 = q) ∧ Hid (OwnOb wr w1.heap.size v8 q.ord) ∧ Hid (∀ y ∈ q.ord, y ∈ l) ∧ Hid (Below w1.heap.size w1 wr)) (fun _ _ _ _ _ i _ => n - (intOf i).toNat)
   case atStart => exact ⟨0, ps0, Nat.zero_le _, rfl, rfl, rfl, rfl, rfl, ⟨Nat.le_refl _, Nat.le_refl _, Nat.le_refl _, Nat.le_refl _, Nat.le_refl _⟩, rfl, OwnOb.nil _ _, (fun y hy => by cases hy), Below.refl _ _⟩
   case round =>
     obtain ⟨k, q, hk, rfl, rfl, rfl, rfl, rfl, hbd, hst, ho, hmem, hb⟩ := hrel
     obtain ⟨wq, rfl⟩ : ∃ wq : World, wq = wr := ⟨_, rfl⟩
     by_cases hlt : k < n
     · have hS2 := (HS.out.flatKeeps (Keeps.below HB1.out)).flatKeeps (Keeps.below hb.out)
       obtain ⟨b0, off, rfl⟩ := hS2.ptr (by decide) (by omega)
       have kx : k < l.length := by have := hS2.hlen; omega
       have hcl := hS2.flat kx
       have hay := HA.out _ (List.getElem_mem kx)
       have hin : l[k] ∈ l := List.getElem_mem kx
       have hnx : (l.take (k + 1)).foldl (PS.step x) ps0 = PS.step x q l[k] := by rw [List.take_succ_eq_append_getElem kx, List.foldl_append, hst.out]; rfl
       have hbn := PS.le x q l[k] k hbd.out
       obtain ⟨y, hy⟩ : ∃ y, l[k] = y := ⟨_, rfl⟩
       rw [hy] at hcl hay hin hnx hbn
       have hsz := hb.out.size
       obtain ⟨W2, hW2⟩ : ∃ W, wq.alloc (.cells y.cells.toArray 44) = W := ⟨_, rfl⟩
       obtain ⟨bo, hbo⟩ : ∃ bo, wq.heap.size = bo := ⟨_, rfl⟩
       have hbW : Below wq.heap.size wq W2 := by rw [← hW2]; exact (Below.refl _ _).alloc (Nat.le_refl _) _
       have hboW : bo < W2.heap.size := by rw [← hW2, ← hbo]; simp
       have hnc : ∀ j u, y.cells[j]? = some u → W2.cell? ⟨bo, j, none⟩ = some u := by rw [← hW2, ← hbo]; exact ob_new wq y _
       have HbW := Lib.hid (hb.out.trans (hbW.mono hsz))
       have HO2 : Hid (OwnOb W2 w1.heap.size u8 q.ord) := owns_fr (Fr.of_below hbW (fun _ => False)) ho.out (fun _ _ h => h)
       have k0 := hnc 0 _ y.h0
       have k10 := hnc 10 _ y.h10
       have k12 := hnc 12 _ y.h12
       have x1' := Below.cell_some HbW.out x1
       have hsW : w1.heap.size ≤ W2.heap.size := HbW.out.size
       have Hbn := Lib.hid hbn
       have Hnx := Lib.hid hnx
       have Hay := Lib.hid hay
       have Hin := Lib.hid hin
       obtain ⟨kb, hkb⟩ : ∃ q, (y.kd == 1) = q := ⟨_, rfl⟩
       obtain ⟨ob, hob⟩ : ∃ q, (y.o.p.owner.toList == xn.toList) = q := ⟨_, rfl⟩
       obtain ⟨fb, hfb⟩ : ∃ q, (y.o.p.phase == 3) = q := ⟨_, rfl⟩
       obtain ⟨rb, hrb⟩ : ∃ q, (y.o.p.phase == 2) = q := ⟨_, rfl⟩
       have hlv : isLive x.nm y.ov = ((kb && ob) && !fb) := by
         rw [Hxn.out, ← hkb, ← hob, ← hfb]
         rfl
       have Hlv := Lib.hid hlv
       have Hrb := Lib.hid hrb
       have Hcy : Hid (∀ (V : World), Below w.heap.size w V → Calls Try.prog 26 #[.agg xc.toArray, .agg y.cells.toArray] V fun e w' => e = .returned (.bool (freshB x y)) ∧ Below V.heap.size V w') := fun V hV => HFr.out V y hV Hay.out
       obtain ⟨yc, hyc⟩ : ∃ c, y.cells = c := ⟨_, rfl⟩
       have hycl : yc.length = 47 := by rw [← hyc]; rfl
       have hyo : yc.all (fun u => u.oneCell') = true := by rw [← hyc]; exact y.one
       have Hyc := Lib.hid hyc
       rw [hyc] at hcl hW2 hnc Hcy
       have Hcl := Lib.hid hcl
       have Hnc := Lib.hid hnc
       have Hkb := Lib.hid hkb
       have Hob := Lib.hid hob
       have Hfb := Lib.hid hfb
       clear hcl hS2 hy hbW hnc hyc hay hin hnx hbn hlv hkb hob hfb hrb ho
       have hgo : ∀ (K : Prop), ((kb && ob) && !fb) = false → K → K := fun K _ h => h
       cases hm : ((kb && ob) && !fb)
       · have HN2 : Hid ((l.take (k + 1)).foldl (PS.step x) ps0 = q) := by
           show _ = _
           rw [Hnx.out]
           unfold PS.step
           rw [Hlv.out, hm]
           rfl
         clear hgo
         cases kb
         · have hk : (y.kd != 1) = true := by rw [bne, Hkb.out]; rfl
           clear k12 k10 x1'
           go_wp2_with (first
           | ((with_reducible refine at_slot 33 ?_); go_must (refine wpList_load_at aggObI rfl _ rfl ⟨b0, off + k * 47, none⟩ rfl yc hycl (fun j u hu => by rw [Addr.add_lit]; exact Hcl.out j u hu) ?_))
           | ((with_reducible refine at_slot 15 ?_); go_must (refine wpList_var aggObI rfl rfl rfl _ _ rfl rfl yc.toArray rfl rfl (by simp [hycl]) (by simpa using hyo) ?_; rw [hW2, hbo])))
           go_roundw
           case rel => exact ⟨k + 1, q, by omega, by go_num, rfl, rfl, rfl, rfl, by have := hbd.out; exact ⟨by omega, by omega, by omega, by omega, by omega⟩, HN2, HO2, hmem, HbW⟩
           case measure => simp [intOf]; omega
         · rw [eq_of_beq Hkb.out] at k0
           cases ob
           · have hw := Hob.out
             clear k12
             go_wp2_with (first
             | ((with_reducible refine at_slot 33 ?_); go_must (refine wpList_load_at aggObI rfl _ rfl ⟨b0, off + k * 47, none⟩ rfl yc hycl (fun j u hu => by rw [Addr.add_lit]; exact Hcl.out j u hu) ?_))
             | ((with_reducible refine at_slot 15 ?_); go_must (refine wpList_var aggObI rfl rfl rfl _ _ rfl rfl yc.toArray rfl rfl (by simp [hycl]) (by simpa using hyo) ?_; rw [hW2, hbo])))
             go_roundw
             case rel => exact ⟨k + 1, q, by omega, by go_num, rfl, rfl, rfl, rfl, by have := hbd.out; exact ⟨by omega, by omega, by omega, by omega, by omega⟩, HN2, HO2, hmem, HbW⟩
             case measure => simp [intOf]; omega
           · have hw := Hob.out
             obtain rfl : fb = true := by simpa using hm
             rw [eq_of_beq Hfb.out] at k12
             go_wp2_with (first
             | ((with_reducible refine at_slot 33 ?_); go_must (refine wpList_load_at aggObI rfl _ rfl ⟨b0, off + k * 47, none⟩ rfl yc hycl (fun j u hu => by rw [Addr.add_lit]; exact Hcl.out j u hu) ?_))
             | ((with_reducible refine at_slot 15 ?_); go_must (refine wpList_var aggObI rfl rfl rfl _ _ rfl rfl yc.toArray rfl rfl (by simp [hycl]) (by simpa using hyo) ?_; rw [hW2, hbo])))
             go_roundw
             case rel => exact ⟨k + 1, q, by omega, by go_num, rfl, rfl, rfl, rfl, by have := hbd.out; exact ⟨by omega, by omega, by omega, by omega, by omega⟩, HN2, HO2, hmem, HbW⟩
             case measure => simp [intOf]; omega
       · have hk1 : kb = true ∧ ob = true ∧ fb = false := by
           cases kb
           · cases hm
           · cases ob
             · cases hm
             · cases fb
               · exact ⟨rfl, rfl, rfl⟩
               · cases hm
         obtain ⟨rfl, rfl, rfl⟩ := hk1
         have hstep : PS.step x q y = q.put x y := by unfold PS.step; rw [Hlv.out]; rfl
         have HN2 : Hid ((l.take (k + 1)).foldl (PS.step x) ps0 = q.put x y) := by show _ = _; rw [Hnx.out, hstep]
         have hbn2 := Hbn.out
         rw [hstep] at hbn2
         have Hbn2 := Lib.hid hbn2
         rw [eq_of_beq Hkb.out] at k0
         have hw := Hob.out
         have h3f := Hfb.out
         have hq5 := hbd.out.2.2.2.2
         obtain ⟨oa, oc, hoe, hSo, _⟩ := HO2.out.reads
         subst hoe
         have hlit := OwnOb.lit HO2.out rfl
         obtain ⟨m, hm2⟩ : ∃ m, q.ord.length = m := ⟨_, rfl⟩
         rw [hm2] at hSo hq5 HO2 ⊢
         have g1 := hSo.hmax
         have g2 := hSo.hcap
         unfold maxLen at g1
         have Hm2 := Lib.hid hm2
         have HSo := Lib.hid hSo
         have Hlit := Lib.hid hlit
         have Hmem := hmem
         clear hm hgo hstep hbn2 hSo hlit hm2 Hbn Hnx Hlv hmem
         go_upto_block 2 with (first
           | ((with_reducible refine at_slot 33 ?_); go_must (refine wpList_load_at aggObI rfl _ rfl ⟨b0, off + k * 47, none⟩ rfl yc hycl (fun j u hu => by rw [Addr.add_lit]; exact Hcl.out j u hu) ?_))
           | ((with_reducible refine at_slot 15 ?_); go_must (refine wpList_var aggObI rfl rfl rfl _ _ rfl rfl yc.toArray rfl rfl (by simp [hycl]) (by simpa using hyo) ?_; rw [hW2, hbo])))
         go_cut [16] from 51 to 64 (fun v wx => ∃ j : Nat, v = .int .i64 j ∧ j ≤ m ∧ Hid (∀ z ∈ q.ord.take j, soonI z y = true) ∧ Hid (∀ z, q.ord[j]? = some z → soonI z y = false) ∧ Hid (Below W2.heap.size W2 wx))
         case first =>
          go_wp2_with fail
          go_loopw [16] (fun v wx => ∃ j : Nat, v = .int .i64 j ∧ j ≤ m ∧ Hid (∀ z ∈ q.ord.take j, soonI z y = true) ∧ Hid (Below W2.heap.size W2 wx)) (fun v _ => m - (intOf v).toNat)
          case atStart => exact ⟨0, rfl, Nat.zero_le _, (fun z hz => by simp at hz), Below.refl _ _⟩
          case round =>
            obtain ⟨j, rfl, hj, hall, hb2⟩ := hrel
            obtain ⟨wp, rfl⟩ : ∃ wp : World, wp = wr := ⟨_, rfl⟩
            by_cases hjm : j < m
            · have hS3 := HSo.out.flatKeeps (Keeps.below hb2.out)
              obtain ⟨g0, off0, rfl⟩ := hS3.ptr (by decide) (by omega)
              have jx : j < q.ord.length := by have := Hm2.out; omega
              have ce0 := hS3.flat jx
              have htk : q.ord.take (j + 1) = q.ord.take j ++ [q.ord[j]] := List.take_succ_eq_append_getElem jx
              have hgj : q.ord[j]? = some q.ord[j] := List.getElem?_eq_getElem jx
              obtain ⟨z, hz⟩ : ∃ z, q.ord[j] = z := ⟨_, rfl⟩
              rw [hz] at ce0 htk hgj
              have hsn : ∀ W, Calls Try.prog 51 #[.agg z.cells.toArray, .agg y.cells.toArray] W fun e w' => e = .returned (.bool (soonI z y)) ∧ Below W.heap.size W w' := fun W => sooner_any z.ov y.ov W
              obtain ⟨zc, hzc⟩ : ∃ c, z.cells = c := ⟨_, rfl⟩
              have hzcl : zc.length = 47 := by rw [← hzc]; rfl
              rw [hzc] at ce0 hsn
              rw [Hyc.out] at hsn
              obtain ⟨sb, hsb⟩ : ∃ q, soonI z y = q := ⟨_, rfl⟩
              rw [hsb] at hsn
              have ce : ∀ t u, zc[t]? = some u → wp.cell? (Addr.add ⟨g0, off0 + j * 47, none⟩ t) = some u := fun t u hu => by rw [Addr.add_lit]; exact ce0 t u hu
              have de : ∀ t u, yc[t]? = some u → wp.cell? (Addr.add ⟨bo, 0, none⟩ t) = some u := fun t u hu => by rw [Addr.add_lit, Nat.zero_add]; exact Below.cell_some hb2.out (Hnc.out t u hu)
              have HSn := Lib.hid hsn
              have Hsb := Lib.hid hsb
              have Htk := Lib.hid htk
              have Hgj := Lib.hid hgj
              have HS3 := Lib.hid hS3
              have hslt := hb2.out.size
              clear hsn hsb htk hgj ce0 hz hzc hS3
              replace ce := BW.cells ce
              replace de := BW.cells de
              go_upto_region 10 with fail
              refine wp_region_head_lit 11 (fun w' => ∃ p : BW wp, w' = p.w') (by kernel_rfl) (by kernel_rfl) ⟨⟨{ wp with drawn := wp.drawn + 1 }, ⟨rfl, rfl, rfl, Nat.le_refl _, fun _ _ => rfl⟩⟩, rfl⟩ ?_
              simp only [List.take_succ_cons, List.take_zero, List.drop_succ_cons, List.drop_zero]
              repeat (first | (refine wpQuiet_load aggObI rfl _ rfl ⟨g0, off0 + j * 47, none⟩ rfl zc hzcl (by rintro _ ⟨bw, rfl⟩; exact ce bw) ?_) | (refine wpQuiet_load aggObI rfl _ rfl ⟨bo, 0, none⟩ rfl yc hycl (by rintro _ ⟨bw, rfl⟩; exact de bw) ?_) | quiet_step (first | (go_at_call 51; exact BW.call _ (HSn.out _)) | exact rfl))
              refine wpQuiet_nil ?_
              intro w3 hw'
              obtain ⟨⟨_, hb3⟩, e3⟩ := hw'
              dsimp only at e3
              subst e3
              have Hb3 := Lib.hid (hb2.out.trans (hb3.mono hslt))
              clear hb3 ce de
              cases sb
              · go_wp2_with fail
                go_meet
                case rel => exact ⟨j, rfl, hj, hall, (fun z' hz' => by rw [Hgj.out] at hz'; cases hz'; exact Hsb.out), Hb3⟩
              · go_wp2_with fail
                go_roundw
                case rel => exact ⟨j + 1, by go_num, by omega, (fun z' hz' => by
                  rw [Htk.out] at hz'
                  rcases List.mem_append.1 hz' with h | h
                  · exact hall.out z' h
                  · rw [List.mem_singleton.1 h]; exact Hsb.out), Hb3⟩
                case measure => simp [intOf]; omega
            · obtain rfl : j = m := by omega
              have hslt := hb2.out.size
              go_upto_region 10 with fail
              refine wp_region_head_lit 11 (fun w' => ∃ p : BW wp, w' = p.w') (by kernel_rfl) (by kernel_rfl) ⟨⟨{ wp with drawn := wp.drawn + 1 }, ⟨rfl, rfl, rfl, Nat.le_refl _, fun _ _ => rfl⟩⟩, rfl⟩ ?_
              simp only [List.take_succ_cons, List.take_zero, List.drop_succ_cons, List.drop_zero]
              repeat (quiet_step (exact rfl))
              refine wpQuiet_nil ?_
              intro w3 hw'
              obtain ⟨⟨_, hb3⟩, e3⟩ := hw'
              dsimp only at e3
              subst e3
              have Hb3 := Lib.hid (hb2.out.trans (hb3.mono hslt))
              clear hb3
              go_wp2_with fail
              go_meet
              case rel => exact ⟨j, rfl, hj, hall, (fun z' hz' => by rw [List.getElem?_eq_none (by have := Hm2.out; omega)] at hz'; cases hz'), Hb3⟩
         case rest =>
          obtain ⟨j, rfl, hj, hall, hno, hb2⟩ := hcut
          obtain ⟨wp, rfl⟩ : ∃ wp : World, wp = wc := ⟨_, rfl⟩
          have HIns := Lib.hid (insAt_at soonI y q.ord j hall.out hno.out (by rw [Hm2.out]; exact hj))
          have hslt := hb2.out.size
          have hde : ∀ t u, yc[t]? = some u → wp.cell? (Addr.add ⟨bo, 0, none⟩ t) = some u := fun t u hu => by rw [Addr.add_lit, Nat.zero_add]; exact Below.cell_some hb2.out (Hnc.out t u hu)
          have de := BW.cells hde
          clear hall hno hde
          go_upto_region 12 with fail
          refine region_later mixedN ?_
          obtain ⟨wD, hwD⟩ : ∃ q : World, { wp with drawn := wp.drawn + 1 } = q := ⟨_, rfl⟩
          have hbD : Below wp.heap.size wp wD := by rw [← hwD]; exact ⟨rfl, rfl, rfl, Nat.le_refl _, fun _ _ => rfl⟩
          rw [hwD]
          have HbD := Lib.hid (hb2.out.trans (hbD.mono hslt))
          have hsD := HbD.out.size
          have HSD := Lib.hid (HSo.out.flatKeeps (Keeps.below HbD.out))
          refine later_phase (fun w' => ∃ b : BW wp, w' = b.w') [5, 9, 10] 5 0 11 30 (by kernel_rfl) (by kernel_rfl) ⟨⟨wD, hbD⟩, rfl⟩ ?_
          clear hbD hwD hb2
          repeat (first | (refine wpVal_skipR rfl ?_) | (refine wpVal_takeR rfl ?_; first | (refine wpVal_loadK aggObI rfl _ rfl _ rfl _ hycl (by rintro _ ⟨bw, rfl⟩; exact de bw) (fun K hK => ?_); go_simp; refine hK _ ?_; clear hK K) | (refine wpVal_oneK rfl (fun K hK => ?_); refine ⟨_, exec_full elemObI _ _ _ rfl oa m oc j rfl rfl rfl hj g2 Hlit.out, ?_⟩; go_simp; refine hK _ ?_; clear hK K) | (refine wpVal_oneK rfl (fun K hK => ?_); refine ⟨_, exec_cut elemObI _ _ rfl oa m oc j rfl rfl hj, ?_⟩; go_simp; refine hK _ ?_; clear hK K) | (refine wpVal_oneK rfl (fun K hK => ?_); refine ⟨_, fun w => by go_simp; rfl, ?_⟩; go_simp; refine hK _ ?_; clear hK K)))
          refine wpVal_endR ?_
          refine wpLoud_build rfl rfl 54 1 [(0, .tmp 69)] rfl [(0, .agg yc.toArray)] rfl yc.toArray 44 (oneList yc hycl) ⟨fun h => absurd h (by decide), ?_⟩
          have hob := own_built (B := wD.heap.size) hycl (Nat.le_refl wD.heap.size)
          obtain ⟨wb, hwb⟩ : ∃ q, wD.alloc (.cells yc.toArray 44) = q := ⟨_, rfl⟩
          have hbb : Below wD.heap.size wD wb := by rw [← hwb]; exact (Below.refl _ _).alloc (Nat.le_refl _) _
          rw [hwb] at hob ⊢
          have hSb := HSD.out.flatKeeps (Keeps.below hbb)
          have hDb := hSb.dropO Hlit.out hj
          refine wpLoud_append_slr elemObI rfl rfl (.tmp 70) (.tmp 73) rfl wD.heap.size (.slice (some ⟨wD.heap.size, 0, none⟩) 1 1) 1 yc rfl hob hbb.size (f := ObI.cells) (fun _ => rfl) (dropA oa 47 oc j) (m - j) (oc - j) (q.ord.drop j) rfl hDb (fun y u hu => List.all_eq_true.1 y.one u hu) (by unfold maxLen; omega) (by omega) ?_
          intro v1 wc1 ho1 hg1
          refine ⟨fun h => absurd h (by decide), ?_⟩
          have hb1c : Below wD.heap.size wD wc1 := hbb.grown hg1 hbb.size (fun k hk => (World.ownsRow.lt hob k hk).1)
          have hSc := HSD.out.flatKeeps (Keeps.below hb1c)
          have hTc := hSc.takeO hj
          rw [← Hyc.out] at ho1
          obtain ⟨a1, c1, hv1, hS1, hlo1⟩ := SlR.of_owns (f := ObI.cells) (xs := y :: q.ord.drop j) (sz := 47) (by rw [List.flatMap_cons]; exact ho1) (by rw [List.length_cons, List.length_drop, Hm2.out]; omega) (fun _ => rfl)
          subst hv1
          have hal : 0 < 1 + (m - j) := by omega
          obtain ⟨gg1, off1, rfl⟩ := hS1.ptr (by decide) hal
          refine wpLoud_append_grows elemObI rfl rfl (.tmp 68) (.tmp 74) rfl (f := ObI.cells) (fun _ => rfl) oa j (q.ord.take j) rfl hTc ⟨gg1, off1, none⟩ (1 + (m - j)) c1 (y :: q.ord.drop j) rfl hS1 (fun y u hu => List.all_eq_true.1 y.one u hu) hal (by unfold maxLen; omega) (by omega) ?_
          intro v2 wc2 ho2 hgg2
          refine ⟨fun h => absurd h (by decide), ?_⟩
          have hb2c : Below wD.heap.size wD wc2 := hb1c.grown hgg2 hb1c.size (fun k hk => by cases hk)
          rw [HIns.out] at ho2
          have HOn : Hid (OwnOb wc2 w1.heap.size v2 (insAt soonI y q.ord)) := by
            show OwnOb _ _ _ _
            unfold OwnOb
            rw [(insAt_perm soonI y q.ord).length_eq, List.length_cons, Hm2.out, show m + 1 = j + (1 + (m - j)) by omega]
            exact World.ownsRow.mono ho2 (by have := hb1c.size; omega)
          have HBc := Lib.hid (HbD.out.trans (hb2c.mono hsD))
          have HMn : Hid (∀ z ∈ insAt soonI y q.ord, z ∈ l) := fun z hz => by
            rcases List.mem_cons.1 ((insAt_perm soonI y q.ord).mem_iff.1 hz) with rfl | h
            · exact Hin.out
            · exact Hmem.out z h
          clear hb2c ho2 hgg2 hTc hSc hb1c ho1 hg1 hS1 hlo1 hDb hSb hbb hwb hob HSD HbD HIns de
          refine wpLoud_nil ?_
          refine later_phase (fun _ => True) [] 0 11 12 30 (by kernel_rfl) (by kernel_rfl) trivial ?_
          repeat (first | (refine wpVal_skipR rfl ?_) | (refine wpVal_takeR rfl ?_; refine wpVal_oneK rfl (fun K hK => ?_); refine ⟨_, fun w => by go_simp; rfl, ?_⟩; go_simp; refine hK _ ?_; clear hK K))
          refine wpVal_endR ?_
          refine wpLoud_nil ?_
          refine later_end 12 rfl ?_
          go_simp
          have hBw := HB1.out.trans ((HbW.out.trans (HBc.out.mono hsW)).mono hzw)
          have Hnc2 : Hid (∀ t u, yc[t]? = some u → wc2.cell? ⟨bo, t, none⟩ = some u) := fun t u hu => Below.cell_some HBc.out (Hnc.out t u hu)
          have hx2 : ∀ t u, xc[t]? = some u → wc2.cell? ⟨N + 1, t, none⟩ = some u := fun t u hu => Below.cell_some (HbW.out.trans (HBc.out.mono hsW)) (HP1.out.x t u hu)
          have HX2 := Lib.hid hx2
          have HC2 := Lib.hid (Hcy.out wc2 hBw)
          have p12 := Below.cell_some HBc.out k12
          have hsc : W2.heap.size ≤ wc2.heap.size := HBc.out.size
          have hq1 : q.old ≤ 1000 ∧ q.now ≤ 1000 ∧ q.ready ≤ 1000 ∧ q.rnew ≤ 1000 := by have := hbd.out; omega
          have HBend : Hid (∀ w5, Below wc2.heap.size wc2 w5 → Below w1.heap.size w1 w5) := fun w5 h => HbW.out.trans ((HBc.out.trans (h.mono hsc)).mono hsW)
          clear hBw hx2 k0 k10 k12 x1' hw h3f HP1 Hnc
          cases rb
          · have hr2 := Hrb.out
            go_wp2_with (first
              | ((with_reducible refine at_slot 82 ?_); go_must (refine wpList_load_at aggObI rfl _ rfl ⟨N + 1, 0, none⟩ rfl xc hxl (fun j u hu => by rw [Addr.add_lit, Nat.zero_add]; exact HX2.out j u hu) ?_))
              | ((with_reducible refine at_slot 83 ?_); go_must (refine wpList_load_at aggObI rfl _ rfl ⟨bo, 0, none⟩ rfl yc hycl (fun j u hu => by rw [Addr.add_lit, Nat.zero_add]; exact Hnc2.out j u hu) ?_)))
            refine HC2.out.mono ?_
            rintro e w5 ⟨rfl, hb5⟩
            have HB5 := Lib.hid (HBend.out w5 hb5)
            have p12' := Below.cell_some hb5 p12
            have HO5 : Hid (OwnOb w5 w1.heap.size v2 (insAt soonI y q.ord)) := owns_fr (Fr.of_below hb5 (fun _ => False)) HOn.out (fun _ _ h => h)
            clear hb5 p12
            obtain ⟨fv, hfv⟩ : ∃ q, freshB x y = q := ⟨_, rfl⟩
            rw [hfv]
            have e1 : (q.put x y).old = q.old + (if fv = true then 0 else 1) := by unfold PS.put; rw [hfv]
            have e2 : (q.put x y).now = q.now + (if fv = true then 1 else 0) := by unfold PS.put; rw [hfv]
            have e3 : (q.put x y).ready = q.ready + 0 := by unfold PS.put; rw [hr2]; rfl
            have e4 : (q.put x y).rnew = q.rnew + (if fv = true then 0 else 0) := by unfold PS.put; rw [hr2, hfv]; cases fv <;> rfl
            have E1 := Lib.hid e1
            have E2 := Lib.hid e2
            have E3 := Lib.hid e3
            have E4 := Lib.hid e4
            clear e1 e2 e3 e4 hfv
            cases fv
            · have e1 : (q.put x y).old = q.old + 1 := E1.out
              have e2 : (q.put x y).now = q.now + 0 := E2.out
              have e3 : (q.put x y).ready = q.ready + 0 := E3.out
              have e4 : (q.put x y).rnew = q.rnew + 0 := E4.out
              have F1 := Lib.hid e1
              have F2 := Lib.hid e2
              have F3 := Lib.hid e3
              have F4 := Lib.hid e4
              clear e1 e2 e3 e4
              go_wp2_with fail
              go_roundw
              case rel => exact ⟨k + 1, q.put x y, by omega, by go_num, by rw [F1.out]; first | rfl | go_num, by rw [F2.out]; first | rfl | go_num, by rw [F3.out]; first | rfl | go_num, by rw [F4.out]; first | rfl | go_num, Hbn2, HN2, HO5, HMn, HB5⟩
              case measure => simp [intOf]; omega
            · have e1 : (q.put x y).old = q.old + 0 := E1.out
              have e2 : (q.put x y).now = q.now + 1 := E2.out
              have e3 : (q.put x y).ready = q.ready + 0 := E3.out
              have e4 : (q.put x y).rnew = q.rnew + 0 := E4.out
              have F1 := Lib.hid e1
              have F2 := Lib.hid e2
              have F3 := Lib.hid e3
              have F4 := Lib.hid e4
              clear e1 e2 e3 e4
              go_wp2_with fail
              go_roundw
              case rel => exact ⟨k + 1, q.put x y, by omega, by go_num, by rw [F1.out]; first | rfl | go_num, by rw [F2.out]; first | rfl | go_num, by rw [F3.out]; first | rfl | go_num, by rw [F4.out]; first | rfl | go_num, Hbn2, HN2, HO5, HMn, HB5⟩
              case measure => simp [intOf]; omega
          · have hr2 := Hrb.out
            go_wp2_with (first
              | ((with_reducible refine at_slot 82 ?_); go_must (refine wpList_load_at aggObI rfl _ rfl ⟨N + 1, 0, none⟩ rfl xc hxl (fun j u hu => by rw [Addr.add_lit, Nat.zero_add]; exact HX2.out j u hu) ?_))
              | ((with_reducible refine at_slot 83 ?_); go_must (refine wpList_load_at aggObI rfl _ rfl ⟨bo, 0, none⟩ rfl yc hycl (fun j u hu => by rw [Addr.add_lit, Nat.zero_add]; exact Hnc2.out j u hu) ?_)))
            refine HC2.out.mono ?_
            rintro e w5 ⟨rfl, hb5⟩
            have HB5 := Lib.hid (HBend.out w5 hb5)
            have p12' := Below.cell_some hb5 p12
            have HO5 : Hid (OwnOb w5 w1.heap.size v2 (insAt soonI y q.ord)) := owns_fr (Fr.of_below hb5 (fun _ => False)) HOn.out (fun _ _ h => h)
            clear hb5 p12
            obtain ⟨fv, hfv⟩ : ∃ q, freshB x y = q := ⟨_, rfl⟩
            rw [hfv]
            have e1 : (q.put x y).old = q.old + (if fv = true then 0 else 1) := by unfold PS.put; rw [hfv]
            have e2 : (q.put x y).now = q.now + (if fv = true then 1 else 0) := by unfold PS.put; rw [hfv]
            have e3 : (q.put x y).ready = q.ready + 1 := by unfold PS.put; rw [hr2]; rfl
            have e4 : (q.put x y).rnew = q.rnew + (if fv = true then 1 else 0) := by unfold PS.put; rw [hr2, hfv]; cases fv <;> rfl
            have E1 := Lib.hid e1
            have E2 := Lib.hid e2
            have E3 := Lib.hid e3
            have E4 := Lib.hid e4
            clear e1 e2 e3 e4 hfv
            cases fv
            · have e1 : (q.put x y).old = q.old + 1 := E1.out
              have e2 : (q.put x y).now = q.now + 0 := E2.out
              have e3 : (q.put x y).ready = q.ready + 1 := E3.out
              have e4 : (q.put x y).rnew = q.rnew + 0 := E4.out
              have F1 := Lib.hid e1
              have F2 := Lib.hid e2
              have F3 := Lib.hid e3
              have F4 := Lib.hid e4
              clear e1 e2 e3 e4
              go_wp2_with fail
              go_roundw
              case rel => exact ⟨k + 1, q.put x y, by omega, by go_num, by rw [F1.out]; first | rfl | go_num, by rw [F2.out]; first | rfl | go_num, by rw [F3.out]; first | rfl | go_num, by rw [F4.out]; first | rfl | go_num, Hbn2, HN2, HO5, HMn, HB5⟩
              case measure => simp [intOf]; omega
            · have e1 : (q.put x y).old = q.old + 0 := E1.out
              have e2 : (q.put x y).now = q.now + 1 := E2.out
              have e3 : (q.put x y).ready = q.ready + 1 := E3.out
              have e4 : (q.put x y).rnew = q.rnew + 1 := E4.out
              have F1 := Lib.hid e1
              have F2 := Lib.hid e2
              have F3 := Lib.hid e3
              have F4 := Lib.hid e4
              clear e1 e2 e3 e4
              go_wp2_with fail
              go_roundw
              case rel => exact ⟨k + 1, q.put x y, by omega, by go_num, by rw [F1.out]; first | rfl | go_num, by rw [F2.out]; first | rfl | go_num, by rw [F3.out]; first | rfl | go_num, by rw [F4.out]; first | rfl | go_num, Hbn2, HN2, HO5, HMn, HB5⟩
              case measure => simp [intOf]; omega
     · obtain rfl : k = n := by omega
       have ht : l.take k = l := List.take_of_length_le (by have := HS.out.hlen; omega)
       rw [ht] at hst
       go_wp2_with fail
       go_meet
       case rel => exact ⟨q, rfl, rfl, rfl, rfl, hbd, hst, ho, hmem, hb⟩
end Go.Proofs.Ytpbppgfogepjeaa
