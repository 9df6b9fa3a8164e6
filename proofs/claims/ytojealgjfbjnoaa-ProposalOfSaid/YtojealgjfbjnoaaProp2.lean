/- Contracts of proposal.add with each of its three uses. Condition: the quantities are right. -/
import Derived.Test.YtojealgjfbjnoaaStUse2M
namespace Go.Proofs.Ytojealgjfbjnoaa
open Go.ChangeShapes Go.WideShapes Go.ChangeAt Go.RowKit Go.Deep

/-- What add leaves. -/
def AddR (kind target : Int) (f : UseI → Int → Int) (l : List UseI) (u g c e u' g' c' e' : Int) : Prop :=
  (addOf kind target f u g c l = some (u', g', c') ∧ e' = e) ∨ (addOf kind target f u g c l = none ∧ e' = 3)

theorem addOf_drop {kind target : Int} {f : UseI → Int → Int} {l : List UseI} {k : Nat} (hk : k < l.length) (u g c : Int) :
    addOf kind target f u g c (l.drop k) = match goalI kind target l[k].ask with
      | none => none
      | some q => if g + q ≤ 9007199254740992 ∧ u + f l[k] q ≤ 9007199254740992 then addOf kind target f (u + f l[k] q) (g + q) (c + 1) (l.drop (k + 1)) else none := by
  rw [List.drop_eq_getElem_cons hk]
  rfl

theorem goalI_in {kind target ask q : Int} (ht : okQ target = true) (ha : okQ ask = true) (h : goalI kind target ask = some q) : okQ q = true := by
  unfold goalI at h
  split at h
  · simp at h
    rw [← h]
    exact ht
  · split at h
    · cases h
    · rename_i h2
      simp at h
      have ht := of_decide_eq_true ht
      have ha := of_decide_eq_true ha
      rw [← h]
      have := Int.ediv_nonneg (Int.mul_nonneg ha.1 ht.1) (show (0 : Int) ≤ 1000 by decide)
      exact decide_eq_true (by omega)

theorem okq_in {a : Int} (h : 0 ≤ a ∧ a ≤ 9007199254740992) : okQ a = true := decide_eq_true h

theorem set4 {w : World} {b : Nat} {t : TypeId} {a0 a1 a2 a3 : Value} (h : w.heap[b]? = some (.cells #[a0, a1, a2, a3] t (0, 0))) (x0 x1 x2 : Value) :
    (((w.setCell ⟨b, 1, none⟩ x1).setCell ⟨b, 0, none⟩ x0).setCell ⟨b, 2, none⟩ x2).heap[b]? = some (.cells #[x0, x1, x2, a3] t (0, 0)) := by
  rw [row_setCell (row_setCell (row_setCell h x1) x0) x2]; rfl

theorem set4e {w : World} {b : Nat} {t : TypeId} {a0 a1 a2 a3 : Value} (h : w.heap[b]? = some (.cells #[a0, a1, a2, a3] t (0, 0))) (x3 : Value) :
    (w.setCell ⟨b, 3, none⟩ x3).heap[b]? = some (.cells #[a0, a1, a2, x3] t (0, 0)) := by
  rw [row_setCell h x3]; rfl

theorem Fr.setCell {S : Nat → Prop} {a b : World} (h : Fr S a b) (p : Addr) (v : Value) (hp : S p.block) : Fr S a (b.setCell p v) := by
  refine ⟨h.os, h.tape, h.output, by simpa [World.setCell] using h.size, fun k hk hs => ?_⟩
  rw [Below.heap_setCell _ _ _ _ (fun e => hs (by rw [e]; exact hp))]
  exact h.block k hk hs

set_option maxRecDepth 100000 in
set_option maxHeartbeats 4000000 in
theorem add_own (kind target : Int) (nm : ByteArray) (l : List UseI) (ao : Option Addr) (n cap sb : Nat) (u g c e : Int) (w : World) (hS : SlR (Flat UseI.cells) 5 w ao n cap l)
    (hrow : w.heap[sb]? = some (.cells #[.int .i64 u, .int .i64 g, .int .i64 c, .int .i64 e] 60 (0, 0))) (hne : ∀ a, ao = some a → ¬ a.block = sb) (hl : ∀ x ∈ l, okQ x.ask = true ∧ okQ x.use = true) (ht : okQ target = true)
    (hu : okQ u = true) (hg : okQ g = true) (hc : 0 ≤ c ∧ c ≤ 1000000) (hn : n ≤ 1000) :
    Calls Try.prog 20 #[.pointer (some ⟨sb, 0, none⟩), .agg #[.int .i64 kind, .string nm, .int .i64 target], .slice ao n cap, .func (.func 21) #[] #[]] w fun r w' =>
      r = .returned (.tuple #[]) ∧ Fr (fun k => k = sb) w w' ∧ ∃ u' g' c' e', w'.heap[sb]? = some (.cells #[.int .i64 u', .int .i64 g', .int .i64 c', .int .i64 e'] 60 (0, 0)) ∧ okQ u' = true ∧ okQ g' = true ∧ (0 ≤ c' ∧ c' ≤ c + n) ∧ AddR kind target ownI l u g c e u' g' c' e' := by
  have hcm := hS.hmax
  have hlc := hS.hcap
  unfold maxLen at hcm
  have HS := Lib.hid hS
  have Hrow := Lib.hid hrow
  have HL := Lib.hid hl
  have HT := Lib.hid ht
  have HU := Lib.hid hu
  have HG := Lib.hid hg
  have hsb : sb < w.heap.size := (Array.getElem?_eq_some_iff.1 hrow).1
  have Hne := Lib.hid hne
  clear hS hrow hl ht hu hg hne
  go_enter Try.func20, Try.ntmps20
  go_wp2_with fail
  go_loopw [18] (fun i wr => ∃ (k : Nat) (uk gk ck : Int), k ≤ n ∧ i = .int .i64 k ∧ Hid (addOf kind target ownI u g c l = addOf kind target ownI uk gk ck (l.drop k)) ∧ Hid (okQ uk = true ∧ okQ gk = true) ∧ (0 ≤ ck ∧ ck ≤ c + k) ∧
      Hid (wr.heap[sb]? = some (.cells #[.int .i64 uk, .int .i64 gk, .int .i64 ck, .int .i64 e] 60 (0, 0))) ∧ Hid (wr.heap[w.heap.size]? = some (.cells #[.int .i64 kind, .string nm, .int .i64 target] 27 (0, 0))) ∧ Hid (Fr (fun k => k = sb) w wr)) (fun i _ => n - (intOf i).toNat)
  case atStart =>
    refine ⟨0, u, g, c, Nat.zero_le _, rfl, rfl, ⟨HU.out, HG.out⟩, ⟨hc.1, by omega⟩, ?_, heap_alloc_new w _, (Fr.refl _ _).alloc _⟩
    rw [Below.heap_alloc w _ sb hsb]
    exact Hrow.out
  case round =>
    obtain ⟨k, uk, gk, ck, hk, rfl, hA, hq, hck, hrw, hmb, hfr⟩ := hrel
    have q0 := cell_of_row wr sb 0 _ _ _ hrw.out
    have q1 := cell_of_row wr sb 1 _ _ _ hrw.out
    have q2 := cell_of_row wr sb 2 _ _ _ hrw.out
    have m0 := cell_of_row wr w.heap.size 0 _ _ _ hmb.out
    have m1 := cell_of_row wr w.heap.size 1 _ _ _ hmb.out
    have m2 := cell_of_row wr w.heap.size 2 _ _ _ hmb.out
    have hsz := hfr.out.size
    have hmz := (Array.getElem?_eq_some_iff.1 hmb.out).1
    by_cases hlt : k < n
    · have hS2 := HS.out.fr hfr.out Hne.out
      obtain ⟨b0, off, rfl⟩ := hS2.ptr (by decide) (by omega)
      have kx : k < l.length := by have := hS2.hlen; omega
      have hcl := hS2.flat kx
      have hxl := HL.out _ (List.getElem_mem kx)
      have hD := addOf_drop (kind := kind) (target := target) (f := ownI) kx uk gk ck
      obtain ⟨x, hx⟩ : ∃ x, l[k] = x := ⟨_, rfl⟩
      rw [hx] at hcl hxl hD
      have c0 := hcl 0 _ rfl
      have c1 := hcl 1 _ rfl
      have c2 := hcl 2 _ rfl
      have c3 := hcl 3 _ rfl
      have c4 := hcl 4 _ rfl
      rw [Nat.add_zero] at c0
      have HX := Lib.hid hxl
      have hgl := Lib.hid (fun w1 => goal_any kind target nm x w1 HT.out hxl.1)
      obtain ⟨gv, hgv⟩ : ∃ gv, goalV kind target x.ask = gv := ⟨_, rfl⟩
      rw [hgv] at hgl
      obtain ⟨q, qe⟩ := gv
      dsimp only at hgl
      have hqq : okQ q = true := by
        unfold goalV at hgv
        split at hgv
        · rename_i q' hq'
          simp at hgv
          rw [← hgv.1]
          exact goalI_in HT.out hxl.1 hq'
        · simp at hgv
          rw [← hgv.1]
          rfl
      have HQ := Lib.hid hqq
      have h1 := Lib.hid (fun w1 => qadd_any gk q w1 hq.out.2 hqq)
      have hfv : okQ (ownI x q) = true := hxl.2
      have h2 := Lib.hid (fun w1 => qadd_any uk (ownI x q) w1 hq.out.1 hfv)
      have hf2 : Hid (∀ w1 : World, Calls Try.prog 21 #[.agg #[.string x.pod, .bool x.ready, .bool x.has, .int .i64 x.ask, .int .i64 x.use], .int .i64 q] w1 fun e w' => e = .returned (.int .i64 (ownI x q)) ∧ Below w1.heap.size w1 w') := fun w1 => own_any x q w1
      obtain ⟨y, hy⟩ : ∃ y, ownI x q = y := ⟨_, rfl⟩
      have hy0 := Lib.hid hy
      rw [hy] at h2 hfv hf2
      have HFv := Lib.hid hfv
      clear hcl hxl hqq hx hfv hS2
      obtain ⟨pr, hpr⟩ : ∃ pr, qaddOf gk q = pr := ⟨_, rfl⟩
      obtain ⟨ps, hps⟩ : ∃ ps, qaddOf uk y = ps := ⟨_, rfl⟩
      rw [hpr] at h1
      rw [hps] at h2
      obtain ⟨a, ea⟩ := pr
      obtain ⟨b, eb⟩ := ps
      dsimp only at h1 h2
      have hcase : (qe = 0 ∧ ea = 0 ∧ eb = 0 ∧ a = gk + q ∧ b = uk + y ∧ a ≤ 9007199254740992 ∧ b ≤ 9007199254740992 ∧ addOf kind target ownI u g c l = addOf kind target ownI b a (ck + 1) (l.drop (k + 1))) ∨
          (addOf kind target ownI u g c l = none ∧ (qe = 3 ∨ (qe = 0 ∧ ea = 3) ∨ (qe = 0 ∧ ea = 0 ∧ eb = 3))) := by
        unfold goalV at hgv
        unfold qaddOf at hpr hps
        split at hgv
        · rename_i q' hq'
          simp only [Prod.mk.injEq] at hgv
          obtain ⟨rfl, rfl⟩ := hgv
          simp only [hq', hy0.out] at hD
          by_cases g1 : gk + q' ≤ 9007199254740992
          · rw [if_pos g1] at hpr
            simp only [Prod.mk.injEq] at hpr
            obtain ⟨rfl, rfl⟩ := hpr
            by_cases g2 : uk + y ≤ 9007199254740992
            · rw [if_pos g2] at hps
              simp only [Prod.mk.injEq] at hps
              obtain ⟨rfl, rfl⟩ := hps
              exact .inl ⟨rfl, rfl, rfl, rfl, rfl, g1, g2, hA.out.trans (hD.trans (if_pos ⟨g1, g2⟩))⟩
            · rw [if_neg g2] at hps
              simp only [Prod.mk.injEq] at hps
              exact .inr ⟨hA.out.trans (hD.trans (if_neg fun h => g2 h.2)), .inr (.inr ⟨rfl, rfl, hps.2.symm⟩)⟩
          · rw [if_neg g1] at hpr
            simp only [Prod.mk.injEq] at hpr
            exact .inr ⟨hA.out.trans (hD.trans (if_neg fun h => g1 h.1)), .inr (.inl ⟨rfl, hpr.2.symm⟩)⟩
        · rename_i hq'
          simp only [Prod.mk.injEq] at hgv
          simp only [hq'] at hD
          exact .inr ⟨hA.out.trans hD, .inl hgv.2.symm⟩
      clear hD hgv hpr hps hy
      have Hfr := hfr
      have Hk := Lib.hid hck
      rcases hcase with ⟨rfl, rfl, rfl, ha, hb, ha2, hb2, hA2⟩ | ⟨hA2, hw⟩
      · have HA2 := Lib.hid hA2
        have Hab : Hid (okQ b = true ∧ okQ a = true) := by
          have e1 := of_decide_eq_true hq.out.1
          have e2 := of_decide_eq_true hq.out.2
          have e3 := of_decide_eq_true HFv.out
          have e4 := of_decide_eq_true HQ.out
          exact ⟨okq_in (by omega), okq_in (by omega)⟩
        clear ha hb ha2 hb2 hA2
        go_wp2_with fail
        refine (hgl.out _).mono ?_
        rintro r w2 ⟨rfl, hb1⟩
        have hr2 := (hb1.block sb (by simp; omega)).trans ((Below.heap_alloc wr _ sb (by omega)).trans hrw.out)
        have hm2 := (hb1.block w.heap.size (by simp; omega)).trans ((Below.heap_alloc wr _ w.heap.size (by omega)).trans hmb.out)
        have hx2 := (hb1.block wr.heap.size (by simp)).trans (heap_alloc_new wr _)
        have HF2 : Hid (Fr (fun k => k = sb) w w2) := (Hfr.out.alloc _).then hb1
        have HR2 := Lib.hid hr2
        have HM2 := Lib.hid hm2
        have p0 := cell_of_row w2 sb 0 _ _ _ hr2
        have p1 := cell_of_row w2 sb 1 _ _ _ hr2
        have x0 := cell_of_row w2 wr.heap.size 0 _ _ _ hx2
        have x1 := cell_of_row w2 wr.heap.size 1 _ _ _ hx2
        have x2 := cell_of_row w2 wr.heap.size 2 _ _ _ hx2
        have x3 := cell_of_row w2 wr.heap.size 3 _ _ _ hx2
        have x4 := cell_of_row w2 wr.heap.size 4 _ _ _ hx2
        clear hr2 hm2 hx2 hb1 q0 q1 q2 m0 m1 m2 c0 c1 c2 c3 c4
        go_wp2_with fail
        refine (h1.out _).mono ?_
        rintro r w2 ⟨rfl, rfl⟩
        replace p0 := BW.cell p0
        replace p1 := BW.cell p1
        replace x0 := BW.cell x0
        replace x1 := BW.cell x1
        replace x2 := BW.cell x2
        replace x3 := BW.cell x3
        replace x4 := BW.cell x4
        go_upto_region 6 with fail
        refine wp_region_head_lit 13 (fun w' => ∃ p : BW w2, w' = p.w') (by kernel_rfl) (by kernel_rfl) ⟨⟨{ w2 with drawn := w2.drawn + 1 }, ⟨rfl, rfl, rfl, Nat.le_refl _, fun _ _ => rfl⟩⟩, rfl⟩ ?_
        simp only [List.take_succ_cons, List.take_zero, List.drop_succ_cons, List.drop_zero]
        repeat (quiet_step (first | (go_at_call 21; exact BW.call _ (hf2.out _)) | (go_at_call 39; exact BW.call _ ((h2.out _).mono fun _ _ h => ⟨h.1, h.2 ▸ Below.refl _ _⟩)) | exact rfl))
        refine wpQuiet_nil ?_
        intro w3 hw'
        obtain ⟨⟨_, hb3⟩, e3⟩ := hw'
        dsimp only at e3
        subst e3
        have hr3 := (hb3.block sb (by have := HF2.out.size; omega)).trans HR2.out
        have HM3 := Lib.hid ((hb3.block w.heap.size (Array.getElem?_eq_some_iff.1 HM2.out).1).trans HM2.out)
        have HF3 : Hid (Fr (fun k => k = sb) w w3) := HF2.out.then hb3
        have HR3 := Lib.hid hr3
        have q0 := cell_of_row w3 sb 0 _ _ _ hr3
        have q1 := cell_of_row w3 sb 1 _ _ _ hr3
        have q2 := cell_of_row w3 sb 2 _ _ _ hr3
        have q3 := cell_of_row w3 sb 3 _ _ _ hr3
        have z3 := row_free hr3
        have hsz3 := HF3.out.size
        clear hr3 hb3 p0 p1 x0 x1 x2 x3 x4
        have wc1 : wrap64 (ck + 1) = ck + 1 := IntWalk.wrap64_in _ (by omega)
        have wc2 : IntKind.i64.wrap (ck + 1) = ck + 1 := IntWalk.i64_in _ (by omega)
        go_wp2_with fail
        go_roundw
        case rel =>
          refine ⟨k + 1, b, a, ck + 1, by omega, by go_num, HA2.out, Hab.out, ⟨by omega, by go_num⟩, ?_, ?_, ?_⟩
          · exact set4 HR3.out _ _ _
          · have hns : w.heap.size ≠ sb := by omega
            rw [Below.heap_setCell _ _ _ _ hns, Below.heap_setCell _ _ _ _ hns, Below.heap_setCell _ _ _ _ hns]
            exact HM3.out
          · exact ((HF3.out.setCell _ _ rfl).setCell _ _ rfl).setCell _ _ rfl
        case measure => simp [intOf]; omega
      · have HA2 := Lib.hid hA2
        clear hA2
        rcases hw with rfl | ⟨rfl, rfl⟩ | ⟨rfl, rfl, rfl⟩
        all_goals
          go_wp2_with fail
          refine (hgl.out _).mono ?_
          rintro r w2 ⟨rfl, hb1⟩
          have hr2 := (hb1.block sb (by simp; omega)).trans ((Below.heap_alloc wr _ sb (by omega)).trans hrw.out)
          have hm2 := (hb1.block w.heap.size (by simp; omega)).trans ((Below.heap_alloc wr _ w.heap.size (by omega)).trans hmb.out)
          have hx2 := (hb1.block wr.heap.size (by simp)).trans (heap_alloc_new wr _)
          have HF2 : Hid (Fr (fun k => k = sb) w w2) := (Hfr.out.alloc _).then hb1
          have HR2 := Lib.hid hr2
          have HM2 := Lib.hid hm2
          have p0 := cell_of_row w2 sb 0 _ _ _ hr2
          have p1 := cell_of_row w2 sb 1 _ _ _ hr2
          have x0 := cell_of_row w2 wr.heap.size 0 _ _ _ hx2
          have x1 := cell_of_row w2 wr.heap.size 1 _ _ _ hx2
          have x2 := cell_of_row w2 wr.heap.size 2 _ _ _ hx2
          have x3 := cell_of_row w2 wr.heap.size 3 _ _ _ hx2
          have x4 := cell_of_row w2 wr.heap.size 4 _ _ _ hx2
          clear hr2 hm2 hx2 hb1 q0 q1 q2 m0 m1 m2 c0 c1 c2 c3 c4
          go_wp2_with fail
          refine (h1.out _).mono ?_
          rintro r w2 ⟨rfl, rfl⟩
          replace p0 := BW.cell p0
          replace p1 := BW.cell p1
          replace x0 := BW.cell x0
          replace x1 := BW.cell x1
          replace x2 := BW.cell x2
          replace x3 := BW.cell x3
          replace x4 := BW.cell x4
          go_upto_region 6 with fail
          refine wp_region_head_lit 13 (fun w' => ∃ p : BW w2, w' = p.w') (by kernel_rfl) (by kernel_rfl) ⟨⟨{ w2 with drawn := w2.drawn + 1 }, ⟨rfl, rfl, rfl, Nat.le_refl _, fun _ _ => rfl⟩⟩, rfl⟩ ?_
          simp only [List.take_succ_cons, List.take_zero, List.drop_succ_cons, List.drop_zero]
          repeat (quiet_step (first | (go_at_call 21; exact BW.call _ (hf2.out _)) | (go_at_call 39; exact BW.call _ ((h2.out _).mono fun _ _ h => ⟨h.1, h.2 ▸ Below.refl _ _⟩)) | exact rfl))
          refine wpQuiet_nil ?_
          intro w3 hw'
          obtain ⟨⟨_, hb3⟩, e3⟩ := hw'
          dsimp only at e3
          subst e3
          have hr3 := (hb3.block sb (by have := HF2.out.size; omega)).trans HR2.out
          have HM3 := Lib.hid ((hb3.block w.heap.size (Array.getElem?_eq_some_iff.1 HM2.out).1).trans HM2.out)
          have HF3 : Hid (Fr (fun k => k = sb) w w3) := HF2.out.then hb3
          have HR3 := Lib.hid hr3
          have q0 := cell_of_row w3 sb 0 _ _ _ hr3
          have q1 := cell_of_row w3 sb 1 _ _ _ hr3
          have q2 := cell_of_row w3 sb 2 _ _ _ hr3
          have q3 := cell_of_row w3 sb 3 _ _ _ hr3
          have z3 := row_free hr3
          have hsz3 := HF3.out.size
          clear hr3 hb3 p0 p1 x0 x1 x2 x3 x4
          go_wp2_with fail
          refine bodyPost_ret (v := .tuple #[]) (by simp [results, Try.results20, go_sem]) rfl ?_
          exact ⟨rfl, HF3.out.setCell _ _ rfl, uk, gk, ck, 3, set4e HR3.out _, hq.out.1, hq.out.2, ⟨Hk.out.1, by have := Hk.out.2; omega⟩, .inr ⟨HA2.out, rfl⟩⟩
    · obtain rfl : k = n := by omega
      have hd : l.drop k = [] := List.drop_eq_nil_of_le (by have := HS.out.hlen; omega)
      rw [hd] at hA
      have Hfr := hfr
      clear hd
      go_wp2_with fail
      refine bodyPost_end (v := .tuple #[]) (by simp [results, Try.results20, go_sem]) rfl ?_
      exact ⟨rfl, Hfr.out, uk, gk, ck, e, hrw.out, hq.out.1, hq.out.2, hck, .inl ⟨hA.out, rfl⟩⟩

set_option maxRecDepth 100000 in
set_option maxHeartbeats 4000000 in
theorem add_whole (kind target : Int) (nm : ByteArray) (l : List UseI) (ao : Option Addr) (n cap sb : Nat) (u g c e : Int) (w : World) (hS : SlR (Flat UseI.cells) 5 w ao n cap l)
    (hrow : w.heap[sb]? = some (.cells #[.int .i64 u, .int .i64 g, .int .i64 c, .int .i64 e] 60 (0, 0))) (hne : ∀ a, ao = some a → ¬ a.block = sb) (hl : ∀ x ∈ l, okQ x.ask = true ∧ okQ x.use = true) (ht : okQ target = true)
    (hu : okQ u = true) (hg : okQ g = true) (hc : 0 ≤ c ∧ c ≤ 1000000) (hn : n ≤ 1000) :
    Calls Try.prog 20 #[.pointer (some ⟨sb, 0, none⟩), .agg #[.int .i64 kind, .string nm, .int .i64 target], .slice ao n cap, .func (.func 23) #[] #[]] w fun r w' =>
      r = .returned (.tuple #[]) ∧ Fr (fun k => k = sb) w w' ∧ ∃ u' g' c' e', w'.heap[sb]? = some (.cells #[.int .i64 u', .int .i64 g', .int .i64 c', .int .i64 e'] 60 (0, 0)) ∧ okQ u' = true ∧ okQ g' = true ∧ (0 ≤ c' ∧ c' ≤ c + n) ∧ AddR kind target wholeI l u g c e u' g' c' e' := by
  have hcm := hS.hmax
  have hlc := hS.hcap
  unfold maxLen at hcm
  have HS := Lib.hid hS
  have Hrow := Lib.hid hrow
  have HL := Lib.hid hl
  have HT := Lib.hid ht
  have HU := Lib.hid hu
  have HG := Lib.hid hg
  have hsb : sb < w.heap.size := (Array.getElem?_eq_some_iff.1 hrow).1
  have Hne := Lib.hid hne
  clear hS hrow hl ht hu hg hne
  go_enter Try.func20, Try.ntmps20
  go_wp2_with fail
  go_loopw [18] (fun i wr => ∃ (k : Nat) (uk gk ck : Int), k ≤ n ∧ i = .int .i64 k ∧ Hid (addOf kind target wholeI u g c l = addOf kind target wholeI uk gk ck (l.drop k)) ∧ Hid (okQ uk = true ∧ okQ gk = true) ∧ (0 ≤ ck ∧ ck ≤ c + k) ∧
      Hid (wr.heap[sb]? = some (.cells #[.int .i64 uk, .int .i64 gk, .int .i64 ck, .int .i64 e] 60 (0, 0))) ∧ Hid (wr.heap[w.heap.size]? = some (.cells #[.int .i64 kind, .string nm, .int .i64 target] 27 (0, 0))) ∧ Hid (Fr (fun k => k = sb) w wr)) (fun i _ => n - (intOf i).toNat)
  case atStart =>
    refine ⟨0, u, g, c, Nat.zero_le _, rfl, rfl, ⟨HU.out, HG.out⟩, ⟨hc.1, by omega⟩, ?_, heap_alloc_new w _, (Fr.refl _ _).alloc _⟩
    rw [Below.heap_alloc w _ sb hsb]
    exact Hrow.out
  case round =>
    obtain ⟨k, uk, gk, ck, hk, rfl, hA, hq, hck, hrw, hmb, hfr⟩ := hrel
    have q0 := cell_of_row wr sb 0 _ _ _ hrw.out
    have q1 := cell_of_row wr sb 1 _ _ _ hrw.out
    have q2 := cell_of_row wr sb 2 _ _ _ hrw.out
    have m0 := cell_of_row wr w.heap.size 0 _ _ _ hmb.out
    have m1 := cell_of_row wr w.heap.size 1 _ _ _ hmb.out
    have m2 := cell_of_row wr w.heap.size 2 _ _ _ hmb.out
    have hsz := hfr.out.size
    have hmz := (Array.getElem?_eq_some_iff.1 hmb.out).1
    by_cases hlt : k < n
    · have hS2 := HS.out.fr hfr.out Hne.out
      obtain ⟨b0, off, rfl⟩ := hS2.ptr (by decide) (by omega)
      have kx : k < l.length := by have := hS2.hlen; omega
      have hcl := hS2.flat kx
      have hxl := HL.out _ (List.getElem_mem kx)
      have hD := addOf_drop (kind := kind) (target := target) (f := wholeI) kx uk gk ck
      obtain ⟨x, hx⟩ : ∃ x, l[k] = x := ⟨_, rfl⟩
      rw [hx] at hcl hxl hD
      have c0 := hcl 0 _ rfl
      have c1 := hcl 1 _ rfl
      have c2 := hcl 2 _ rfl
      have c3 := hcl 3 _ rfl
      have c4 := hcl 4 _ rfl
      rw [Nat.add_zero] at c0
      have HX := Lib.hid hxl
      have hgl := Lib.hid (fun w1 => goal_any kind target nm x w1 HT.out hxl.1)
      obtain ⟨gv, hgv⟩ : ∃ gv, goalV kind target x.ask = gv := ⟨_, rfl⟩
      rw [hgv] at hgl
      obtain ⟨q, qe⟩ := gv
      dsimp only at hgl
      have hqq : okQ q = true := by
        unfold goalV at hgv
        split at hgv
        · rename_i q' hq'
          simp at hgv
          rw [← hgv.1]
          exact goalI_in HT.out hxl.1 hq'
        · simp at hgv
          rw [← hgv.1]
          rfl
      have HQ := Lib.hid hqq
      have h1 := Lib.hid (fun w1 => qadd_any gk q w1 hq.out.2 hqq)
      have hfv : okQ (wholeI x q) = true := hqq
      have h2 := Lib.hid (fun w1 => qadd_any uk (wholeI x q) w1 hq.out.1 hfv)
      have hf2 : Hid (∀ w1 : World, Calls Try.prog 23 #[.agg #[.string x.pod, .bool x.ready, .bool x.has, .int .i64 x.ask, .int .i64 x.use], .int .i64 q] w1 fun e w' => e = .returned (.int .i64 (wholeI x q)) ∧ Below w1.heap.size w1 w') := fun w1 => whole2_any x q w1
      obtain ⟨y, hy⟩ : ∃ y, wholeI x q = y := ⟨_, rfl⟩
      have hy0 := Lib.hid hy
      rw [hy] at h2 hfv hf2
      have HFv := Lib.hid hfv
      clear hcl hxl hqq hx hfv hS2
      obtain ⟨pr, hpr⟩ : ∃ pr, qaddOf gk q = pr := ⟨_, rfl⟩
      obtain ⟨ps, hps⟩ : ∃ ps, qaddOf uk y = ps := ⟨_, rfl⟩
      rw [hpr] at h1
      rw [hps] at h2
      obtain ⟨a, ea⟩ := pr
      obtain ⟨b, eb⟩ := ps
      dsimp only at h1 h2
      have hcase : (qe = 0 ∧ ea = 0 ∧ eb = 0 ∧ a = gk + q ∧ b = uk + y ∧ a ≤ 9007199254740992 ∧ b ≤ 9007199254740992 ∧ addOf kind target wholeI u g c l = addOf kind target wholeI b a (ck + 1) (l.drop (k + 1))) ∨
          (addOf kind target wholeI u g c l = none ∧ (qe = 3 ∨ (qe = 0 ∧ ea = 3) ∨ (qe = 0 ∧ ea = 0 ∧ eb = 3))) := by
        unfold goalV at hgv
        unfold qaddOf at hpr hps
        split at hgv
        · rename_i q' hq'
          simp only [Prod.mk.injEq] at hgv
          obtain ⟨rfl, rfl⟩ := hgv
          simp only [hq', hy0.out] at hD
          by_cases g1 : gk + q' ≤ 9007199254740992
          · rw [if_pos g1] at hpr
            simp only [Prod.mk.injEq] at hpr
            obtain ⟨rfl, rfl⟩ := hpr
            by_cases g2 : uk + y ≤ 9007199254740992
            · rw [if_pos g2] at hps
              simp only [Prod.mk.injEq] at hps
              obtain ⟨rfl, rfl⟩ := hps
              exact .inl ⟨rfl, rfl, rfl, rfl, rfl, g1, g2, hA.out.trans (hD.trans (if_pos ⟨g1, g2⟩))⟩
            · rw [if_neg g2] at hps
              simp only [Prod.mk.injEq] at hps
              exact .inr ⟨hA.out.trans (hD.trans (if_neg fun h => g2 h.2)), .inr (.inr ⟨rfl, rfl, hps.2.symm⟩)⟩
          · rw [if_neg g1] at hpr
            simp only [Prod.mk.injEq] at hpr
            exact .inr ⟨hA.out.trans (hD.trans (if_neg fun h => g1 h.1)), .inr (.inl ⟨rfl, hpr.2.symm⟩)⟩
        · rename_i hq'
          simp only [Prod.mk.injEq] at hgv
          simp only [hq'] at hD
          exact .inr ⟨hA.out.trans hD, .inl hgv.2.symm⟩
      clear hD hgv hpr hps hy
      have Hfr := hfr
      have Hk := Lib.hid hck
      rcases hcase with ⟨rfl, rfl, rfl, ha, hb, ha2, hb2, hA2⟩ | ⟨hA2, hw⟩
      · have HA2 := Lib.hid hA2
        have Hab : Hid (okQ b = true ∧ okQ a = true) := by
          have e1 := of_decide_eq_true hq.out.1
          have e2 := of_decide_eq_true hq.out.2
          have e3 := of_decide_eq_true HFv.out
          have e4 := of_decide_eq_true HQ.out
          exact ⟨okq_in (by omega), okq_in (by omega)⟩
        clear ha hb ha2 hb2 hA2
        go_wp2_with fail
        refine (hgl.out _).mono ?_
        rintro r w2 ⟨rfl, hb1⟩
        have hr2 := (hb1.block sb (by simp; omega)).trans ((Below.heap_alloc wr _ sb (by omega)).trans hrw.out)
        have hm2 := (hb1.block w.heap.size (by simp; omega)).trans ((Below.heap_alloc wr _ w.heap.size (by omega)).trans hmb.out)
        have hx2 := (hb1.block wr.heap.size (by simp)).trans (heap_alloc_new wr _)
        have HF2 : Hid (Fr (fun k => k = sb) w w2) := (Hfr.out.alloc _).then hb1
        have HR2 := Lib.hid hr2
        have HM2 := Lib.hid hm2
        have p0 := cell_of_row w2 sb 0 _ _ _ hr2
        have p1 := cell_of_row w2 sb 1 _ _ _ hr2
        have x0 := cell_of_row w2 wr.heap.size 0 _ _ _ hx2
        have x1 := cell_of_row w2 wr.heap.size 1 _ _ _ hx2
        have x2 := cell_of_row w2 wr.heap.size 2 _ _ _ hx2
        have x3 := cell_of_row w2 wr.heap.size 3 _ _ _ hx2
        have x4 := cell_of_row w2 wr.heap.size 4 _ _ _ hx2
        clear hr2 hm2 hx2 hb1 q0 q1 q2 m0 m1 m2 c0 c1 c2 c3 c4
        go_wp2_with fail
        refine (h1.out _).mono ?_
        rintro r w2 ⟨rfl, rfl⟩
        replace p0 := BW.cell p0
        replace p1 := BW.cell p1
        replace x0 := BW.cell x0
        replace x1 := BW.cell x1
        replace x2 := BW.cell x2
        replace x3 := BW.cell x3
        replace x4 := BW.cell x4
        go_upto_region 6 with fail
        refine wp_region_head_lit 13 (fun w' => ∃ p : BW w2, w' = p.w') (by kernel_rfl) (by kernel_rfl) ⟨⟨{ w2 with drawn := w2.drawn + 1 }, ⟨rfl, rfl, rfl, Nat.le_refl _, fun _ _ => rfl⟩⟩, rfl⟩ ?_
        simp only [List.take_succ_cons, List.take_zero, List.drop_succ_cons, List.drop_zero]
        repeat (quiet_step (first | (go_at_call 23; exact BW.call _ (hf2.out _)) | (go_at_call 39; exact BW.call _ ((h2.out _).mono fun _ _ h => ⟨h.1, h.2 ▸ Below.refl _ _⟩)) | exact rfl))
        refine wpQuiet_nil ?_
        intro w3 hw'
        obtain ⟨⟨_, hb3⟩, e3⟩ := hw'
        dsimp only at e3
        subst e3
        have hr3 := (hb3.block sb (by have := HF2.out.size; omega)).trans HR2.out
        have HM3 := Lib.hid ((hb3.block w.heap.size (Array.getElem?_eq_some_iff.1 HM2.out).1).trans HM2.out)
        have HF3 : Hid (Fr (fun k => k = sb) w w3) := HF2.out.then hb3
        have HR3 := Lib.hid hr3
        have q0 := cell_of_row w3 sb 0 _ _ _ hr3
        have q1 := cell_of_row w3 sb 1 _ _ _ hr3
        have q2 := cell_of_row w3 sb 2 _ _ _ hr3
        have q3 := cell_of_row w3 sb 3 _ _ _ hr3
        have z3 := row_free hr3
        have hsz3 := HF3.out.size
        clear hr3 hb3 p0 p1 x0 x1 x2 x3 x4
        have wc1 : wrap64 (ck + 1) = ck + 1 := IntWalk.wrap64_in _ (by omega)
        have wc2 : IntKind.i64.wrap (ck + 1) = ck + 1 := IntWalk.i64_in _ (by omega)
        go_wp2_with fail
        go_roundw
        case rel =>
          refine ⟨k + 1, b, a, ck + 1, by omega, by go_num, HA2.out, Hab.out, ⟨by omega, by go_num⟩, ?_, ?_, ?_⟩
          · exact set4 HR3.out _ _ _
          · have hns : w.heap.size ≠ sb := by omega
            rw [Below.heap_setCell _ _ _ _ hns, Below.heap_setCell _ _ _ _ hns, Below.heap_setCell _ _ _ _ hns]
            exact HM3.out
          · exact ((HF3.out.setCell _ _ rfl).setCell _ _ rfl).setCell _ _ rfl
        case measure => simp [intOf]; omega
      · have HA2 := Lib.hid hA2
        clear hA2
        rcases hw with rfl | ⟨rfl, rfl⟩ | ⟨rfl, rfl, rfl⟩
        all_goals
          go_wp2_with fail
          refine (hgl.out _).mono ?_
          rintro r w2 ⟨rfl, hb1⟩
          have hr2 := (hb1.block sb (by simp; omega)).trans ((Below.heap_alloc wr _ sb (by omega)).trans hrw.out)
          have hm2 := (hb1.block w.heap.size (by simp; omega)).trans ((Below.heap_alloc wr _ w.heap.size (by omega)).trans hmb.out)
          have hx2 := (hb1.block wr.heap.size (by simp)).trans (heap_alloc_new wr _)
          have HF2 : Hid (Fr (fun k => k = sb) w w2) := (Hfr.out.alloc _).then hb1
          have HR2 := Lib.hid hr2
          have HM2 := Lib.hid hm2
          have p0 := cell_of_row w2 sb 0 _ _ _ hr2
          have p1 := cell_of_row w2 sb 1 _ _ _ hr2
          have x0 := cell_of_row w2 wr.heap.size 0 _ _ _ hx2
          have x1 := cell_of_row w2 wr.heap.size 1 _ _ _ hx2
          have x2 := cell_of_row w2 wr.heap.size 2 _ _ _ hx2
          have x3 := cell_of_row w2 wr.heap.size 3 _ _ _ hx2
          have x4 := cell_of_row w2 wr.heap.size 4 _ _ _ hx2
          clear hr2 hm2 hx2 hb1 q0 q1 q2 m0 m1 m2 c0 c1 c2 c3 c4
          go_wp2_with fail
          refine (h1.out _).mono ?_
          rintro r w2 ⟨rfl, rfl⟩
          replace p0 := BW.cell p0
          replace p1 := BW.cell p1
          replace x0 := BW.cell x0
          replace x1 := BW.cell x1
          replace x2 := BW.cell x2
          replace x3 := BW.cell x3
          replace x4 := BW.cell x4
          go_upto_region 6 with fail
          refine wp_region_head_lit 13 (fun w' => ∃ p : BW w2, w' = p.w') (by kernel_rfl) (by kernel_rfl) ⟨⟨{ w2 with drawn := w2.drawn + 1 }, ⟨rfl, rfl, rfl, Nat.le_refl _, fun _ _ => rfl⟩⟩, rfl⟩ ?_
          simp only [List.take_succ_cons, List.take_zero, List.drop_succ_cons, List.drop_zero]
          repeat (quiet_step (first | (go_at_call 23; exact BW.call _ (hf2.out _)) | (go_at_call 39; exact BW.call _ ((h2.out _).mono fun _ _ h => ⟨h.1, h.2 ▸ Below.refl _ _⟩)) | exact rfl))
          refine wpQuiet_nil ?_
          intro w3 hw'
          obtain ⟨⟨_, hb3⟩, e3⟩ := hw'
          dsimp only at e3
          subst e3
          have hr3 := (hb3.block sb (by have := HF2.out.size; omega)).trans HR2.out
          have HM3 := Lib.hid ((hb3.block w.heap.size (Array.getElem?_eq_some_iff.1 HM2.out).1).trans HM2.out)
          have HF3 : Hid (Fr (fun k => k = sb) w w3) := HF2.out.then hb3
          have HR3 := Lib.hid hr3
          have q0 := cell_of_row w3 sb 0 _ _ _ hr3
          have q1 := cell_of_row w3 sb 1 _ _ _ hr3
          have q2 := cell_of_row w3 sb 2 _ _ _ hr3
          have q3 := cell_of_row w3 sb 3 _ _ _ hr3
          have z3 := row_free hr3
          have hsz3 := HF3.out.size
          clear hr3 hb3 p0 p1 x0 x1 x2 x3 x4
          go_wp2_with fail
          refine bodyPost_ret (v := .tuple #[]) (by simp [results, Try.results20, go_sem]) rfl ?_
          exact ⟨rfl, HF3.out.setCell _ _ rfl, uk, gk, ck, 3, set4e HR3.out _, hq.out.1, hq.out.2, ⟨Hk.out.1, by have := Hk.out.2; omega⟩, .inr ⟨HA2.out, rfl⟩⟩
    · obtain rfl : k = n := by omega
      have hd : l.drop k = [] := List.drop_eq_nil_of_le (by have := HS.out.hlen; omega)
      rw [hd] at hA
      have Hfr := hfr
      clear hd
      go_wp2_with fail
      refine bodyPost_end (v := .tuple #[]) (by simp [results, Try.results20, go_sem]) rfl ?_
      exact ⟨rfl, Hfr.out, uk, gk, ck, e, hrw.out, hq.out.1, hq.out.2, hck, .inl ⟨hA.out, rfl⟩⟩

set_option maxRecDepth 100000 in
set_option maxHeartbeats 4000000 in
theorem add_none (kind target : Int) (nm : ByteArray) (l : List UseI) (ao : Option Addr) (n cap sb : Nat) (u g c e : Int) (w : World) (hS : SlR (Flat UseI.cells) 5 w ao n cap l)
    (hrow : w.heap[sb]? = some (.cells #[.int .i64 u, .int .i64 g, .int .i64 c, .int .i64 e] 60 (0, 0))) (hne : ∀ a, ao = some a → ¬ a.block = sb) (hl : ∀ x ∈ l, okQ x.ask = true ∧ okQ x.use = true) (ht : okQ target = true)
    (hu : okQ u = true) (hg : okQ g = true) (hc : 0 ≤ c ∧ c ≤ 1000000) (hn : n ≤ 1000) :
    Calls Try.prog 20 #[.pointer (some ⟨sb, 0, none⟩), .agg #[.int .i64 kind, .string nm, .int .i64 target], .slice ao n cap, .func (.func 22) #[] #[]] w fun r w' =>
      r = .returned (.tuple #[]) ∧ Fr (fun k => k = sb) w w' ∧ ∃ u' g' c' e', w'.heap[sb]? = some (.cells #[.int .i64 u', .int .i64 g', .int .i64 c', .int .i64 e'] 60 (0, 0)) ∧ okQ u' = true ∧ okQ g' = true ∧ (0 ≤ c' ∧ c' ≤ c + n) ∧ AddR kind target noneI l u g c e u' g' c' e' := by
  have hcm := hS.hmax
  have hlc := hS.hcap
  unfold maxLen at hcm
  have HS := Lib.hid hS
  have Hrow := Lib.hid hrow
  have HL := Lib.hid hl
  have HT := Lib.hid ht
  have HU := Lib.hid hu
  have HG := Lib.hid hg
  have hsb : sb < w.heap.size := (Array.getElem?_eq_some_iff.1 hrow).1
  have Hne := Lib.hid hne
  clear hS hrow hl ht hu hg hne
  go_enter Try.func20, Try.ntmps20
  go_wp2_with fail
  go_loopw [18] (fun i wr => ∃ (k : Nat) (uk gk ck : Int), k ≤ n ∧ i = .int .i64 k ∧ Hid (addOf kind target noneI u g c l = addOf kind target noneI uk gk ck (l.drop k)) ∧ Hid (okQ uk = true ∧ okQ gk = true) ∧ (0 ≤ ck ∧ ck ≤ c + k) ∧
      Hid (wr.heap[sb]? = some (.cells #[.int .i64 uk, .int .i64 gk, .int .i64 ck, .int .i64 e] 60 (0, 0))) ∧ Hid (wr.heap[w.heap.size]? = some (.cells #[.int .i64 kind, .string nm, .int .i64 target] 27 (0, 0))) ∧ Hid (Fr (fun k => k = sb) w wr)) (fun i _ => n - (intOf i).toNat)
  case atStart =>
    refine ⟨0, u, g, c, Nat.zero_le _, rfl, rfl, ⟨HU.out, HG.out⟩, ⟨hc.1, by omega⟩, ?_, heap_alloc_new w _, (Fr.refl _ _).alloc _⟩
    rw [Below.heap_alloc w _ sb hsb]
    exact Hrow.out
  case round =>
    obtain ⟨k, uk, gk, ck, hk, rfl, hA, hq, hck, hrw, hmb, hfr⟩ := hrel
    have q0 := cell_of_row wr sb 0 _ _ _ hrw.out
    have q1 := cell_of_row wr sb 1 _ _ _ hrw.out
    have q2 := cell_of_row wr sb 2 _ _ _ hrw.out
    have m0 := cell_of_row wr w.heap.size 0 _ _ _ hmb.out
    have m1 := cell_of_row wr w.heap.size 1 _ _ _ hmb.out
    have m2 := cell_of_row wr w.heap.size 2 _ _ _ hmb.out
    have hsz := hfr.out.size
    have hmz := (Array.getElem?_eq_some_iff.1 hmb.out).1
    by_cases hlt : k < n
    · have hS2 := HS.out.fr hfr.out Hne.out
      obtain ⟨b0, off, rfl⟩ := hS2.ptr (by decide) (by omega)
      have kx : k < l.length := by have := hS2.hlen; omega
      have hcl := hS2.flat kx
      have hxl := HL.out _ (List.getElem_mem kx)
      have hD := addOf_drop (kind := kind) (target := target) (f := noneI) kx uk gk ck
      obtain ⟨x, hx⟩ : ∃ x, l[k] = x := ⟨_, rfl⟩
      rw [hx] at hcl hxl hD
      have c0 := hcl 0 _ rfl
      have c1 := hcl 1 _ rfl
      have c2 := hcl 2 _ rfl
      have c3 := hcl 3 _ rfl
      have c4 := hcl 4 _ rfl
      rw [Nat.add_zero] at c0
      have HX := Lib.hid hxl
      have hgl := Lib.hid (fun w1 => goal_any kind target nm x w1 HT.out hxl.1)
      obtain ⟨gv, hgv⟩ : ∃ gv, goalV kind target x.ask = gv := ⟨_, rfl⟩
      rw [hgv] at hgl
      obtain ⟨q, qe⟩ := gv
      dsimp only at hgl
      have hqq : okQ q = true := by
        unfold goalV at hgv
        split at hgv
        · rename_i q' hq'
          simp at hgv
          rw [← hgv.1]
          exact goalI_in HT.out hxl.1 hq'
        · simp at hgv
          rw [← hgv.1]
          rfl
      have HQ := Lib.hid hqq
      have h1 := Lib.hid (fun w1 => qadd_any gk q w1 hq.out.2 hqq)
      have hfv : okQ (noneI x q) = true := rfl
      have h2 := Lib.hid (fun w1 => qadd_any uk (noneI x q) w1 hq.out.1 hfv)
      have hf2 : Hid (∀ w1 : World, Calls Try.prog 22 #[.agg #[.string x.pod, .bool x.ready, .bool x.has, .int .i64 x.ask, .int .i64 x.use], .int .i64 q] w1 fun e w' => e = .returned (.int .i64 (noneI x q)) ∧ Below w1.heap.size w1 w') := fun w1 => none_any x q w1
      obtain ⟨y, hy⟩ : ∃ y, noneI x q = y := ⟨_, rfl⟩
      have hy0 := Lib.hid hy
      rw [hy] at h2 hfv hf2
      have HFv := Lib.hid hfv
      clear hcl hxl hqq hx hfv hS2
      obtain ⟨pr, hpr⟩ : ∃ pr, qaddOf gk q = pr := ⟨_, rfl⟩
      obtain ⟨ps, hps⟩ : ∃ ps, qaddOf uk y = ps := ⟨_, rfl⟩
      rw [hpr] at h1
      rw [hps] at h2
      obtain ⟨a, ea⟩ := pr
      obtain ⟨b, eb⟩ := ps
      dsimp only at h1 h2
      have hcase : (qe = 0 ∧ ea = 0 ∧ eb = 0 ∧ a = gk + q ∧ b = uk + y ∧ a ≤ 9007199254740992 ∧ b ≤ 9007199254740992 ∧ addOf kind target noneI u g c l = addOf kind target noneI b a (ck + 1) (l.drop (k + 1))) ∨
          (addOf kind target noneI u g c l = none ∧ (qe = 3 ∨ (qe = 0 ∧ ea = 3) ∨ (qe = 0 ∧ ea = 0 ∧ eb = 3))) := by
        unfold goalV at hgv
        unfold qaddOf at hpr hps
        split at hgv
        · rename_i q' hq'
          simp only [Prod.mk.injEq] at hgv
          obtain ⟨rfl, rfl⟩ := hgv
          simp only [hq', hy0.out] at hD
          by_cases g1 : gk + q' ≤ 9007199254740992
          · rw [if_pos g1] at hpr
            simp only [Prod.mk.injEq] at hpr
            obtain ⟨rfl, rfl⟩ := hpr
            by_cases g2 : uk + y ≤ 9007199254740992
            · rw [if_pos g2] at hps
              simp only [Prod.mk.injEq] at hps
              obtain ⟨rfl, rfl⟩ := hps
              exact .inl ⟨rfl, rfl, rfl, rfl, rfl, g1, g2, hA.out.trans (hD.trans (if_pos ⟨g1, g2⟩))⟩
            · rw [if_neg g2] at hps
              simp only [Prod.mk.injEq] at hps
              exact .inr ⟨hA.out.trans (hD.trans (if_neg fun h => g2 h.2)), .inr (.inr ⟨rfl, rfl, hps.2.symm⟩)⟩
          · rw [if_neg g1] at hpr
            simp only [Prod.mk.injEq] at hpr
            exact .inr ⟨hA.out.trans (hD.trans (if_neg fun h => g1 h.1)), .inr (.inl ⟨rfl, hpr.2.symm⟩)⟩
        · rename_i hq'
          simp only [Prod.mk.injEq] at hgv
          simp only [hq'] at hD
          exact .inr ⟨hA.out.trans hD, .inl hgv.2.symm⟩
      clear hD hgv hpr hps hy
      have Hfr := hfr
      have Hk := Lib.hid hck
      rcases hcase with ⟨rfl, rfl, rfl, ha, hb, ha2, hb2, hA2⟩ | ⟨hA2, hw⟩
      · have HA2 := Lib.hid hA2
        have Hab : Hid (okQ b = true ∧ okQ a = true) := by
          have e1 := of_decide_eq_true hq.out.1
          have e2 := of_decide_eq_true hq.out.2
          have e3 := of_decide_eq_true HFv.out
          have e4 := of_decide_eq_true HQ.out
          exact ⟨okq_in (by omega), okq_in (by omega)⟩
        clear ha hb ha2 hb2 hA2
        go_wp2_with fail
        refine (hgl.out _).mono ?_
        rintro r w2 ⟨rfl, hb1⟩
        have hr2 := (hb1.block sb (by simp; omega)).trans ((Below.heap_alloc wr _ sb (by omega)).trans hrw.out)
        have hm2 := (hb1.block w.heap.size (by simp; omega)).trans ((Below.heap_alloc wr _ w.heap.size (by omega)).trans hmb.out)
        have hx2 := (hb1.block wr.heap.size (by simp)).trans (heap_alloc_new wr _)
        have HF2 : Hid (Fr (fun k => k = sb) w w2) := (Hfr.out.alloc _).then hb1
        have HR2 := Lib.hid hr2
        have HM2 := Lib.hid hm2
        have p0 := cell_of_row w2 sb 0 _ _ _ hr2
        have p1 := cell_of_row w2 sb 1 _ _ _ hr2
        have x0 := cell_of_row w2 wr.heap.size 0 _ _ _ hx2
        have x1 := cell_of_row w2 wr.heap.size 1 _ _ _ hx2
        have x2 := cell_of_row w2 wr.heap.size 2 _ _ _ hx2
        have x3 := cell_of_row w2 wr.heap.size 3 _ _ _ hx2
        have x4 := cell_of_row w2 wr.heap.size 4 _ _ _ hx2
        clear hr2 hm2 hx2 hb1 q0 q1 q2 m0 m1 m2 c0 c1 c2 c3 c4
        go_wp2_with fail
        refine (h1.out _).mono ?_
        rintro r w2 ⟨rfl, rfl⟩
        replace p0 := BW.cell p0
        replace p1 := BW.cell p1
        replace x0 := BW.cell x0
        replace x1 := BW.cell x1
        replace x2 := BW.cell x2
        replace x3 := BW.cell x3
        replace x4 := BW.cell x4
        go_upto_region 6 with fail
        refine wp_region_head_lit 13 (fun w' => ∃ p : BW w2, w' = p.w') (by kernel_rfl) (by kernel_rfl) ⟨⟨{ w2 with drawn := w2.drawn + 1 }, ⟨rfl, rfl, rfl, Nat.le_refl _, fun _ _ => rfl⟩⟩, rfl⟩ ?_
        simp only [List.take_succ_cons, List.take_zero, List.drop_succ_cons, List.drop_zero]
        repeat (quiet_step (first | (go_at_call 22; exact BW.call _ (hf2.out _)) | (go_at_call 39; exact BW.call _ ((h2.out _).mono fun _ _ h => ⟨h.1, h.2 ▸ Below.refl _ _⟩)) | exact rfl))
        refine wpQuiet_nil ?_
        intro w3 hw'
        obtain ⟨⟨_, hb3⟩, e3⟩ := hw'
        dsimp only at e3
        subst e3
        have hr3 := (hb3.block sb (by have := HF2.out.size; omega)).trans HR2.out
        have HM3 := Lib.hid ((hb3.block w.heap.size (Array.getElem?_eq_some_iff.1 HM2.out).1).trans HM2.out)
        have HF3 : Hid (Fr (fun k => k = sb) w w3) := HF2.out.then hb3
        have HR3 := Lib.hid hr3
        have q0 := cell_of_row w3 sb 0 _ _ _ hr3
        have q1 := cell_of_row w3 sb 1 _ _ _ hr3
        have q2 := cell_of_row w3 sb 2 _ _ _ hr3
        have q3 := cell_of_row w3 sb 3 _ _ _ hr3
        have z3 := row_free hr3
        have hsz3 := HF3.out.size
        clear hr3 hb3 p0 p1 x0 x1 x2 x3 x4
        have wc1 : wrap64 (ck + 1) = ck + 1 := IntWalk.wrap64_in _ (by omega)
        have wc2 : IntKind.i64.wrap (ck + 1) = ck + 1 := IntWalk.i64_in _ (by omega)
        go_wp2_with fail
        go_roundw
        case rel =>
          refine ⟨k + 1, b, a, ck + 1, by omega, by go_num, HA2.out, Hab.out, ⟨by omega, by go_num⟩, ?_, ?_, ?_⟩
          · exact set4 HR3.out _ _ _
          · have hns : w.heap.size ≠ sb := by omega
            rw [Below.heap_setCell _ _ _ _ hns, Below.heap_setCell _ _ _ _ hns, Below.heap_setCell _ _ _ _ hns]
            exact HM3.out
          · exact ((HF3.out.setCell _ _ rfl).setCell _ _ rfl).setCell _ _ rfl
        case measure => simp [intOf]; omega
      · have HA2 := Lib.hid hA2
        clear hA2
        rcases hw with rfl | ⟨rfl, rfl⟩ | ⟨rfl, rfl, rfl⟩
        all_goals
          go_wp2_with fail
          refine (hgl.out _).mono ?_
          rintro r w2 ⟨rfl, hb1⟩
          have hr2 := (hb1.block sb (by simp; omega)).trans ((Below.heap_alloc wr _ sb (by omega)).trans hrw.out)
          have hm2 := (hb1.block w.heap.size (by simp; omega)).trans ((Below.heap_alloc wr _ w.heap.size (by omega)).trans hmb.out)
          have hx2 := (hb1.block wr.heap.size (by simp)).trans (heap_alloc_new wr _)
          have HF2 : Hid (Fr (fun k => k = sb) w w2) := (Hfr.out.alloc _).then hb1
          have HR2 := Lib.hid hr2
          have HM2 := Lib.hid hm2
          have p0 := cell_of_row w2 sb 0 _ _ _ hr2
          have p1 := cell_of_row w2 sb 1 _ _ _ hr2
          have x0 := cell_of_row w2 wr.heap.size 0 _ _ _ hx2
          have x1 := cell_of_row w2 wr.heap.size 1 _ _ _ hx2
          have x2 := cell_of_row w2 wr.heap.size 2 _ _ _ hx2
          have x3 := cell_of_row w2 wr.heap.size 3 _ _ _ hx2
          have x4 := cell_of_row w2 wr.heap.size 4 _ _ _ hx2
          clear hr2 hm2 hx2 hb1 q0 q1 q2 m0 m1 m2 c0 c1 c2 c3 c4
          go_wp2_with fail
          refine (h1.out _).mono ?_
          rintro r w2 ⟨rfl, rfl⟩
          replace p0 := BW.cell p0
          replace p1 := BW.cell p1
          replace x0 := BW.cell x0
          replace x1 := BW.cell x1
          replace x2 := BW.cell x2
          replace x3 := BW.cell x3
          replace x4 := BW.cell x4
          go_upto_region 6 with fail
          refine wp_region_head_lit 13 (fun w' => ∃ p : BW w2, w' = p.w') (by kernel_rfl) (by kernel_rfl) ⟨⟨{ w2 with drawn := w2.drawn + 1 }, ⟨rfl, rfl, rfl, Nat.le_refl _, fun _ _ => rfl⟩⟩, rfl⟩ ?_
          simp only [List.take_succ_cons, List.take_zero, List.drop_succ_cons, List.drop_zero]
          repeat (quiet_step (first | (go_at_call 22; exact BW.call _ (hf2.out _)) | (go_at_call 39; exact BW.call _ ((h2.out _).mono fun _ _ h => ⟨h.1, h.2 ▸ Below.refl _ _⟩)) | exact rfl))
          refine wpQuiet_nil ?_
          intro w3 hw'
          obtain ⟨⟨_, hb3⟩, e3⟩ := hw'
          dsimp only at e3
          subst e3
          have hr3 := (hb3.block sb (by have := HF2.out.size; omega)).trans HR2.out
          have HM3 := Lib.hid ((hb3.block w.heap.size (Array.getElem?_eq_some_iff.1 HM2.out).1).trans HM2.out)
          have HF3 : Hid (Fr (fun k => k = sb) w w3) := HF2.out.then hb3
          have HR3 := Lib.hid hr3
          have q0 := cell_of_row w3 sb 0 _ _ _ hr3
          have q1 := cell_of_row w3 sb 1 _ _ _ hr3
          have q2 := cell_of_row w3 sb 2 _ _ _ hr3
          have q3 := cell_of_row w3 sb 3 _ _ _ hr3
          have z3 := row_free hr3
          have hsz3 := HF3.out.size
          clear hr3 hb3 p0 p1 x0 x1 x2 x3 x4
          go_wp2_with fail
          refine bodyPost_ret (v := .tuple #[]) (by simp [results, Try.results20, go_sem]) rfl ?_
          exact ⟨rfl, HF3.out.setCell _ _ rfl, uk, gk, ck, 3, set4e HR3.out _, hq.out.1, hq.out.2, ⟨Hk.out.1, by have := Hk.out.2; omega⟩, .inr ⟨HA2.out, rfl⟩⟩
    · obtain rfl : k = n := by omega
      have hd : l.drop k = [] := List.drop_eq_nil_of_le (by have := HS.out.hlen; omega)
      rw [hd] at hA
      have Hfr := hfr
      clear hd
      go_wp2_with fail
      refine bodyPost_end (v := .tuple #[]) (by simp [results, Try.results20, go_sem]) rfl ?_
      exact ⟨rfl, Hfr.out, uk, gk, ck, e, hrw.out, hq.out.1, hq.out.2, hck, .inl ⟨hA.out, rfl⟩⟩
end Go.Proofs.Ytojealgjfbjnoaa
