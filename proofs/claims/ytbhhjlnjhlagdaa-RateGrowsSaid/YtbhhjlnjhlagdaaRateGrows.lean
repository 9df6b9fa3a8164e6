/- RateGrows holds: for every input the law returns true. No condition. -/
import Derived.Test.YtbhhjlnjhlagdaaRateGrowsLift
import Derived.Test.YtbhhjlnjhlagdaaRateGrowsPlain
import Derived.Test.YtbhhjlnjhlagdaaFrame
namespace Go.Proofs.Ytbhhjlnjhlagdaa
open Go.ChangeShapes Go.WideShapes Go.ChangeAt Go.RowKit Go.Deep

theorem elemS : ElemOK Try.prog 41 51 2 16 := .mk' Try.underlying41 (by kernel_rfl) (by decide)
theorem oneS (a b : Int) (w : World) : (Instr.buildSlice 41 1 [(0, .agg #[.int .i64 a, .int .i64 b])].toArray).run Try.prog w = .ok (.slice (some ⟨w.heap.size, 0, none⟩) 1 1) (w.alloc (.cells #[.int .i64 a, .int .i64 b] 51)) := by kernel_rfl

theorem drewN_twice {w w' : World} {x : Nat} (h : ∃ m, w' = (w.drewN x).drewN m) : ∃ n, w' = w.drewN n := by
  obtain ⟨m, rfl⟩ := h
  exact ⟨x + m, by simp only [World.drewN, Nat.add_assoc]⟩

theorem SlR.of_new_own {α : Type} {f : α → List Value} {sz : Nat} {w : World} {B e g n cap : Nat} {xs : List α} (h : w.ownsRow B e sz (.slice (some ⟨g, 0, none⟩) n cap) n (xs.flatMap f)) (hn : xs.length = n) (hf : ∀ x, (f x).length = sz) :
    SlR (Flat f) sz w (some ⟨g, 0, none⟩) n cap xs := by
  obtain ⟨ao, cap', e, hS, -⟩ := SlR.of_owns h hn hf
  injection e with e1 e2 e3
  subst e1 e3
  exact hS

set_option maxRecDepth 100000 in
set_option maxHeartbeats 4000000 in
theorem rateGrows_core (first : Int) (h0 : 0 ≤ first) (h1 : first ≤ 4294967295) (st : List U16) (ao : Option Addr) (n cap : Nat) (w : World) (hS : SlR (Flat U16.cells) 1 w ao n cap st) :
    Calls Try.prog 8 #[.int .u32 first, .slice ao n cap] w fun e w' => e = .returned (.bool true) ∧ Below w.heap.size w w' := by
  have hcm := hS.hmax
  have hlc := hS.hcap
  unfold maxLen at hcm
  have hlen := hS.hlen
  by_cases hn : 59 < n ∨ n = 0
  · rcases (show 59 < n ∨ (n ≤ 59 ∧ n = 0) by omega) with g1 | ⟨g1, g2⟩
    all_goals
      clear hn hS hlen
      try subst g2
      go_enter Try.func8, Try.ntmps8
      go_wp2_with fail
      refine (lives12 _).mono ?_
      rintro e w1 ⟨rfl, hb1⟩
      have H1 := Lib.hid hb1
      clear hb1
      go_wp2_with fail
      refine (lives12 _).mono ?_
      rintro e w2 ⟨rfl, hb2⟩
      have H2 := Lib.hid (H1.out.trans (hb2.mono H1.out.size))
      clear hb2
      go_wp2_with fail
      go_ret
      exact ⟨rfl, H2.out⟩
  · have g1 : n ≤ 59 := by omega
    have g2 : 1 ≤ n := by omega
    have e0 : ((n : Int) == 0) = false := by rw [beq_eq_false_iff_ne]; omega
    have d0 : decide ((59 : Int) < (n : Int)) = false := decide_eq_false (by omega)
    clear hn
    go_enter Try.func8, Try.ntmps8
    go_wp2_with fail
    refine (lives12 _).mono ?_
    rintro e w1 ⟨rfl, hb1⟩
    have H1 := Lib.hid hb1
    have hS1 := hS.flatKeeps (Keeps.below hb1)
    clear hb1 hS
    have hf : ∀ x : Smp, x.cells.length = 2 := fun _ => rfl
    go_wp2_with fail
    go_loopw [5, 29] (fun o i wr => ∃ k : Nat, k ≤ n ∧ i = .int .i64 k ∧ Hid (wr.ownsRow w1.heap.size 51 2 o (k + 1) ((rowTo first st k).flatMap Smp.cells)) ∧ Below w1.heap.size w1 wr) (fun _ i _ => n - (intOf i).toNat)
    case atStart => exact ⟨0, Nat.zero_le _, rfl, owns_of_row (rest := []) (Nat.le_refl _) (Nat.le_refl _) (by decide) (by simpa [rowTo, valAt_zero, Smp.cells] using heap_alloc_new w1 _) (by simp [rowTo, Smp.cells]) (by simp [rowTo, Smp.cells]), (Below.refl _ _).alloc (Nat.le_refl _) _⟩
    case round =>
      obtain ⟨k, hk, rfl, hown, hb⟩ := hrel
      by_cases hlt : k < n
      · obtain ⟨b, off, rfl⟩ := hS1.ptr (by decide) (by omega)
        have kx : k < st.length := by omega
        have c1 := (hS1.flatKeeps (Keeps.below hb)).flat kx 0 _ rfl
        rw [Nat.add_zero, Nat.mul_one] at c1
        obtain ⟨g, oc, rfl, hg, hc1, hc2, hcell⟩ := owns_shape hown.out (by omega)
        have v1 := hcell (k * 2 + 1) (.int .i64 (valAt first st k)) (by
          rw [flatMap_get hf (rowTo first st k) k 1 (by rw [rowTo_length]; omega) (by decide)]
          have := rowTo_get first st (Nat.le_refl k)
          rw [getElem!_pos _ _ (by rw [rowTo_length]; omega)] at this
          rw [this]
          rfl)
        have hvl := valAt_le first st k (by omega)
        have hvs := valAt_succ first st kx
        have hr := rowTo_succ first st k
        rw [hvs] at hr
        have hx := (st[k]).2
        obtain ⟨v, hv⟩ : ∃ v, valAt first st k = v := ⟨_, rfl⟩
        obtain ⟨s, hs⟩ : ∃ s, (st[k]).1 = s := ⟨_, rfl⟩
        rw [hv] at v1 hvl hr
        rw [hs] at c1 hx hr
        have Hr := Lib.hid hr
        have hb1 : w1.heap.size ≤ wr.heap.size := hb.size
        have Hown := hown
        have Hb := Lib.hid hb
        obtain ⟨wq, rfl⟩ : ∃ wq : World, wq = wr := ⟨_, rfl⟩
        clear hcell hr hvs hb hown hv hs hg
        go_wp2_with ((with_reducible refine at_slot 46 ?_); go_must (refine wpList_buildSlice rfl 41 1 _ rfl [(0, .agg #[.int .i64 ((k : Int) + 2), .int .i64 (v + s)])] rfl _ _ (oneS _ _) ?_; refine wpList_append_one elemS rfl _ _ rfl w1 _ w1.heap.size _ _ (k + 1) _ rfl (by exact Hown.out) (by exact Hb.out) (by omega) rfl rfl rfl (by unfold maxLen; omega) (by omega) ?_; intro v2 w2 hown2 hb2 _; have Ho2 := Lib.hid hown2; have Hb2 := Lib.hid hb2; clear hown2 hb2))
        go_roundw
        case rel => exact ⟨k + 1, by omega, by go_num, by show World.ownsRow _ _ _ _ _ _ _; rw [Hr.out]; simpa [Smp.cells] using Ho2.out, Hb2.out⟩
        case measure => simp [intOf]; omega
      · have hkn : k = n := by omega
        subst hkn
        have Hb := Lib.hid hb
        obtain ⟨g, oc, rfl, hg, hc1, hc2, hcell⟩ := owns_shape hown.out (by omega)
        have hS3 := SlR.of_new_own hown.out (rowTo_length first st k) hf
        have hk59 : st.length = k := hlen
        have hinc := row_inc h0 h1 (show st.length ≤ 59 by omega) (by omega)
        have hres := row_resets first st
        rw [hk59] at hinc hres
        have hc := hS3.flat (i := k) (by rw [rowTo_length]; omega) 1 (.int .i64 (valAt first st k)) (by
          have := rowTo_get first st (Nat.le_refl k)
          rw [getElem!_pos _ _ (by rw [rowTo_length]; omega)] at this
          rw [this]
          rfl)
        have hd := hS3.flat (i := 0) (by rw [rowTo_length]; omega) 1 (.int .i64 first) (by
          have := rowTo_get first st (Nat.zero_le k)
          rw [getElem!_pos _ _ (by rw [rowTo_length]; omega), valAt_zero] at this
          rw [this]
          rfl)
        simp only [Nat.zero_add, Nat.zero_mul] at hc hd
        have hvl := valAt_le first st k (by omega)
        obtain ⟨v, hv⟩ : ∃ v, valAt first st k = v := ⟨_, rfl⟩
        rw [hv] at hc hinc hvl
        obtain ⟨wq, rfl⟩ : ∃ wq : World, wq = wr := ⟨_, rfl⟩
        have HI := inc_any _ _ _ _ wq hS3
        rw [hinc] at HI
        have HI := Lib.hid HI
        have HT : Hid (∀ w1, Below wq.heap.size wq w1 → _) := fun w1 hb => resets_any _ _ _ _ w1 (hS3.flatKeeps (Keeps.below hb))
        have Hres := Lib.hid hres
        have hgl := blk hc
        clear hcell hS3 hinc hres hown hb hk59 hS1 hlen hv hg
        go_wp2_with fail
        refine HI.out.mono ?_
        rintro e w2 ⟨rfl, hb2⟩
        have hc := (hb2.cell (p := ⟨g, k * 2 + 1, none⟩) hgl).trans hc
        have hd := (hb2.cell (p := ⟨g, 1, none⟩) hgl).trans hd
        have H2 := Lib.hid (H1.out.trans ((Hb.out.trans (hb2.mono Hb.out.size)).mono H1.out.size))
        have HT2 : Hid (∀ m, Calls _ _ _ (w2.drewN m) _) := fun m => HT.out (w2.drewN m) (below_dn hb2 m)
        rw [Hres.out] at HT2
        clear hb2 HT
        have k1 : IntKind.i64.wrap ((k : Int) + 1 - 1) = (k : Int) := by rw [IntWalk.i64_in _ (by omega)]; omega
        have k2 : IntKind.i64.wrap (k : Int) = (k : Int) := IntWalk.i64_in _ (by omega)
        have k3 : k < k + 1 := by omega
        have k4 : IntKind.i64.wrap (v - first) = v - first := IntWalk.i64_in _ (by omega)
        go_wp2
        go_quiet (exact (HT2.out _).mono fun e w' h => ⟨h.1, drewN_twice h.2⟩)
        go_wp2
        go_ret
        exact ⟨ret_bool (by simp), below_dn H2.out _⟩

theorem u16_of (w : World) (c : List Value) (h : Rel (.int .u16) w c) : ∃ m, Flat U16.cells w m c := by
  obtain ⟨n1, rfl, hw⟩ := h
  simp [Lit.wf, IntKind.min, IntKind.max, IntKind.signed, IntKind.bits] at hw
  exact ⟨⟨n1, by omega⟩, rfl⟩

theorem RateGrows_holds : Rows.RateGrowsSaid := lRateGrows.over fun first a0 n cap w h0 h1 => by
  obtain ⟨_, _, _, st, e0, hS⟩ := SlR.of_rel h1 (fun c hc => u16_of w c hc)
  simp [Value.cells] at e0
  obtain ⟨rfl, rfl, rfl⟩ := e0
  obtain ⟨n1, e1, hw⟩ := h0
  simp [Value.cells] at e1
  subst e1
  simp [Lit.wf, IntKind.min, IntKind.max, IntKind.signed, IntKind.bits] at hw
  exact rateGrows_core first (by omega) (by omega) st _ _ _ w hS
end Go.Proofs.Ytbhhjlnjhlagdaa
