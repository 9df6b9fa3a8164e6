/- Contracts of window's readers. Condition: the memory lies in blocks of the call's own. -/
import Derived.Test.YtbhhjlnjhlagdaaWindow2
namespace Go.Proofs.Ytbhhjlnjhlagdaa
open Go.ChangeShapes Go.WideShapes Go.ChangeAt Go.RowKit Go.Deep

/-- The span, held within its bounds. -/
def spanOf (window : Int) : Int := max 0 (min window 1800)
/-- Is a note within the span? -/
def inSpan (now wv : Int) (x : Note) : Bool := decide (x.at_ = now) || (decide (x.at_ < now) && decide (now - x.at_ < wv))

theorem oneNote (a b c : Int) (w : World) : (Instr.buildSlice 136 1 [(0, .agg #[.int .i64 a, .int .i64 b, .int .i64 c])].toArray).run Try.prog w = .ok (.slice (some ⟨w.heap.size, 0, none⟩) 1 1) (w.alloc (.cells #[.int .i64 a, .int .i64 b, .int .i64 c] 141)) := by kernel_rfl

set_option maxRecDepth 100000 in
set_option maxHeartbeats 2000000 in
theorem within_any (B mb : Nat) (v : Value) (xs : List Note) (now window : Int) (w : World) (hM : MemAt w B mb v xs) (hlen : xs.length ≤ 1000000) (hnow : now ≤ 9223372036854775807) (h0 : ∀ x ∈ xs, 0 ≤ x.at_) :
    Calls Try.prog 71 #[.pointer (some ⟨mb, 0, none⟩), .int .i64 now, .int .i64 window] w fun e w' => ∃ ao n cap, e = .returned (.slice ao n cap) ∧
      SlR (Flat Note.cells) 3 w' ao n cap (xs.filter (inSpan now (spanOf window))) ∧ Below w.heap.size w w' := by
  have hf : ∀ x : Note, x.cells.length = 3 := fun _ => rfl
  obtain ⟨ao, cap, rfl, hS, -⟩ := SlR.of_owns hM.own rfl hf
  have hcm := hS.hmax
  have hlc := hS.hcap
  unfold maxLen at hcm
  have c0 := cell_of_one hM.blk
  obtain ⟨m, hm⟩ : ∃ m, xs.length = m := ⟨_, rfl⟩
  rw [hm] at hlen hlc c0 hS
  have Hm := Lib.hid hm
  have H0 := Lib.hid h0
  clear hM hm h0
  obtain ⟨wv, hwv⟩ : ∃ wv, spanOf window = wv := ⟨_, rfl⟩
  have hw1 : 0 ≤ wv ∧ wv ≤ 1800 := by rw [← hwv]; unfold spanOf; omega
  obtain ⟨hw1, hw2⟩ := hw1
  have Hwv := Lib.hid hwv
  clear hwv
  go_enter Try.func71, Try.ntmps71
  go_upto_region 3 with (fail)
  go_cut [7] (fun s7 wx => s7 = .int .i64 wv ∧ wx = w)
  case first =>
    have hs := Hwv.out
    unfold spanOf at hs
    rcases (show (window < 0 ∧ wv = 0) ∨ (0 ≤ window ∧ window ≤ 1800 ∧ wv = window) ∨ (1800 < window ∧ wv = 1800) by omega) with ⟨g1, g2⟩ | ⟨g1, g2, g3⟩ | ⟨g1, g2⟩
    all_goals
      clear hs
      subst wv
      go_wp2
      all_goals
        go_meet
        exact ⟨by first | rfl | (exfalso; omega) | (congr 1; omega), rfl⟩
  case rest =>
    obtain ⟨rfl, rfl⟩ := hcut
    go_wp2_with fail
    go_loopw [8, 21] (fun o i wr => ∃ k : Nat, k ≤ m ∧ i = .int .i64 k ∧ wr.ownsRow wc.heap.size 141 3 o ((xs.take k).filter (inSpan now wv)).length (((xs.take k).filter (inSpan now wv)).flatMap Note.cells) ∧ Below wc.heap.size wc wr) (fun _ i _ => m - (intOf i).toNat)
    case atStart => exact ⟨0, Nat.zero_le _, rfl, World.ownsRow_nil _ _ _ _, Below.refl _ _⟩
    case round =>
      obtain ⟨k, hk, rfl, hown, hb⟩ := hrel
      by_cases hlt : k < m
      · obtain ⟨b, off, rfl⟩ := hS.ptr (by decide) (by omega)
        have kx : k < xs.length := by rw [Hm.out]; exact hlt
        have hc := (hS.flatKeeps (Keeps.below hb)).flat kx
        have c1 := hc 0 _ rfl
        have c2 := hc 1 _ rfl
        have c3 := hc 2 _ rfl
        rw [Nat.add_zero] at c1
        have hx0 := H0.out xs[k] (List.getElem_mem kx)
        have hfl : ((xs.take k).filter (inSpan now wv)).length ≤ 1000000 := by
          have h1 := List.length_filter_le (inSpan now wv) (xs.take k)
          rw [List.length_take] at h1
          have := Hm.out
          omega
        have Hft := Lib.hid (filter_take_succ (inSpan now wv) xs k kx)
        obtain ⟨x, hx⟩ : ∃ x, xs[k] = x := ⟨_, rfl⟩
        rw [hx] at c1 c2 c3 hx0 Hft
        obtain ⟨a, lo, hi⟩ := x
        dsimp only at c1 c2 c3 hx0
        have Hown := Lib.hid hown
        have hB := hb.size
        have Hb := Lib.hid (hb.alloc hb.size (.cells #[.int .i64 a, .int .i64 lo, .int .i64 hi] 141))
        clear hc hx hown hb
        rcases (show a = now ∨ (a ≠ now ∧ a < now ∧ now - a < wv) ∨ (a ≠ now ∧ ¬ (a < now ∧ now - a < wv)) by omega) with e1 | ⟨e1, e2, e3⟩ | ⟨e1, e2⟩
        · have hp : Hid (inSpan now wv ⟨a, lo, hi⟩ = true) := by show _ = true; simp [inSpan, e1]
          have e1' : (a == now) = true := by simp [e1]
          clear e1
          go_wp2_with ((with_reducible refine at_slot 45 ?_); go_must (refine wpList_buildSlice rfl 136 1 _ rfl [(0, .agg #[.int .i64 a, .int .i64 lo, .int .i64 hi])] rfl _ _ (oneNote _ _ _) ?_; refine wpList_append_one elemNote rfl _ _ rfl wc _ wc.heap.size _ _ ((xs.take k).filter (inSpan now wv)).length _ rfl (by exact Hown.out.alloc _) (by exact Hb.out) (by simp; omega) rfl rfl rfl (by unfold maxLen; omega) (by omega) ?_; intro v2 w2 hown2 hb2 _; have Ho2 := Lib.hid hown2; have Hb2 := Lib.hid hb2; clear hown2 hb2))
          go_roundw
          case rel => exact ⟨k + 1, by omega, by go_num, by have h := Ho2.out; rw [Hft.out, if_pos hp.out]; simpa [Note.cells] using h, Hb2.out⟩
          case measure => simp [intOf]; omega
        · have hp : Hid (inSpan now wv ⟨a, lo, hi⟩ = true) := by show _ = true; simp [inSpan, e2, e3]
          go_wp2_with ((with_reducible refine at_slot 45 ?_); go_must (refine wpList_buildSlice rfl 136 1 _ rfl [(0, .agg #[.int .i64 a, .int .i64 lo, .int .i64 hi])] rfl _ _ (oneNote _ _ _) ?_; refine wpList_append_one elemNote rfl _ _ rfl wc _ wc.heap.size _ _ ((xs.take k).filter (inSpan now wv)).length _ rfl (by exact Hown.out.alloc _) (by exact Hb.out) (by simp; omega) rfl rfl rfl (by unfold maxLen; omega) (by omega) ?_; intro v2 w2 hown2 hb2 _; have Ho2 := Lib.hid hown2; have Hb2 := Lib.hid hb2; clear hown2 hb2))
          go_roundw
          case rel => exact ⟨k + 1, by omega, by go_num, by have h := Ho2.out; rw [Hft.out, if_pos hp.out]; simpa [Note.cells] using h, Hb2.out⟩
          case measure => simp [intOf]; omega
        · have hp : Hid (inSpan now wv ⟨a, lo, hi⟩ = false) := by show _ = false; simp [inSpan, e1]; omega
          have e0 : (a == now) = false := by rw [beq_eq_false_iff_ne]; exact e1
          go_wp2
          all_goals
            go_roundw
            case rel => exact ⟨k + 1, by omega, by go_num, by have h := Hown.out; rw [Hft.out, if_neg (by rw [hp.out]; decide), List.append_nil]; exact h.alloc _, Hb.out⟩
            case measure => simp [intOf]; omega
      · have hkm : k = m := by omega
        have Hown := Lib.hid hown
        have Hb := Lib.hid hb
        have Ht : Hid (xs.take k = xs) := List.take_of_length_le (by rw [Hm.out]; omega)
        clear hown hb hkm
        go_wp2
        go_ret
        have h := Hown.out
        rw [Ht.out] at h
        obtain ⟨ao2, cap2, hv2, hS2, -⟩ := SlR.of_owns h rfl hf
        subst hv2
        rw [Hwv.out]
        exact ⟨_, _, _, rfl, hS2, Hb.out⟩
end Go.Proofs.Ytbhhjlnjhlagdaa
