/- The contract of the law's Within. Condition: the slice reads, its notes aren't below 0. -/
import Derived.Test.YtbhhjlnjhlagdaaWindowPlain
namespace Go.Proofs.Ytbhhjlnjhlagdaa
open Go.ChangeShapes Go.WideShapes Go.ChangeAt Go.RowKit Go.Deep

def inSpanL (now wv : Int) (x : LNote) : Bool := decide (x.at_ = now) || (decide (x.at_ < now) && decide (now - x.at_ < wv))
def wStep (now wv : Int) (s : Int × Int × Bool) (x : LNote) : Int × Int × Bool :=
  if inSpanL now wv x then (if s.2.2 = false ∨ x.n < s.1 then x.n else s.1, if s.2.2 = false ∨ s.2.1 < x.n then x.n else s.2.1, true) else s
def withinOf (now wv : Int) (l : List LNote) : Int × Int × Bool := l.foldl (wStep now wv) (0, 0, false)

theorem wStep_met {now wv lo hi : Int} {x : LNote} (h : inSpanL now wv x = true) : wStep now wv (lo, hi, true) x = (min lo x.n, max hi x.n, true) := by
  unfold wStep
  rw [if_pos h]
  simp only [Bool.true_eq_false, false_or]
  have h1 : (if x.n < lo then x.n else lo) = min lo x.n := by split <;> omega
  have h2 : (if hi < x.n then x.n else hi) = max hi x.n := by split <;> omega
  rw [h1, h2]

set_option maxRecDepth 100000 in
set_option maxHeartbeats 4000000 in
theorem within3_any (ls : List LNote) (ao : Option Addr) (n cap : Nat) (now window : Int) (w : World) (hS : SlR (Flat LNote.cells) 2 w ao n cap ls) (hnow : now ≤ 9223372036854775807) (h0 : ∀ x ∈ ls, 0 ≤ x.at_) :
    Calls Try.prog 36 #[.slice ao n cap, .int .i64 now, .int .i64 window] w fun e w' =>
      e = .returned (.tuple #[.int .i64 (withinOf now (spanOf window) ls).1, .int .i64 (withinOf now (spanOf window) ls).2.1, .bool (withinOf now (spanOf window) ls).2.2]) ∧ Below w.heap.size w w' := by
  have hcm := hS.hmax
  have hlc := hS.hcap
  unfold maxLen at hcm
  have Hm := Lib.hid hS.hlen
  have H0 := Lib.hid h0
  clear h0
  obtain ⟨wv, hv⟩ : ∃ wv, spanOf window = wv := ⟨_, rfl⟩
  have hs := hv
  rw [hv]
  clear hv
  unfold spanOf at hs
  have Hsv := Lib.hid hs
  have hw1 : 0 ≤ wv ∧ wv ≤ 1800 := by omega
  obtain ⟨hw1, hw2⟩ := hw1
  clear hs
  go_enter Try.func36, Try.ntmps36
  go_upto_if 15 with (fail)
  go_cut [2] (fun s wx => (∃ u : Int, s = .int .i64 u ∧ Hid (u = max 0 window)) ∧ wx = w)
  case first =>
    by_cases g : window < 0
    all_goals
      go_wp2
      go_meet
      exact ⟨⟨_, rfl, by show _ = _; omega⟩, rfl⟩
  case rest =>
  obtain ⟨⟨u, rfl, hu⟩, rfl⟩ := hcut
  go_upto_if 17 with (fail)
  go_cut [2] (fun s wx => s = .int .i64 wv ∧ wx = wc)
  case first =>
    have h1 := hu.out
    have h2 := Hsv.out
    by_cases g : 1800 < u
    · have h3 : wv = 1800 := by omega
      clear h1 h2
      subst h3
      go_wp2
      go_meet
      exact ⟨rfl, rfl⟩
    · have h3 : wv = u := by omega
      clear h1 h2
      subst h3
      go_wp2
      go_meet
      exact ⟨rfl, rfl⟩
  case rest =>
    obtain ⟨rfl, rfl⟩ := hcut
    go_wp2_with fail
    go_loopw [9, 10, 11, 20] (fun l h t i wr => ∃ k : Nat, ∃ s : Int × Int × Bool, k ≤ n ∧ i = .int .i64 k ∧ l = .int .i64 s.1 ∧ h = .int .i64 s.2.1 ∧ t = .bool s.2.2 ∧ Hid (s = (ls.take k).foldl (wStep now wv) (0, 0, false)) ∧ Below wc.heap.size wc wr) (fun _ _ _ i _ => n - (intOf i).toNat)
    case atStart => exact ⟨0, (0, 0, false), Nat.zero_le _, rfl, rfl, rfl, rfl, rfl, Below.refl _ _⟩
    case round =>
      obtain ⟨k, ⟨lo, hi, mt⟩, hk, rfl, rfl, rfl, rfl, hs, hb⟩ := hrel
      dsimp only
      by_cases hlt : k < n
      · obtain ⟨b, off, rfl⟩ := hS.ptr (by decide) (by omega)
        have kx : k < ls.length := by rw [Hm.out]; exact hlt
        have hc := (hS.flatKeeps (Keeps.below hb)).flat kx
        have c1 := hc 0 _ rfl
        have c2 := hc 1 _ rfl
        rw [Nat.add_zero] at c1
        have hx0 := H0.out ls[k] (List.getElem_mem kx)
        have Hft : Hid ((ls.take (k + 1)).foldl (wStep now wv) (0, 0, false) = wStep now wv (lo, hi, mt) ls[k]) := by show _ = _; rw [foldl_take_succ (wStep now wv) (0, 0, false) ls k kx, ← hs.out]
        obtain ⟨x, hx⟩ : ∃ x, ls[k] = x := ⟨_, rfl⟩
        rw [hx] at c1 c2 hx0 Hft
        obtain ⟨a, v⟩ := x
        dsimp only at c1 c2 hx0
        have hB := hb.size
        have Hb := Lib.hid (hb.alloc hb.size (.cells #[.int .i64 a, .int .i64 v] 61))
        clear hc hx hb
        rcases (show (a = now ∨ (a < now ∧ now - a < wv)) ∨ now < a ∨ (a < now ∧ wv ≤ now - a) by omega) with hin | hout | ⟨ho1, ho2⟩
        · have hp : Hid (inSpanL now wv ⟨a, v⟩ = true) := by show _ = true; simp only [inSpanL, Bool.or_eq_true, Bool.and_eq_true, decide_eq_true_eq]; omega
          rcases (show (a = now ∧ ¬ a < now) ∨ (a < now ∧ now - a < wv) by omega) with ⟨i1, i2⟩ | ⟨i1, i2⟩
          all_goals clear hin
          all_goals try (have i3 := i1.symm; subst i3)
          all_goals
            cases mt
            · go_wp2
              go_roundw
              case rel => exact ⟨k + 1, (v, v, true), by omega, by go_num, rfl, rfl, rfl, by show _ = _; rw [Hft.out]; unfold wStep; rw [if_pos hp.out]; rfl, Hb.out⟩
              case measure => simp [intOf]; omega
            · by_cases j1 : v < lo <;> by_cases j2 : hi < v
              all_goals
                go_wp2
                go_roundw
                case rel => exact ⟨k + 1, (min lo v, max hi v, true), by omega, by go_num, by first | rfl | (congr 1; dsimp only; omega), by first | rfl | (congr 1; dsimp only; omega), rfl, by show _ = _; rw [Hft.out, wStep_met hp.out], Hb.out⟩
                case measure => simp [intOf]; omega
        all_goals
          have hp : Hid (inSpanL now wv ⟨a, v⟩ = false) := by
            show _ = false
            rw [Bool.eq_false_iff]
            simp only [inSpanL, ne_eq, Bool.or_eq_true, Bool.and_eq_true, decide_eq_true_eq]
            omega
          go_wp2
          go_roundw
          case rel => exact ⟨k + 1, (lo, hi, mt), by omega, by go_num, rfl, rfl, rfl, by show _ = _; rw [Hft.out]; unfold wStep; rw [if_neg (by rw [hp.out]; decide)], Hb.out⟩
          case measure => simp [intOf]; omega
      · have Ht : Hid ((lo, hi, mt) = withinOf now wv ls) := by show _ = _; rw [hs.out, List.take_of_length_le (by rw [Hm.out]; omega)]; rfl
        have Hb := Lib.hid hb
        clear hb hs
        go_wp2
        go_ret3
        rw [← Ht.out]
        exact ⟨rfl, Hb.out⟩
end Go.Proofs.Ytbhhjlnjhlagdaa
