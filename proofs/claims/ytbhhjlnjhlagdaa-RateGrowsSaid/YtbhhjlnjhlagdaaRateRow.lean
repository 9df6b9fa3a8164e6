/- The contract of rate.Increase and of rate.Rate. Condition: the row reads. -/
import Derived.Test.YtbhhjlnjhlagdaaRateSum
namespace Go.Proofs.Ytbhhjlnjhlagdaa
open Go.ChangeShapes Go.WideShapes Go.ChangeAt Go.RowKit Go.Deep

def incOf (l : List Smp) : Int × Int := if rightOf l = false then (0, 1) else if l.length < 2 then (0, 14) else sumOf (tot (stepsTo l (l.length - 1)))

theorem right_ok {l : List Smp} (h : rightOf l = true) {j : Nat} (hj : j < l.length) : okQ (l[j]!).v = true := by
  unfold rightOf at h
  have := List.all_eq_true.1 h j (List.mem_range.2 hj)
  unfold goodAt at this
  exact (Bool.and_eq_true_iff.1 this).1

set_option maxRecDepth 100000 in
set_option maxHeartbeats 2000000 in
theorem inc_any (l : List Smp) (ao : Option Addr) (n cap : Nat) (w : World) (hS : SlR (Flat Smp.cells) 2 w ao n cap l) :
    Calls Try.prog 30 #[.slice ao n cap] w fun e w' => e = .returned (.tuple #[.int .i64 (incOf l).1, .int .i64 (incOf l).2]) ∧ Below w.heap.size w w' := by
  have hcm := hS.hmax
  have hlc := hS.hcap
  unfold maxLen at hcm
  have hlen := hS.hlen
  have hb0 : Below w.heap.size w (w.alloc (.cells #[.slice ao n cap] 41)) := (Below.refl _ _).alloc (Nat.le_refl _) _
  have HR := Lib.hid (rright_any l ao n cap _ (hS.flatKeeps (Keeps.below hb0)))
  cases hr : rightOf l
  · have hi : incOf l = (0, 1) := if_pos hr
    rw [hr] at HR
    rw [hi]
    have H0 := Lib.hid hb0
    clear hS hb0 hi hr
    go_enter Try.func30, Try.ntmps30
    go_wp2_with fail
    refine HR.out.mono ?_
    rintro e w1 ⟨rfl, hb1⟩
    have H1 := Lib.hid (H0.out.trans (hb1.mono H0.out.size))
    clear hb1
    go_wp2_with fail
    go_ret2
    exact ⟨rfl, H1.out⟩
  · have hcell := cell_of_one (heap_alloc_new w (.cells #[.slice ao n cap] 41))
    rw [hr] at HR
    by_cases hn2 : n < 2
    · have hi : incOf l = (0, 14) := by unfold incOf; rw [if_neg (by rw [hr]; decide), if_pos (by omega)]
      rw [hi]
      have H0 := Lib.hid hb0
      have hd : decide ((n : Int) < 2) = true := decide_eq_true (by omega)
      clear hS hb0 hi hr hlen
      go_enter Try.func30, Try.ntmps30
      go_wp2_with fail
      refine HR.out.mono ?_
      rintro e w1 ⟨rfl, hb1⟩
      have hcell := (hb1.cell (p := ⟨w.heap.size, 0, none⟩) (by simp)).trans hcell
      have H1 := Lib.hid (H0.out.trans (hb1.mono H0.out.size))
      clear hb1
      go_wp2_with fail
      go_ret2
      exact ⟨rfl, H1.out⟩
    · have hi : Hid (incOf l = sumOf (tot (stepsTo l (n - 1)))) := by show _ = _; unfold incOf; rw [if_neg (by rw [hr]; decide), if_neg (by omega), hlen]
      have H0 := Lib.hid hb0
      have hd : decide ((n : Int) < 2) = false := decide_eq_false (by omega)
      obtain ⟨b, off, rfl⟩ := hS.ptr (by decide) (by omega)
      have hq : ∀ j, j < n → okQ (l[j]!).v = true := fun j hj => right_ok hr (by omega)
      have hc : ∀ j, j < n → w.cell? ⟨b, off + j * 2 + 1, none⟩ = some (.int .i64 (l[j]!).v) := fun j hj => by
        have kx : j < l.length := by omega
        have := hS.flat kx 1 _ rfl
        rw [getElem!_pos l j kx]
        exact this
      have hbw : b < w.heap.size := blk (hc 0 (by omega))
      have HS : Hid (∀ w1, Below (w.heap.size + 1) (w.alloc (.cells #[.slice (some ⟨b, off, none⟩) n cap] 41)) w1 → _) := fun w1 hb =>
        callsIn_wide.1 (sum_in 9 (by decide) w.heap.size b off n cap l hlc (by omega) hq w1 (by have := hb.size; rw [World.size_alloc] at this; omega) (by have := hb.size; rw [World.size_alloc] at this; omega)
          ((hb.cell (p := ⟨w.heap.size, 0, none⟩) (by show w.heap.size < w.heap.size + 1; omega)).trans hcell) (fun j hj => ((hb.cell (p := ⟨b, off + j * 2 + 1, none⟩) (by show b < w.heap.size + 1; omega)).trans (H0.out.cell (p := ⟨b, off + j * 2 + 1, none⟩) hbw)).trans (hc j hj)) (by omega))
      clear hS hb0 hr hlen hq hc
      go_enter Try.func30, Try.ntmps30
      go_wp2_with fail
      refine HR.out.mono ?_
      rintro e w1 ⟨rfl, hb1⟩
      have hcell := (hb1.cell (p := ⟨w.heap.size, 0, none⟩) (by simp)).trans hcell
      rw [World.size_alloc] at hb1
      have H1 := Lib.hid (H0.out.trans (hb1.mono (by omega)))
      have HS1 := Lib.hid (HS.out w1 hb1)
      clear hb1
      go_wp2_with fail
      refine HS1.out.mono ?_
      rintro e w2 ⟨rfl, hb2⟩
      rw [← hi.out]
      have H2 := Lib.hid (H1.out.trans (hb2.mono H1.out.size))
      clear hb2
      go_wp2_with fail
      go_ret2
      exact ⟨rfl, H2.out⟩
end Go.Proofs.Ytbhhjlnjhlagdaa
