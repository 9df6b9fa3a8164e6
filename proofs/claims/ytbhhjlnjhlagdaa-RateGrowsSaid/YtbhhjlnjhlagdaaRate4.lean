/- The contract of rate's Resets. Condition: the slice reads. -/
import Derived.Test.YtbhhjlnjhlagdaaRate2
namespace Go.Proofs.Ytbhhjlnjhlagdaa
open Go.ChangeShapes Go.WideShapes Go.ChangeAt Go.RowKit Go.Deep

def fallsAt (l : List Smp) (i : Nat) : Bool := decide (0 < i) && decide ((l[i]!).v < (l[i-1]!).v)
def resetsTo (l : List Smp) (k : Nat) : Nat := ((List.range k).filter (fallsAt l)).length
def resetsOf (l : List Smp) : Nat := resetsTo l l.length

theorem resetsTo_succ (l : List Smp) (k : Nat) : resetsTo l (k + 1) = resetsTo l k + (if fallsAt l k = true then 1 else 0) := by
  unfold resetsTo
  rw [List.range_succ, List.filter_append, List.length_append]
  congr 1
  by_cases h : fallsAt l k = true
  · simp [h]
  · simp [h]

theorem resetsTo_le (l : List Smp) (k : Nat) : resetsTo l k ≤ k := by
  have := List.length_filter_le (fallsAt l) (List.range k)
  simpa [resetsTo] using this

theorem resets_one (l : List Smp) : resetsTo l 1 = 0 := by simp [resetsTo, fallsAt]

set_option maxRecDepth 100000 in
set_option maxHeartbeats 2000000 in
theorem resets_any (l : List Smp) (ao : Option Addr) (n cap : Nat) (w : World) (hS : SlR (Flat Smp.cells) 2 w ao n cap l) :
    Calls Try.prog 31 #[.slice ao n cap] w fun e w' => e = .returned (.int .i64 (resetsOf l)) ∧ ∃ m, w' = w.drewN m := by
  have hcm := hS.hmax
  have hlc := hS.hcap
  unfold maxLen at hcm
  have Hm := Lib.hid hS.hlen
  go_enter Try.func31, Try.ntmps31
  go_wp2_with fail
  go_loopw [3, 4] (fun c i wr => ∃ (k r : Nat), 1 ≤ k ∧ (k ≤ n ∨ k = 1) ∧ i = .int .i64 k ∧ c = .int .i64 r ∧ r ≤ k ∧ Hid (r = resetsTo l k) ∧ ∃ m, wr = w.drewN m) (fun _ i _ => n - (intOf i).toNat)
  case atStart => exact ⟨1, 0, Nat.le_refl _, .inr rfl, rfl, rfl, Nat.zero_le _, (resets_one l).symm, 0, rfl⟩
  case round =>
    obtain ⟨k, r, hk1, hk, rfl, rfl, hrk, hI, mm, rfl⟩ := hrel
    by_cases hlt : k < n
    · obtain ⟨b, off, rfl⟩ := hS.ptr (by decide) (by omega)
      have kx : k < l.length := by rw [Hm.out]; exact hlt
      have ky : k - 1 < l.length := by omega
      have c2 := hS.flat kx 1 _ rfl
      have d2 := hS.flat ky 1 _ rfl
      have hs := Lib.hid (resetsTo_succ l k)
      have hg : Hid (fallsAt l k = decide (l[k].v < l[k-1].v)) := by
        show _ = _
        unfold fallsAt
        rw [getElem!_pos l k kx, getElem!_pos l (k - 1) ky, decide_eq_true (show 0 < k by omega)]
        rfl
      obtain ⟨x, hx⟩ : ∃ x, l[k].v = x := ⟨_, rfl⟩
      obtain ⟨y, hy⟩ : ∃ y, l[k - 1].v = y := ⟨_, rfl⟩
      rw [hx] at c2 hg
      rw [hy] at d2 hg
      have hd2 : (1 : Int) ≤ (k : Int) := by omega
      have hd3 : (k : Int) - 1 < (n : Int) := by omega
      have hd4 : ((k : Int) - 1).toNat = k - 1 := by omega
      have hd5 : IntKind.i64.wrap ((k : Int) - 1) = (k : Int) - 1 := IntWalk.i64_in _ (by omega)
      obtain ⟨wq, hwq⟩ : ∃ wq : World, wq = w.drewN mm := ⟨_, rfl⟩
      have c2 : wq.cell? ⟨b, off + k * 2 + 1, none⟩ = some (.int .i64 x) := by rw [hwq]; exact c2
      have d2 : wq.cell? ⟨b, off + (k - 1) * 2 + 1, none⟩ = some (.int .i64 y) := by rw [hwq]; exact d2
      rw [← hwq]
      have Hwq := Lib.hid hwq
      clear hwq
      by_cases h : x < y
      · have hf := Lib.hid (hg.out.trans (decide_eq_true h))
        have ht : decide (x < y) = true := decide_eq_true h
        clear hx hy h
        go_wp2
        go_quiet (fail)
        go_wp2
        go_roundw
        case rel => exact ⟨k + 1, r + 1, by omega, by omega, by go_num, by go_num, by omega, by show _ = _; rw [hs.out, hf.out, hI.out]; rfl, mm + nq, by rw [Hwq.out]; simp [World.drewN, Nat.add_assoc]⟩
        case measure => simp [intOf]; omega
      · have hf := Lib.hid (hg.out.trans (decide_eq_false h))
        have ht : decide (x < y) = false := decide_eq_false h
        clear hx hy h
        go_wp2
        go_quiet (fail)
        go_wp2
        go_roundw
        case rel => exact ⟨k + 1, r, by omega, by omega, by go_num, rfl, by omega, by show _ = _; rw [hs.out, hf.out, hI.out]; rfl, mm + nq, by rw [Hwq.out]; simp [World.drewN, Nat.add_assoc]⟩
        case measure => simp [intOf]; omega
    · have hr : Hid (resetsOf l = r) := by
        show _ = _
        unfold resetsOf
        rcases hk with hk | hk
        · rw [Hm.out, show n = k by omega]; exact hI.out.symm
        · subst hk
          rw [hI.out, resets_one]
          have h1 := resetsTo_le l l.length
          have h2 : l.length ≤ 1 := by rw [Hm.out]; omega
          rcases (show l.length = 0 ∨ l.length = 1 by omega) with h3 | h3
          · rw [h3]; rfl
          · rw [h3]; exact resets_one l
      go_wp2
      go_ret
      exact ⟨ret_int (by rw [hr.out]), mm, rfl⟩
end Go.Proofs.Ytbhhjlnjhlagdaa
