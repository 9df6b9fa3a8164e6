/- The contracts of chapter 35's sooner, same, right and Check. Conditions: same's names read, and are the same. -/
import Derived.Test.YtpbppgfogepjeaaRolGoes
import Derived.Test.YtpbppgfogepjeaaVictimCmpM
import Derived.Deep.QuietTactic
namespace Go.Proofs.Ytpbppgfogepjeaa
open Go.ChangeShapes Go.WideShapes Go.ChangeAt Go.RowKit Go.Deep

def rightB (s a : Int) : Bool := decide (0 ≤ s) && (decide (s ≤ 1000) && (decide (0 ≤ a) && (decide (a ≤ 1000) && (decide (0 < s) || decide (0 < a)))))
theorem rightB_iff (s a : Int) : rightB s a = true ↔ 0 ≤ s ∧ s ≤ 1000 ∧ 0 ≤ a ∧ a ≤ 1000 ∧ (0 < s ∨ 0 < a) := by
  unfold rightB
  simp only [Bool.and_eq_true, Bool.or_eq_true, decide_eq_true_iff]
theorem rightB_no {s a : Int} (h : s < 0 ∨ 1000 < s ∨ a < 0 ∨ 1000 < a ∨ s + a = 0) : rightB s a = false := by
  cases e : rightB s a
  · rfl
  · have := (rightB_iff s a).1 e
    omega

set_option maxRecDepth 100000 in
theorem right35_any (s a : Int) (w : World) : Calls Try.prog 21 #[.agg #[.int .i64 s, .int .i64 a]] w fun e w' => e = .returned (.bool (rightB s a)) ∧ Below w.heap.size w w' := by
  have hB : Below w.heap.size w (w.alloc (.cells #[.int .i64 s, .int .i64 a] 67)) := (Below.refl _ _).alloc (Nat.le_refl _) _
  have HB := Lib.hid hB
  clear hB
  by_cases h1 : s < 0
  · have h1' : decide (s ≥ 0) = false := by simp; omega
    rw [rightB_no (by omega)]
    go_enter Try.func21, Try.ntmps21
    go_wp2_with fail
    go_ret
    exact ⟨rfl, HB.out⟩
  · have h1' : decide (s ≥ 0) = true := by simp; omega
    by_cases h2 : 1000 < s
    · have h2' : decide (s ≤ 1000) = false := by simp; omega
      rw [rightB_no (by omega)]
      go_enter Try.func21, Try.ntmps21
      go_wp2_with fail
      go_ret
      exact ⟨rfl, HB.out⟩
    · have h2' : decide (s ≤ 1000) = true := by simp; omega
      by_cases h3 : a < 0
      · have h3' : decide (a ≥ 0) = false := by simp; omega
        rw [rightB_no (by omega)]
        go_enter Try.func21, Try.ntmps21
        go_wp2_with fail
        go_ret
        exact ⟨rfl, HB.out⟩
      · have h3' : decide (a ≥ 0) = true := by simp; omega
        by_cases h4 : 1000 < a
        · have h4' : decide (a ≤ 1000) = false := by simp; omega
          rw [rightB_no (by omega)]
          go_enter Try.func21, Try.ntmps21
          go_wp2_with fail
          go_ret
          exact ⟨rfl, HB.out⟩
        · have h4' : decide (a ≤ 1000) = true := by simp; omega
          by_cases h5 : 0 < s
          · have h5' : decide (s > 0) = true := by simp; omega
            rw [(rightB_iff s a).2 (by omega)]
            clear h1 h2 h3 h4 h5
            go_enter Try.func21, Try.ntmps21
            go_wp2_with fail
            go_ret
            exact ⟨rfl, HB.out⟩
          · have h5' : decide (s > 0) = false := by simp; omega
            by_cases h6 : 0 < a
            · have h6' : decide (a > 0) = true := by simp; omega
              rw [(rightB_iff s a).2 (by omega)]
              clear h1 h2 h3 h4 h5 h6
              go_enter Try.func21, Try.ntmps21
              go_wp2_with fail
              go_ret
              exact ⟨rfl, HB.out⟩
            · have h6' : decide (a > 0) = false := by simp; omega
              rw [rightB_no (by omega)]
              clear h1 h2 h3 h4 h5 h6
              go_enter Try.func21, Try.ntmps21
              go_wp2_with fail
              go_ret
              exact ⟨rfl, HB.out⟩

def errR (s a : Int) : Int := if rightB s a = true then 0 else 1
set_option maxRecDepth 100000 in
theorem check35_any (s a : Int) (w : World) : Calls Try.prog 22 #[.agg #[.int .i64 s, .int .i64 a]] w fun e w' => e = .returned (.int .i64 (errR s a)) ∧ Below w.heap.size w w' := by
  have hB : Below w.heap.size w (w.alloc (.cells #[.int .i64 s, .int .i64 a] 67)) := (Below.refl _ _).alloc (Nat.le_refl _) _
  have HB := Lib.hid hB
  clear hB
  have hno : ∀ h : s < 0 ∨ 1000 < s ∨ a < 0 ∨ 1000 < a ∨ s + a = 0, errR s a = 1 := fun h => by unfold errR; rw [rightB_no h]; rfl
  by_cases h1 : s < 0
  · have h1' : decide (s < 0) = true := by simp; omega
    rw [hno (by omega)]
    go_enter Try.func22, Try.ntmps22
    go_wp2_with fail
    go_ret
    exact ⟨rfl, HB.out⟩
  · have h1' : decide (s < 0) = false := by simp; omega
    by_cases h2 : 1000 < s
    · have h2' : decide (s > 1000) = true := by simp; omega
      rw [hno (by omega)]
      go_enter Try.func22, Try.ntmps22
      go_wp2_with fail
      go_ret
      exact ⟨rfl, HB.out⟩
    · have h2' : decide (s > 1000) = false := by simp; omega
      by_cases h3 : a < 0
      · have h3' : decide (a < 0) = true := by simp; omega
        rw [hno (by omega)]
        go_enter Try.func22, Try.ntmps22
        go_wp2_with fail
        go_ret
        exact ⟨rfl, HB.out⟩
      · have h3' : decide (a < 0) = false := by simp; omega
        by_cases h4 : 1000 < a
        · have h4' : decide (a > 1000) = true := by simp; omega
          rw [hno (by omega)]
          go_enter Try.func22, Try.ntmps22
          go_wp2_with fail
          go_ret
          exact ⟨rfl, HB.out⟩
        · have h4' : decide (a > 1000) = false := by simp; omega
          obtain ⟨z, hz⟩ : ∃ z, s + a = z := ⟨_, rfl⟩
          have hw : IntKind.i64.wrap z = z := IntWalk.i64_in _ (by omega)
          by_cases h5 : z = 0
          · have h5' : (z == 0) = true := by simpa using h5
            rw [hno (by omega)]
            clear h1 h2 h3 h4 h5
            go_enter Try.func22, Try.ntmps22
            go_wp2_with fail
            go_ret
            exact ⟨rfl, HB.out⟩
          · have h5' : (z == 0) = false := beq_eq_false_iff_ne.2 h5
            rw [show errR s a = 0 by unfold errR; rw [(rightB_iff s a).2 (by omega)]; rfl]
            clear h1 h2 h3 h4 h5
            go_enter Try.func22, Try.ntmps22
            go_wp2_with fail
            go_ret
            exact ⟨rfl, HB.out⟩

def soonV (x y : OV) : Bool := if x.phase = y.phase then (if x.since = y.since then (!Op.bytesLess x.name.toList y.name.toList && !(x.name.toList == y.name.toList)) else decide (x.since > y.since)) else decide (x.phase < y.phase)
set_option maxRecDepth 100000 in
theorem sooner_any (x y : OV) (w : World) : Calls Try.prog 51 #[.agg x.cells.toArray, .agg y.cells.toArray] w fun e w' => e = .returned (.bool (soonV x y)) ∧ Below w.heap.size w w' := by
  obtain ⟨w2, hw2⟩ : ∃ w2, (w.alloc (.cells x.cells.toArray 44)).alloc (.cells y.cells.toArray 44) = w2 := ⟨_, rfl⟩
  have hB : Below w.heap.size w w2 := by rw [← hw2]; exact ((Below.refl _ _).alloc (Nat.le_refl _) _).alloc (by simp) _
  have hx : ∀ j u, x.cells[j]? = some u → w2.cell? ⟨w.heap.size, j, none⟩ = some u := fun j u hu => by
    rw [← hw2]
    refine Below.cell_some ((Below.refl _ _).alloc (Nat.le_refl _) _) ?_
    have := (cell_new w x.cells.toArray 44 j).trans (by simpa using hu)
    rwa [Addr.add_lit, Nat.zero_add] at this
  have hy : ∀ j u, y.cells[j]? = some u → w2.cell? ⟨w.heap.size + 1, j, none⟩ = some u := fun j u hu => by
    rw [← hw2]
    have := (cell_new (w.alloc (.cells x.cells.toArray 44)) y.cells.toArray 44 j).trans (by simpa using hu)
    rw [World.size_alloc] at this
    rwa [Addr.add_lit, Nat.zero_add] at this
  have x1 := hx 1 _ x.h1
  have x12 := hx 12 _ x.h12
  have x13 := hx 13 _ x.h13
  have y1 := hy 1 _ y.h1
  have y12 := hy 12 _ y.h12
  have y13 := hy 13 _ y.h13
  have HB := Lib.hid hB
  clear hB hx hy
  by_cases hp : x.phase = y.phase
  · rw [hp] at x12
    by_cases hs : x.since = y.since
    · rw [hs] at x13
      have hv : soonV x y = (!Op.bytesLess x.name.toList y.name.toList && !(x.name.toList == y.name.toList)) := by unfold soonV; rw [if_pos hp, if_pos hs]
      rw [hv]
      obtain ⟨q, hq⟩ : ∃ q, (!Op.bytesLess x.name.toList y.name.toList && !(x.name.toList == y.name.toList)) = q := ⟨_, rfl⟩
      rw [hq]
      clear hp hs hv
      go_enter Try.func51, Try.ntmps51
      go_wp2_with fail
      go_ret
      exact ⟨rfl, HB.out⟩
    · have hv : soonV x y = decide (x.since > y.since) := by unfold soonV; rw [if_pos hp, if_neg hs]
      have hne : (x.since != y.since) = true := by simpa using hs
      rw [hv]
      obtain ⟨q, hq⟩ : ∃ q, decide (x.since > y.since) = q := ⟨_, rfl⟩
      rw [hq]
      clear hp hs hv
      go_enter Try.func51, Try.ntmps51
      go_wp2_with fail
      go_ret
      exact ⟨rfl, HB.out⟩
  · have hv : soonV x y = decide (x.phase < y.phase) := by unfold soonV; rw [if_neg hp]
    have hne : (x.phase != y.phase) = true := by simpa using hp
    rw [hv]
    obtain ⟨q, hq⟩ : ∃ q, decide (x.phase < y.phase) = q := ⟨_, rfl⟩
    rw [hq]
    clear hp hv
    go_enter Try.func51, Try.ntmps51
    go_wp2_with fail
    go_ret
    exact ⟨rfl, HB.out⟩

set_option maxRecDepth 100000 in
set_option maxHeartbeats 1000000 in
theorem same35_any (c : Int) (d : Bool) (xs : List ByteArray) (ao bo : Option Addr) (n ca cb : Nat) (w : World) (hA : SlR (Flat cN) 1 w ao n ca xs) (hB : SlR (Flat cN) 1 w bo n cb xs) :
    Calls Try.prog 23 #[.agg #[.int .i64 c, .slice ao n ca, .bool d], .agg #[.int .i64 c, .slice bo n cb, .bool d]] w fun e w' => e = .returned (.bool true) ∧ Below w.heap.size w w' := by
  have ha := hA.hmax; have hac := hA.hcap
  have hb := hB.hmax; have hbc := hB.hcap
  unfold maxLen at ha hb
  obtain ⟨w2, hw2⟩ : ∃ w2, (w.alloc (.cells #[.int .i64 c, .slice ao n ca, .bool d] 70)).alloc (.cells #[.int .i64 c, .slice bo n cb, .bool d] 70) = w2 := ⟨_, rfl⟩
  have hB2 : Below w.heap.size w w2 := by rw [← hw2]; exact ((Below.refl _ _).alloc (Nat.le_refl _) _).alloc (by simp) _
  have hx : w2.heap[w.heap.size]? = some (.cells #[.int .i64 c, .slice ao n ca, .bool d] 70 (0, 0)) := by
    rw [← hw2, Below.heap_alloc _ _ _ (by simp)]
    exact heap_alloc_new _ _
  have hy : w2.heap[w.heap.size + 1]? = some (.cells #[.int .i64 c, .slice bo n cb, .bool d] 70 (0, 0)) := by
    rw [← hw2]
    have := heap_alloc_new (w.alloc (.cells #[.int .i64 c, .slice ao n ca, .bool d] 70)) (.cells #[.int .i64 c, .slice bo n cb, .bool d] 70)
    rwa [World.size_alloc] at this
  have HA := Lib.hid (hA.flatKeeps (Keeps.below hB2))
  have HBb := Lib.hid (hB.flatKeeps (Keeps.below hB2))
  have HB2 := Lib.hid hB2
  have HX := Lib.hid hx
  have HY := Lib.hid hy
  have x0 : w2.cell? ⟨w.heap.size, 0, none⟩ = some (.int .i64 c) := cell_of_row _ _ 0 _ _ _ hx
  have x1 : w2.cell? ⟨w.heap.size, 1, none⟩ = some (.slice ao n ca) := cell_of_row _ _ 1 _ _ _ hx
  have x2 : w2.cell? ⟨w.heap.size, 2, none⟩ = some (.bool d) := cell_of_row _ _ 2 _ _ _ hx
  have y0 : w2.cell? ⟨w.heap.size + 1, 0, none⟩ = some (.int .i64 c) := cell_of_row _ _ 0 _ _ _ hy
  have y1 : w2.cell? ⟨w.heap.size + 1, 1, none⟩ = some (.slice bo n cb) := cell_of_row _ _ 1 _ _ _ hy
  have y2 : w2.cell? ⟨w.heap.size + 1, 2, none⟩ = some (.bool d) := cell_of_row _ _ 2 _ _ _ hy
  clear hA hB hB2 hx hy
  go_enter Try.func23, Try.ntmps23
  go_wp2_with fail
  go_loopw [5, 30] (fun _ i wr => ∃ k : Nat, k ≤ n ∧ i = .int .i64 k ∧ Hid (Below w2.heap.size w2 wr)) (fun _ i _ => n - (intOf i).toNat)
  case atStart => exact ⟨0, Nat.zero_le _, rfl, Below.refl _ _⟩
  case round =>
    obtain ⟨k, hk, rfl, hb⟩ := hrel
    by_cases hlt : k < n
    · obtain ⟨b, off, rfl⟩ := HA.out.ptr (by decide) (by omega)
      obtain ⟨b', off', rfl⟩ := HBb.out.ptr (by decide) (by omega)
      have kx : k < xs.length := by have := HA.out.hlen; omega
      have hc := (HA.out.flatKeeps (Keeps.below hb.out)).flat kx
      have hd := (HBb.out.flatKeeps (Keeps.below hb.out)).flat kx
      have c0 := hc 0 _ rfl
      have d0 := hd 0 _ rfl
      rw [Nat.add_zero, Nat.mul_one] at c0 d0
      obtain ⟨kk, hx⟩ : ∃ x, xs[k] = x := ⟨_, rfl⟩
      rw [hx] at c0 d0
      have x1' := Below.cell_some hb.out x1
      have y1' := Below.cell_some hb.out y1
      have Hb := Lib.hid hb.out
      clear hc hd hb hx kx x0 x1 x2 y0 y1 y2
      obtain ⟨wp, rfl⟩ : ∃ wp : World, wp = wr := ⟨_, rfl⟩
      go_upto_region 6 with fail
      go_quiet (fail)
      go_wp2_with fail
      go_roundw
      case rel => exact ⟨k + 1, by omega, by go_num, drewN_below Hb.out _⟩
      case measure => simp [intOf]; omega
    · have Hb := Lib.hid (HB2.out.trans (hb.out.mono HB2.out.size))
      go_wp2_with fail
      go_ret
      exact ⟨rfl, Hb.out⟩
end Go.Proofs.Ytpbppgfogepjeaa
