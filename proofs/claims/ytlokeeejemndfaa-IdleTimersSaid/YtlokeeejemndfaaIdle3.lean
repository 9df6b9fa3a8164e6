/- Contracts of idle's Reset and Copy. Condition: the timers lie in blocks of the call's own. -/
import Derived.Test.YtlokeeejemndfaaIdle2
namespace Go.Proofs.Ytlokeeejemndfaa
open Go.ChangeShapes Go.WideShapes Go.ChangeAt Go.RowKit Go.Deep Go.Maps Go.Sort

set_option maxRecDepth 100000 in
theorem reset_any (tb tm n : Nat) (m : Tm) (w : World) (hT : TimersAt w tb tm n m) :
    Calls Try.prog 7 #[.pointer (some ⟨tb, 0, none⟩)] w fun e w' => e = .returned (.tuple #[]) ∧ TimersAt w' tb w.heap.size 0 Tm.zero ∧ Fr (fun k => k = tb) w w' := by
  have hlt := hT.lt
  have hf0 := row_free hT.blk 0
  have hf1 := row_free hT.blk 1
  have hf2 := row_free hT.blk 2
  obtain ⟨c0, c1, c2⟩ := row3_cells hT.blk
  have HT := Lib.hid hT
  clear hT
  go_enter Try.func7, Try.ntmps7
  go_wp2_with fail
  refine (newTimers_any w).mono ?_
  rintro e w1 ⟨rfl, hw1⟩
  have hT1 : TimersAt w1 (w.heap.size + 1) w.heap.size 0 Tm.zero := by rw [hw1]; exact TimersAt.made w
  have hb : Below w.heap.size w w1 := by rw [hw1]; exact ((Below.refl _ _).alloc (Nat.le_refl _) _).alloc (by simp) _
  obtain ⟨d0, d1, d2⟩ := row3_cells hT1.blk
  have HT1 := Lib.hid hT1
  have HB := Lib.hid hb
  have e0 := Below.cell_some hb c0
  have e1 := Below.cell_some hb c1
  have e2 := Below.cell_some hb c2
  have g0 : w1.frozen? ⟨tb, 0, none⟩ = false := by rw [hb.frozen (p := ⟨tb, 0, none⟩) hlt.1]; exact hf0
  have g1 : w1.frozen? ⟨tb, 1, none⟩ = false := by rw [hb.frozen (p := ⟨tb, 1, none⟩) hlt.1]; exact hf1
  have g2 : w1.frozen? ⟨tb, 2, none⟩ = false := by rw [hb.frozen (p := ⟨tb, 2, none⟩) hlt.1]; exact hf2
  clear hw1 hT1 hb c0 c1 c2 hf0 hf1 hf2
  go_wp2_with fail
  go_end0
  have hR : w1.heap[tb]? = _ := (HB.out.block tb hlt.1).trans HT.out.blk
  refine ⟨rfl, ⟨row3 hR _ _ _, ?_⟩, fr_set3 (S := fun j => j = tb) (Fr.of_below HB.out _) rfl _ _ _⟩
  exact MapIs.same HT1.out.map (heap_set3 (by omega) _ _ _)

def CopyPost (n : Nat) (m : Tm) (w : World) (e : Ending) (w' : World) : Prop :=
  ∃ tb' tm', e = .returned (.pointer (some ⟨tb', 0, none⟩)) ∧ TimersAt w' tb' tm' n m ∧ w.heap.size ≤ tb' ∧ w.heap.size ≤ tm' ∧ Below w.heap.size w w'

theorem clone_map {b n : Nat} {f : Lit → Option Value} {w : World} (h : MapIs w Try.prog 9 b n f) :
    Calls Try.prog 13 #[.map (some b)] w fun e w' => e = .returned (.map (some w.heap.size)) ∧ MapIs w' Try.prog 9 w.heap.size n f ∧ Below w.heap.size w w' := by
  obtain ⟨D, h1, h2, h3⟩ := h
  exact (AnyW.maps_Clone_owns kClone _ _ b n D w h1).mono fun e w' ⟨he, h4, _, h5⟩ => ⟨he, ⟨D, h4, h2, h3⟩, h5⟩

set_option maxRecDepth 100000 in
set_option maxHeartbeats 1600000 in
theorem copy_any (tb tm n : Nat) (m : Tm) (w : World) (hT : TimersAt w tb tm n m) :
    Calls Try.prog 8 #[.pointer (some ⟨tb, 0, none⟩)] w (CopyPost n m w) := by
  have hlt := hT.lt
  obtain ⟨c0, c1, c2⟩ := row3_cells hT.blk
  have HT := Lib.hid hT
  obtain ⟨f, last, looked⟩ := m
  dsimp only at c1 c2
  clear hT
  go_enter Try.func8, Try.ntmps8
  go_wp2_with fail
  go_region_held3 (fun w' => w'.cell? ⟨tb, 0, none⟩ = some (.map (some tm)) ∧ w'.cell? ⟨tb, 1, none⟩ = some (.int .i64 last) ∧ w'.cell? ⟨tb, 2, none⟩ = some (.bool looked))
    (first | exact ⟨Below.cell_some hb1 c0, Below.cell_some hb1 c1, Below.cell_some hb1 c2⟩ | go_keep)
    (first | (go_at_call 13; refine (clone_map (w := w.drew) (MapIs.same HT.out.map rfl)).mono ?_; rintro e w1 ⟨rfl, hM1, hb1⟩))
  go_wp2_with fail
  go_ret
  have hb : Below w.heap.size w w1 := (below_drewN w _ 1).trans hb1
  refine ⟨w1.heap.size, w.heap.size, by simp, ⟨heap_alloc_new w1 _, ?_⟩, hb.size, Nat.le_refl _, hb.alloc hb.size _⟩
  exact MapIs.below hM1 ((Below.refl _ _).alloc (Nat.le_refl _) _)

/-! ### the law's own word: is a name among these? -/

def hasB (xs : List SStr) (s : SStr) : Bool := decide (s.key ∈ xs.map SStr.key)

theorem hasB_snoc (xs : List SStr) {k : Nat} (hk : k < xs.length) (s : SStr) (h : ∀ x ∈ xs.take k, x.key ≠ s.key) (hx : xs[k].key ≠ s.key) : ∀ x ∈ xs.take (k + 1), x.key ≠ s.key := by
  rw [List.take_succ_eq_append_getElem hk]
  intro x hm
  rcases List.mem_append.1 hm with h1 | h1
  · exact h x h1
  · rw [List.mem_singleton.1 h1]; exact hx

theorem str_eq_key (x s : SStr) : (x.1.toList == s.1.toList) = decide (x.key = s.key) := by
  rw [Lib.toList_data, Lib.toList_data]
  show (x.key == s.key) = _
  by_cases h : x.key = s.key
  · rw [decide_eq_true h, h]; exact beq_self_eq_true _
  · rw [decide_eq_false h]; exact beq_eq_false_iff_ne.2 h

set_option maxRecDepth 100000 in
set_option maxHeartbeats 1000000 in
theorem has_any (xs : List SStr) (ao : Option Addr) (n cap : Nat) (s : SStr) (w : World) (hS : SlR (Flat cS) 1 w ao n cap xs) :
    Calls Try.prog 11 #[.slice ao n cap, .string s.1] w fun e w' => e = .returned (.bool (hasB xs s)) ∧ w = w' := by
  have h1 := hS.hmax; have h2 := hS.hcap
  unfold maxLen at h1
  have HS := Lib.hid hS
  have HL := Lib.hid hS.hlen
  clear hS
  go_enter Try.func11, Try.ntmps11
  go_wp2_with fail
  go_loop [6, 9] (fun _ vi => ∃ k : Nat, vi = .int .i64 k ∧ k ≤ n ∧ Hid (∀ x ∈ xs.take k, x.key ≠ s.key)) (fun _ vi => n - (intOf vi).toNat)
  case atStart => exact ⟨0, rfl, Nat.zero_le _, fun x hx => by simp at hx⟩
  case round =>
    obtain ⟨k, rfl, hk, hN⟩ := hrel
    by_cases hlt : k < n
    · obtain ⟨b, off, rfl⟩ := HS.out.ptr (by decide) (by omega)
      have kx : k < xs.length := by rw [HL.out]; exact hlt
      have ha := HS.out.flat kx
      have hsn := hasB_snoc xs kx s hN.out
      have hin : xs[k] ∈ xs := List.getElem_mem kx
      obtain ⟨x, hx⟩ : ∃ x, xs[k] = x := ⟨_, rfl⟩
      rw [hx] at ha hsn hin
      have x0 := ha 0 _ rfl
      rw [Nat.add_zero, Nat.mul_one] at x0
      have Hsn := Lib.hid hsn
      have Hin := Lib.hid hin
      have heq := str_eq_key x s
      clear ha hsn hin hx kx
      by_cases he : x.key = s.key
      · rw [decide_eq_true he] at heq
        have hr : Hid (hasB xs s = true) := by
          show _ = _
          unfold hasB
          rw [← he]
          exact decide_eq_true (List.mem_map_of_mem Hin.out)
        clear he
        go_wp2_with fail
        go_ret
        exact ⟨ret_bool hr.out.symm, rfl⟩
      · rw [decide_eq_false he] at heq
        have He := Lib.hid he
        clear he
        go_wp2_with fail
        go_round
        case rel => exact ⟨k + 1, by go_num, by omega, Hsn.out He.out⟩
        case measure => simp [intOf]; omega
    · obtain rfl : k = n := by omega
      have hr : Hid (hasB xs s = false) := by
        have := hN.out
        rw [List.take_of_length_le (by rw [HL.out]; exact Nat.le_refl _)] at this
        show _ = _
        unfold hasB
        refine decide_eq_false fun hh => ?_
        obtain ⟨x, hx1, hx2⟩ := List.mem_map.1 hh
        exact this x hx1 hx2
      clear hN
      go_wp2_with fail
      go_ret
      exact ⟨ret_bool hr.out.symm, rfl⟩
end Go.Proofs.Ytlokeeejemndfaa
