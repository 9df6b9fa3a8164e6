/- The comparisons of chapter 15's order, at the phases of its example. No condition. -/
import Derived.Test.YteajdcldebegmaaObj
import Derived.Sort.Walk0
import Derived.Deep.QuietTactic
namespace Go.Proofs.Yteajdcldebegmaa
open Go.ChangeShapes Go.WideShapes Go.ChangeAt Go.RowKit Go.Deep

def cfS (a b : ByteArray) : Int := if Op.bytesLess a.toList b.toList = true then -1 else if Op.bytesLess b.toList a.toList = true then 1 else 0

theorem less_asym {x y : List UInt8} (h : Op.bytesLess x y = true) : Op.bytesLess y x = false := by
  rw [bytesLess_eq, decide_eq_true_iff] at h
  rw [bytesLess_eq, decide_eq_false_iff_not]
  exact List.lt_asymm h

theorem less_irrefl (x : List UInt8) : Op.bytesLess x x = false := by
  rw [bytesLess_eq, decide_eq_false_iff_not]
  exact List.lt_irrefl x

theorem less_tri {x y : List UInt8} (h1 : Op.bytesLess x y = false) (h2 : Op.bytesLess y x = false) : x = y := by
  rw [bytesLess_eq, decide_eq_false_iff_not] at h1 h2
  exact List.le_antisymm (List.not_lt.1 h2) (List.not_lt.1 h1)

theorem isNaN_str (a : ByteArray) (w : World) :
    Calls Try.prog 26 #[.string a] w fun e w' => e = .returned (.bool false) ∧ w' = w := by
  go_enter Try.func26, Try.ntmps26
  go_wp2
  go_ret
  exact ⟨ret_bool (by simp), rfl⟩

theorem compare_str (a b : ByteArray) (w : World) :
    Calls Try.prog 20 #[.string a, .string b] w fun e w' => e = .returned (.int .i64 (cfS a b)) ∧ w' = w := by
  have hU : Hid (cfS a b = if Op.bytesLess a.toList b.toList = true then -1 else if Op.bytesLess b.toList a.toList = true then 1 else 0) := rfl
  have HN : Hid (∀ (x : ByteArray) (w1 : World), _) := fun x w1 => isNaN_str x w1
  cases h1 : Op.bytesLess a.toList b.toList
  · rw [h1] at hU
    cases h2 : Op.bytesLess b.toList a.toList
    · rw [h2] at hU
      have he := less_tri h1 h2
      have heb : (a.toList == b.toList) = true := by rw [beq_iff_eq]; exact he
      clear he
      go_enter Try.func20, Try.ntmps20
      go_wp2_with (go_at_call 26; refine (HN.out _ _).mono ?_; rintro e w' ⟨rfl, rfl⟩)
      go_ret
      exact ⟨by rw [hU.out] <;> rfl, rfl⟩
    · rw [h2] at hU
      have heb : (a.toList == b.toList) = false := by
        rw [beq_eq_false_iff_ne]
        intro he
        rw [he, less_irrefl] at h2
        cases h2
      go_enter Try.func20, Try.ntmps20
      go_wp2_with (go_at_call 26; refine (HN.out _ _).mono ?_; rintro e w' ⟨rfl, rfl⟩)
      go_ret
      exact ⟨by rw [hU.out] <;> rfl, rfl⟩
  · rw [h1] at hU
    go_enter Try.func20, Try.ntmps20
    go_wp2_with (go_at_call 26; refine (HN.out _ _).mono ?_; rintro e w' ⟨rfl, rfl⟩)
    go_ret
    exact ⟨by rw [hU.out] <;> rfl, rfl⟩

theorem isNaNI (x : Int) (w : World) : Calls Try.prog 23 #[.int .i64 x] w fun e w' => e = .returned (.bool false) ∧ w' = w := by
  go_enter Try.func23, Try.ntmps23
  go_wp2
  go_ret
  exact ⟨ret_bool (by simp), rfl⟩

def cfI (x y : Int) : Int := if x < y then -1 else if y < x then 1 else 0

theorem compareI (x y : Int) (w : World) : Calls Try.prog 17 #[.int .i64 x, .int .i64 y] w fun e w' => e = .returned (.int .i64 (cfI x y)) ∧ w' = w := by
  have HN : Hid (∀ (z : Int) (w1 : World), _) := fun z w1 => isNaNI z w1
  have hU : Hid (cfI x y = if x < y then -1 else if y < x then 1 else 0) := rfl
  by_cases h : x < y
  · rw [if_pos h] at hU
    go_enter Try.func17, Try.ntmps17
    go_wp2_with (go_at_call 23; refine (HN.out _ _).mono ?_; rintro e w' ⟨rfl, rfl⟩)
    go_ret
    exact ⟨by rw [hU.out] <;> rfl, rfl⟩
  · by_cases h2 : y < x
    · rw [if_neg h, if_pos h2] at hU
      go_enter Try.func17, Try.ntmps17
      go_wp2_with (go_at_call 23; refine (HN.out _ _).mono ?_; rintro e w' ⟨rfl, rfl⟩)
      go_ret
      exact ⟨by rw [hU.out] <;> rfl, rfl⟩
    · rw [if_neg h, if_neg h2] at hU
      go_enter Try.func17, Try.ntmps17
      go_wp2_with (go_at_call 23; refine (HN.out _ _).mono ?_; rintro e w' ⟨rfl, rfl⟩)
      go_ret
      exact ⟨by rw [hU.out] <;> rfl, rfl⟩

theorem isNaNL (x : Int) (w : World) : Calls Try.prog 25 #[.int .i64 x] w fun e w' => e = .returned (.bool false) ∧ w' = w := by
  go_enter Try.func25, Try.ntmps25
  go_wp2
  go_ret
  exact ⟨ret_bool (by simp), rfl⟩

theorem compareL (x y : Int) (w : World) : Calls Try.prog 19 #[.int .i64 x, .int .i64 y] w fun e w' => e = .returned (.int .i64 (cfI x y)) ∧ w' = w := by
  have HN : Hid (∀ (z : Int) (w1 : World), _) := fun z w1 => isNaNL z w1
  have hU : Hid (cfI x y = if x < y then -1 else if y < x then 1 else 0) := rfl
  by_cases h : x < y
  · rw [if_pos h] at hU
    go_enter Try.func19, Try.ntmps19
    go_wp2_with (go_at_call 25; refine (HN.out _ _).mono ?_; rintro e w' ⟨rfl, rfl⟩)
    go_ret
    exact ⟨by rw [hU.out] <;> rfl, rfl⟩
  · by_cases h2 : y < x
    · rw [if_neg h, if_pos h2] at hU
      go_enter Try.func19, Try.ntmps19
      go_wp2_with (go_at_call 25; refine (HN.out _ _).mono ?_; rintro e w' ⟨rfl, rfl⟩)
      go_ret
      exact ⟨by rw [hU.out] <;> rfl, rfl⟩
    · rw [if_neg h, if_neg h2] at hU
      go_enter Try.func19, Try.ntmps19
      go_wp2_with (go_at_call 25; refine (HN.out _ _).mono ?_; rintro e w' ⟨rfl, rfl⟩)
      go_ret
      exact ⟨by rw [hU.out] <;> rfl, rfl⟩

/-- The first of three that isn't nought. -/
theorem or_three (a b c : Int) (k : Nat) (w : World) (h0 : w.cell? ⟨k, 0, none⟩ = some (.int .i64 a)) (h1 : w.cell? ⟨k, 1, none⟩ = some (.int .i64 b)) (h2 : w.cell? ⟨k, 2, none⟩ = some (.int .i64 c)) :
    Calls Try.prog 16 #[.slice (some ⟨k, 0, none⟩) 3 3] w fun e w' => e = .returned (.int .i64 (if a = 0 then if b = 0 then c else b else a)) ∧ w' = w := by
  obtain ⟨r, hr⟩ : ∃ r, (if a = 0 then if b = 0 then c else b else a) = r := ⟨_, rfl⟩
  rw [hr]
  have Hr := Lib.hid hr
  clear hr
  by_cases ha : a = 0
  · subst ha
    by_cases hb : b = 0
    · subst hb
      by_cases hc : c = 0
      · subst hc
        have e : r = 0 := by have := Hr.out; simpa using this.symm
        subst e
        go_enter Try.func16, Try.ntmps16
        go_wp2_with fail
        refine wp_loop_rounds 4 ?_
        rw [rounds_succ]
        go_wp2_with fail
        rw [rounds_succ]
        go_wp2_with fail
        rw [rounds_succ]
        go_wp2_with fail
        rw [rounds_succ]
        go_wp2_with fail
        go_ret
        exact ⟨rfl, rfl⟩
      · have e : r = c := by have := Hr.out; simpa using this.symm
        subst e
        have hc' : (r != 0) = true := bne_iff_ne.2 hc
        have hc2 : (r == 0) = false := beq_eq_false_iff_ne.2 hc
        go_enter Try.func16, Try.ntmps16
        go_wp2_with fail
        refine wp_loop_rounds 3 ?_
        rw [rounds_succ]
        go_wp2_with fail
        rw [rounds_succ]
        go_wp2_with fail
        rw [rounds_succ]
        go_wp2_with fail
        go_ret
        exact ⟨rfl, rfl⟩
    · have e : r = b := by have := Hr.out; rw [if_pos rfl, if_neg hb] at this; exact this.symm
      subst e
      have hc' : (r != 0) = true := bne_iff_ne.2 hb
      have hc2 : (r == 0) = false := beq_eq_false_iff_ne.2 hb
      go_enter Try.func16, Try.ntmps16
      go_wp2_with fail
      refine wp_loop_rounds 2 ?_
      rw [rounds_succ]
      go_wp2_with fail
      rw [rounds_succ]
      go_wp2_with fail
      go_ret
      exact ⟨rfl, rfl⟩
  · have e : r = a := by have := Hr.out; rw [if_neg ha] at this; exact this.symm
    subst e
    have hc' : (r != 0) = true := bne_iff_ne.2 ha
    have hc2 : (r == 0) = false := beq_eq_false_iff_ne.2 ha
    go_enter Try.func16, Try.ntmps16
    go_wp2_with fail
    refine wp_loop_rounds 1 ?_
    rw [rounds_succ]
    go_wp2_with fail
    go_ret
    exact ⟨rfl, rfl⟩

theorem index_pending (k : Nat) (w : World) (k0 : w.cell? ⟨k, 0, none⟩ = some (.int .i64 3)) (k1 : w.cell? ⟨k, 1, none⟩ = some (.int .i64 0)) (_k2 : w.cell? ⟨k, 2, none⟩ = some (.int .i64 1)) (_k3 : w.cell? ⟨k, 3, none⟩ = some (.int .i64 2)) :
    Calls Try.prog 24 #[.slice (some ⟨k, 0, none⟩) 4 4, .int .i64 0] w fun e w' => e = .returned (.int .i64 1) ∧ w' = w := by
  go_enter Try.func24, Try.ntmps24
  go_wp2_with fail
  refine wp_loop_rounds 2 ?_
  rw [rounds_succ]
  go_wp2_with fail
  rw [rounds_succ]
  go_wp2_with fail
  go_ret
  exact ⟨rfl, rfl⟩

theorem rank_pending (w : World) : Calls Try.prog 18 #[.int .i64 0] w fun e w' => e = .returned (.int .i64 1) ∧ w' = w.alloc (.cells #[.int .i64 3, .int .i64 0, .int .i64 1, .int .i64 2] 3) := by
  have k0 : (w.alloc (.cells #[.int .i64 3, .int .i64 0, .int .i64 1, .int .i64 2] 3)).cell? ⟨w.heap.size, 0, none⟩ = some (.int .i64 3) := cell_new w _ _ 0
  have k1 : (w.alloc (.cells #[.int .i64 3, .int .i64 0, .int .i64 1, .int .i64 2] 3)).cell? ⟨w.heap.size, 1, none⟩ = some (.int .i64 0) := cell_new w _ _ 1
  have k2 : (w.alloc (.cells #[.int .i64 3, .int .i64 0, .int .i64 1, .int .i64 2] 3)).cell? ⟨w.heap.size, 2, none⟩ = some (.int .i64 1) := cell_new w _ _ 2
  have k3 : (w.alloc (.cells #[.int .i64 3, .int .i64 0, .int .i64 1, .int .i64 2] 3)).cell? ⟨w.heap.size, 3, none⟩ = some (.int .i64 2) := cell_new w _ _ 3
  go_enter Try.func18, Try.ntmps18
  go_wp2_with fail
  refine (index_pending w.heap.size _ k0 k1 k2 k3).mono ?_
  rintro e w' ⟨rfl, rfl⟩
  go_wp2_with fail
  go_ret
  exact ⟨rfl, rfl⟩

theorem index_ready (k : Nat) (w : World) (k0 : w.cell? ⟨k, 0, none⟩ = some (.int .i64 3)) (k1 : w.cell? ⟨k, 1, none⟩ = some (.int .i64 0)) (k2 : w.cell? ⟨k, 2, none⟩ = some (.int .i64 1)) (k3 : w.cell? ⟨k, 3, none⟩ = some (.int .i64 2)) :
    Calls Try.prog 24 #[.slice (some ⟨k, 0, none⟩) 4 4, .int .i64 2] w fun e w' => e = .returned (.int .i64 3) ∧ w' = w := by
  go_enter Try.func24, Try.ntmps24
  go_wp2_with fail
  refine wp_loop_rounds 4 ?_
  rw [rounds_succ]
  go_wp2_with fail
  rw [rounds_succ]
  go_wp2_with fail
  rw [rounds_succ]
  go_wp2_with fail
  rw [rounds_succ]
  go_wp2_with fail
  go_ret
  exact ⟨rfl, rfl⟩

theorem rank_ready (w : World) : Calls Try.prog 18 #[.int .i64 2] w fun e w' => e = .returned (.int .i64 3) ∧ w' = w.alloc (.cells #[.int .i64 3, .int .i64 0, .int .i64 1, .int .i64 2] 3) := by
  have k0 : (w.alloc (.cells #[.int .i64 3, .int .i64 0, .int .i64 1, .int .i64 2] 3)).cell? ⟨w.heap.size, 0, none⟩ = some (.int .i64 3) := cell_new w _ _ 0
  have k1 : (w.alloc (.cells #[.int .i64 3, .int .i64 0, .int .i64 1, .int .i64 2] 3)).cell? ⟨w.heap.size, 1, none⟩ = some (.int .i64 0) := cell_new w _ _ 1
  have k2 : (w.alloc (.cells #[.int .i64 3, .int .i64 0, .int .i64 1, .int .i64 2] 3)).cell? ⟨w.heap.size, 2, none⟩ = some (.int .i64 1) := cell_new w _ _ 2
  have k3 : (w.alloc (.cells #[.int .i64 3, .int .i64 0, .int .i64 1, .int .i64 2] 3)).cell? ⟨w.heap.size, 3, none⟩ = some (.int .i64 2) := cell_new w _ _ 3
  go_enter Try.func18, Try.ntmps18
  go_wp2_with fail
  refine (index_ready w.heap.size _ k0 k1 k2 k3).mono ?_
  rintro e w' ⟨rfl, rfl⟩
  go_wp2_with fail
  go_ret
  exact ⟨rfl, rfl⟩

end Go.Proofs.Yteajdcldebegmaa
