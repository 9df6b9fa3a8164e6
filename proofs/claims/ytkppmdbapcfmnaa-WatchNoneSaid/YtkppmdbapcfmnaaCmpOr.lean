/- cmp.Or of three ints. No condition. -/
import Derived.Test.YtkppmdbapcfmnaaDn
import Derived.Test.YtkppmdbapcfmnaaChecked
import Derived.Sort.Walk0
import Derived.Deep.QuietTactic
namespace Go.Proofs.Ytkppmdbapcfmnaa
open Go.ChangeShapes Go.WideShapes Go.ChangeAt Go.RowKit Go.Deep

/-- The first of three that isn't nought. -/
theorem or_three (a b c : Int) (k : Nat) (w : World) (h0 : w.cell? ⟨k, 0, none⟩ = some (.int .i64 a)) (h1 : w.cell? ⟨k, 1, none⟩ = some (.int .i64 b)) (h2 : w.cell? ⟨k, 2, none⟩ = some (.int .i64 c)) :
    Calls Try.prog 20 #[.slice (some ⟨k, 0, none⟩) 3 3] w fun e w' => e = .returned (.int .i64 (if a = 0 then if b = 0 then c else b else a)) ∧ w' = w := by
  obtain ⟨r, hr⟩ : ∃ r, (if a = 0 then if b = 0 then c else b else a) = r := ⟨_, rfl⟩
  rw [hr]
  have Hr := Lib.hid hr
  clear hr
  by_cases ha : a = 0
  · subst ha
    by_cases hb : b = 0
    · subst hb
      by_cases hc : c = 0
      · subst hc
        have e : r = 0 := by have := Hr.out; simpa using this.symm
        subst e
        go_enter Try.func20, Try.ntmps20
        go_wp2_with fail
        refine wp_loop_rounds 4 ?_
        rw [rounds_succ]
        go_wp2_with fail
        rw [rounds_succ]
        go_wp2_with fail
        rw [rounds_succ]
        go_wp2_with fail
        rw [rounds_succ]
        go_wp2_with fail
        go_ret
        exact ⟨rfl, rfl⟩
      · have e : r = c := by have := Hr.out; simpa using this.symm
        subst e
        have hc' : (r != 0) = true := bne_iff_ne.2 hc
        have hc2 : (r == 0) = false := beq_eq_false_iff_ne.2 hc
        go_enter Try.func20, Try.ntmps20
        go_wp2_with fail
        refine wp_loop_rounds 3 ?_
        rw [rounds_succ]
        go_wp2_with fail
        rw [rounds_succ]
        go_wp2_with fail
        rw [rounds_succ]
        go_wp2_with fail
        go_ret
        exact ⟨rfl, rfl⟩
    · have e : r = b := by have := Hr.out; rw [if_pos rfl, if_neg hb] at this; exact this.symm
      subst e
      have hc' : (r != 0) = true := bne_iff_ne.2 hb
      have hc2 : (r == 0) = false := beq_eq_false_iff_ne.2 hb
      go_enter Try.func20, Try.ntmps20
      go_wp2_with fail
      refine wp_loop_rounds 2 ?_
      rw [rounds_succ]
      go_wp2_with fail
      rw [rounds_succ]
      go_wp2_with fail
      go_ret
      exact ⟨rfl, rfl⟩
  · have e : r = a := by have := Hr.out; rw [if_neg ha] at this; exact this.symm
    subst e
    have hc' : (r != 0) = true := bne_iff_ne.2 ha
    have hc2 : (r == 0) = false := beq_eq_false_iff_ne.2 ha
    go_enter Try.func20, Try.ntmps20
    go_wp2_with fail
    refine wp_loop_rounds 1 ?_
    rw [rounds_succ]
    go_wp2_with fail
    go_ret
    exact ⟨rfl, rfl⟩

end Go.Proofs.Ytkppmdbapcfmnaa
