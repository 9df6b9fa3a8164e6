/- slices.Clone at the rows of objects. Condition: the slice reads, of at most a million elements. || Structs compared: labels, asks. Rows of such: are they the same? No condition. || Are rows of labels and asks the same? Contracts of slices.Equal and of the reference's Same. Condition: they read. -/
import Derived.Test.YtpbppgfogepjeaaShapesM
import Derived.Test.YtpbppgfogepjeaaAppendM
import Derived.Test.YtpbppgfogepjeaaName2M
import Derived.Laws.StructEq
import Derived.Deep.QuietTactic
import Derived.Test.YtpbppgfogepjeaaCutListM
namespace Go.Proofs.Ytpbppgfogepjeaa
open Go.ChangeShapes Go.WideShapes Go.ChangeAt Go.RowKit Go.Deep

theorem elemCLabel : ElemOK Try.prog 26 110 2 32 := .mk' (by kernel_rfl) (by kernel_rfl) (by decide)
theorem zeroCLabel (w : World) : (Instr.buildSlice 26 0 (([] : List (Nat × Value))).toArray).run Try.prog w = .ok (.slice (some ⟨w.heap.size, 0, none⟩) 0 0) (w.alloc (.cells #[] 110)) := by kernel_rfl
theorem oneCLabel (y : Label) (u : Value) (h : u ∈ y.cells) : u.oneCell' = true := by
  simp only [Label.cells, List.mem_cons, List.not_mem_nil, or_false] at h
  rcases h with rfl | rfl <;> rfl

set_option maxRecDepth 100000 in
set_option maxHeartbeats 1000000 in
theorem cloneLabel_any (xs : List Label) (ao : Option Addr) (n cap : Nat) (w : World) (hS : SlR (Flat Label.cells) 2 w ao n cap xs) (hn : n ≤ 1000000) :
    Calls Try.prog 55 #[.slice ao n cap] w fun e w' => ∃ v', e = .returned v' ∧ w'.ownsRow w.heap.size 110 2 v' n (xs.flatMap Label.cells) ∧ Below w.heap.size w w' := by
  cases ao with
  | none =>
    have hc := hS.hnil rfl
    have hm : n = 0 := by have := hS.hcap; omega
    subst hc hm
    have hx : xs = [] := List.eq_nil_of_length_eq_zero hS.hlen
    subst hx
    clear hS hn
    have hq : ∀ w, (binOp .eql 26 (.slice none 0 0) (.slice none 0 0)).run Try.prog w = .ok (.bool true) w := fun _ => by kernel_rfl
    go_enter Try.func55, Try.ntmps55
    go_wp2
    go_ret
    exact ⟨_, rfl, World.ownsRow_nil _ _ _ _, Below.refl _ _⟩
  | some ad =>
    have HS := Lib.hid (hS.flatKeeps (Keeps.below ((Below.refl w.heap.size w).alloc (Nat.le_refl _) (.cells #[] 110))))
    clear hS
    have hq : ∀ w, (binOp .eql 26 (.slice (some ad) n cap) (.slice none 0 0)).run Try.prog w = .ok (.bool false) w := fun _ => by kernel_rfl
    go_enter Try.func55, Try.ntmps55
    go_wp2_with (first | ((with_reducible refine at_slot 5 ?_); go_must (refine wpList_buildSlice rfl 26 0 _ rfl [] rfl _ _ zeroCLabel ?_)) | ((with_reducible refine at_slot 7 ?_); go_must (refine wpList_append_slr elemCLabel rfl _ _ rfl w.heap.size _ 0 [] rfl (World.ownsRow_made w _ 0 (Nat.le_refl _) (by decide) rfl) (by rw [World.size_alloc]; omega) (fun _ => rfl) (some ad) n cap xs rfl (by exact HS.out) oneCLabel (by unfold maxLen; omega) (by omega) ?_; intro v2 w2 hown2 hgr2)))
    go_ret
    rw [Nat.zero_add, List.nil_append] at hown2
    exact ⟨_, rfl, hown2, ((Below.refl _ w).alloc (Nat.le_refl _) _).grown hgr2 (by rw [World.size_alloc]; omega) (fun k hk => by cases hk; exact Nat.le_refl _)⟩

theorem elemCRequire : ElemOK Try.prog 27 113 3 40 := .mk' (by kernel_rfl) (by kernel_rfl) (by decide)
theorem zeroCRequire (w : World) : (Instr.buildSlice 27 0 (([] : List (Nat × Value))).toArray).run Try.prog w = .ok (.slice (some ⟨w.heap.size, 0, none⟩) 0 0) (w.alloc (.cells #[] 113)) := by kernel_rfl
theorem oneCRequire (y : Require) (u : Value) (h : u ∈ y.cells) : u.oneCell' = true := by
  simp only [Require.cells, List.mem_cons, List.not_mem_nil, or_false] at h
  rcases h with rfl | rfl | rfl <;> rfl

set_option maxRecDepth 100000 in
set_option maxHeartbeats 1000000 in
theorem cloneRequire_any (xs : List Require) (ao : Option Addr) (n cap : Nat) (w : World) (hS : SlR (Flat Require.cells) 3 w ao n cap xs) (hn : n ≤ 1000000) :
    Calls Try.prog 56 #[.slice ao n cap] w fun e w' => ∃ v', e = .returned v' ∧ w'.ownsRow w.heap.size 113 3 v' n (xs.flatMap Require.cells) ∧ Below w.heap.size w w' := by
  cases ao with
  | none =>
    have hc := hS.hnil rfl
    have hm : n = 0 := by have := hS.hcap; omega
    subst hc hm
    have hx : xs = [] := List.eq_nil_of_length_eq_zero hS.hlen
    subst hx
    clear hS hn
    have hq : ∀ w, (binOp .eql 27 (.slice none 0 0) (.slice none 0 0)).run Try.prog w = .ok (.bool true) w := fun _ => by kernel_rfl
    go_enter Try.func56, Try.ntmps56
    go_wp2
    go_ret
    exact ⟨_, rfl, World.ownsRow_nil _ _ _ _, Below.refl _ _⟩
  | some ad =>
    have HS := Lib.hid (hS.flatKeeps (Keeps.below ((Below.refl w.heap.size w).alloc (Nat.le_refl _) (.cells #[] 113))))
    clear hS
    have hq : ∀ w, (binOp .eql 27 (.slice (some ad) n cap) (.slice none 0 0)).run Try.prog w = .ok (.bool false) w := fun _ => by kernel_rfl
    go_enter Try.func56, Try.ntmps56
    go_wp2_with (first | ((with_reducible refine at_slot 5 ?_); go_must (refine wpList_buildSlice rfl 27 0 _ rfl [] rfl _ _ zeroCRequire ?_)) | ((with_reducible refine at_slot 7 ?_); go_must (refine wpList_append_slr elemCRequire rfl _ _ rfl w.heap.size _ 0 [] rfl (World.ownsRow_made w _ 0 (Nat.le_refl _) (by decide) rfl) (by rw [World.size_alloc]; omega) (fun _ => rfl) (some ad) n cap xs rfl (by exact HS.out) oneCRequire (by unfold maxLen; omega) (by omega) ?_; intro v2 w2 hown2 hgr2)))
    go_ret
    rw [Nat.zero_add, List.nil_append] at hown2
    exact ⟨_, rfl, hown2, ((Below.refl _ w).alloc (Nat.le_refl _) _).grown hgr2 (by rw [World.size_alloc]; omega) (fun k hk => by cases hk; exact Nat.le_refl _)⟩

theorem elemCMetric : ElemOK Try.prog 36 83 3 32 := .mk' (by kernel_rfl) (by kernel_rfl) (by decide)
theorem zeroCMetric (w : World) : (Instr.buildSlice 36 0 (([] : List (Nat × Value))).toArray).run Try.prog w = .ok (.slice (some ⟨w.heap.size, 0, none⟩) 0 0) (w.alloc (.cells #[] 83)) := by kernel_rfl
theorem oneCMetric (y : Metric) (u : Value) (h : u ∈ y.cells) : u.oneCell' = true := by
  simp only [Metric.cells, List.mem_cons, List.not_mem_nil, or_false] at h
  rcases h with rfl | rfl | rfl <;> rfl

set_option maxRecDepth 100000 in
set_option maxHeartbeats 1000000 in
theorem cloneMetric_any (xs : List Metric) (ao : Option Addr) (n cap : Nat) (w : World) (hS : SlR (Flat Metric.cells) 3 w ao n cap xs) (hn : n ≤ 1000000) :
    Calls Try.prog 29 #[.slice ao n cap] w fun e w' => ∃ v', e = .returned v' ∧ w'.ownsRow w.heap.size 83 3 v' n (xs.flatMap Metric.cells) ∧ Below w.heap.size w w' := by
  cases ao with
  | none =>
    have hc := hS.hnil rfl
    have hm : n = 0 := by have := hS.hcap; omega
    subst hc hm
    have hx : xs = [] := List.eq_nil_of_length_eq_zero hS.hlen
    subst hx
    clear hS hn
    have hq : ∀ w, (binOp .eql 36 (.slice none 0 0) (.slice none 0 0)).run Try.prog w = .ok (.bool true) w := fun _ => by kernel_rfl
    go_enter Try.func29, Try.ntmps29
    go_wp2
    go_ret
    exact ⟨_, rfl, World.ownsRow_nil _ _ _ _, Below.refl _ _⟩
  | some ad =>
    have HS := Lib.hid (hS.flatKeeps (Keeps.below ((Below.refl w.heap.size w).alloc (Nat.le_refl _) (.cells #[] 83))))
    clear hS
    have hq : ∀ w, (binOp .eql 36 (.slice (some ad) n cap) (.slice none 0 0)).run Try.prog w = .ok (.bool false) w := fun _ => by kernel_rfl
    go_enter Try.func29, Try.ntmps29
    go_wp2_with (first | ((with_reducible refine at_slot 5 ?_); go_must (refine wpList_buildSlice rfl 36 0 _ rfl [] rfl _ _ zeroCMetric ?_)) | ((with_reducible refine at_slot 7 ?_); go_must (refine wpList_append_slr elemCMetric rfl _ _ rfl w.heap.size _ 0 [] rfl (World.ownsRow_made w _ 0 (Nat.le_refl _) (by decide) rfl) (by rw [World.size_alloc]; omega) (fun _ => rfl) (some ad) n cap xs rfl (by exact HS.out) oneCMetric (by unfold maxLen; omega) (by omega) ?_; intro v2 w2 hown2 hgr2)))
    go_ret
    rw [Nat.zero_add, List.nil_append] at hown2
    exact ⟨_, rfl, hown2, ((Below.refl _ w).alloc (Nat.le_refl _) _).grown hgr2 (by rw [World.size_alloc]; omega) (fun k hk => by cases hk; exact Nat.le_refl _)⟩

theorem elemCPolicy : ElemOK Try.prog 37 49 3 24 := .mk' (by kernel_rfl) (by kernel_rfl) (by decide)
theorem zeroCPolicy (w : World) : (Instr.buildSlice 37 0 (([] : List (Nat × Value))).toArray).run Try.prog w = .ok (.slice (some ⟨w.heap.size, 0, none⟩) 0 0) (w.alloc (.cells #[] 49)) := by kernel_rfl
theorem oneCPolicy (y : Policy) (u : Value) (h : u ∈ y.cells) : u.oneCell' = true := by
  simp only [Policy.cells, List.mem_cons, List.not_mem_nil, or_false] at h
  rcases h with rfl | rfl | rfl <;> rfl

set_option maxRecDepth 100000 in
set_option maxHeartbeats 1000000 in
theorem clonePolicy_any (xs : List Policy) (ao : Option Addr) (n cap : Nat) (w : World) (hS : SlR (Flat Policy.cells) 3 w ao n cap xs) (hn : n ≤ 1000000) :
    Calls Try.prog 30 #[.slice ao n cap] w fun e w' => ∃ v', e = .returned v' ∧ w'.ownsRow w.heap.size 49 3 v' n (xs.flatMap Policy.cells) ∧ Below w.heap.size w w' := by
  cases ao with
  | none =>
    have hc := hS.hnil rfl
    have hm : n = 0 := by have := hS.hcap; omega
    subst hc hm
    have hx : xs = [] := List.eq_nil_of_length_eq_zero hS.hlen
    subst hx
    clear hS hn
    have hq : ∀ w, (binOp .eql 37 (.slice none 0 0) (.slice none 0 0)).run Try.prog w = .ok (.bool true) w := fun _ => by kernel_rfl
    go_enter Try.func30, Try.ntmps30
    go_wp2
    go_ret
    exact ⟨_, rfl, World.ownsRow_nil _ _ _ _, Below.refl _ _⟩
  | some ad =>
    have HS := Lib.hid (hS.flatKeeps (Keeps.below ((Below.refl w.heap.size w).alloc (Nat.le_refl _) (.cells #[] 49))))
    clear hS
    have hq : ∀ w, (binOp .eql 37 (.slice (some ad) n cap) (.slice none 0 0)).run Try.prog w = .ok (.bool false) w := fun _ => by kernel_rfl
    go_enter Try.func30, Try.ntmps30
    go_wp2_with (first | ((with_reducible refine at_slot 5 ?_); go_must (refine wpList_buildSlice rfl 37 0 _ rfl [] rfl _ _ zeroCPolicy ?_)) | ((with_reducible refine at_slot 7 ?_); go_must (refine wpList_append_slr elemCPolicy rfl _ _ rfl w.heap.size _ 0 [] rfl (World.ownsRow_made w _ 0 (Nat.le_refl _) (by decide) rfl) (by rw [World.size_alloc]; omega) (fun _ => rfl) (some ad) n cap xs rfl (by exact HS.out) oneCPolicy (by unfold maxLen; omega) (by omega) ?_; intro v2 w2 hown2 hgr2)))
    go_ret
    rw [Nat.zero_add, List.nil_append] at hown2
    exact ⟨_, rfl, hown2, ((Below.refl _ w).alloc (Nat.le_refl _) _).grown hgr2 (by rw [World.size_alloc]; omega) (fun k hk => by cases hk; exact Nat.le_refl _)⟩

theorem elemCScaled : ElemOK Try.prog 40 87 3 24 := .mk' (by kernel_rfl) (by kernel_rfl) (by decide)
theorem zeroCScaled (w : World) : (Instr.buildSlice 40 0 (([] : List (Nat × Value))).toArray).run Try.prog w = .ok (.slice (some ⟨w.heap.size, 0, none⟩) 0 0) (w.alloc (.cells #[] 87)) := by kernel_rfl
theorem oneCScaled (y : Scaled) (u : Value) (h : u ∈ y.cells) : u.oneCell' = true := by
  simp only [Scaled.cells, List.mem_cons, List.not_mem_nil, or_false] at h
  rcases h with rfl | rfl | rfl <;> rfl

set_option maxRecDepth 100000 in
set_option maxHeartbeats 1000000 in
theorem cloneScaled_any (xs : List Scaled) (ao : Option Addr) (n cap : Nat) (w : World) (hS : SlR (Flat Scaled.cells) 3 w ao n cap xs) (hn : n ≤ 1000000) :
    Calls Try.prog 31 #[.slice ao n cap] w fun e w' => ∃ v', e = .returned v' ∧ w'.ownsRow w.heap.size 87 3 v' n (xs.flatMap Scaled.cells) ∧ Below w.heap.size w w' := by
  cases ao with
  | none =>
    have hc := hS.hnil rfl
    have hm : n = 0 := by have := hS.hcap; omega
    subst hc hm
    have hx : xs = [] := List.eq_nil_of_length_eq_zero hS.hlen
    subst hx
    clear hS hn
    have hq : ∀ w, (binOp .eql 40 (.slice none 0 0) (.slice none 0 0)).run Try.prog w = .ok (.bool true) w := fun _ => by kernel_rfl
    go_enter Try.func31, Try.ntmps31
    go_wp2
    go_ret
    exact ⟨_, rfl, World.ownsRow_nil _ _ _ _, Below.refl _ _⟩
  | some ad =>
    have HS := Lib.hid (hS.flatKeeps (Keeps.below ((Below.refl w.heap.size w).alloc (Nat.le_refl _) (.cells #[] 87))))
    clear hS
    have hq : ∀ w, (binOp .eql 40 (.slice (some ad) n cap) (.slice none 0 0)).run Try.prog w = .ok (.bool false) w := fun _ => by kernel_rfl
    go_enter Try.func31, Try.ntmps31
    go_wp2_with (first | ((with_reducible refine at_slot 5 ?_); go_must (refine wpList_buildSlice rfl 40 0 _ rfl [] rfl _ _ zeroCScaled ?_)) | ((with_reducible refine at_slot 7 ?_); go_must (refine wpList_append_slr elemCScaled rfl _ _ rfl w.heap.size _ 0 [] rfl (World.ownsRow_made w _ 0 (Nat.le_refl _) (by decide) rfl) (by rw [World.size_alloc]; omega) (fun _ => rfl) (some ad) n cap xs rfl (by exact HS.out) oneCScaled (by unfold maxLen; omega) (by omega) ?_; intro v2 w2 hown2 hgr2)))
    go_ret
    rw [Nat.zero_add, List.nil_append] at hown2
    exact ⟨_, rfl, hown2, ((Below.refl _ w).alloc (Nat.le_refl _) _).grown hgr2 (by rw [World.size_alloc]; omega) (fun k hk => by cases hk; exact Nat.le_refl _)⟩

end Go.Proofs.Ytpbppgfogepjeaa
namespace Go.Proofs.Ytpbppgfogepjeaa
open Go.ChangeShapes Go.WideShapes Go.ChangeAt Go.RowKit Go.Deep

end Go.Proofs.Ytpbppgfogepjeaa
namespace Go.Proofs.Ytpbppgfogepjeaa
open Go.ChangeShapes Go.WideShapes Go.ChangeAt Go.RowKit Go.Deep

end Go.Proofs.Ytpbppgfogepjeaa
