/- Contracts of window's Stable, Len, New, and of the layer's example. Condition: the memory lies in blocks of the call's own. -/
import Derived.Test.YtbhhjlnjhlagdaaWindow4
namespace Go.Proofs.Ytbhhjlnjhlagdaa
open Go.ChangeShapes Go.WideShapes Go.ChangeAt Go.RowKit Go.Deep

def stV (p : Int) (q : Bool) (r : Int) (s : Bool) (there : Int) : Int :=
  if q = true ∧ there < p then p else if s = true ∧ r < there then r else there
def stableOf (xs : List Note) (now there up down : Int) : Int :=
  stV (leastOf (xs.filter (inSpan now (spanOf up)))).1 (leastOf (xs.filter (inSpan now (spanOf up)))).2 (greatestOf (xs.filter (inSpan now (spanOf down)))).1 (greatestOf (xs.filter (inSpan now (spanOf down)))).2 there

theorem stable_nil (now there up down : Int) (w : World) :
    Calls Try.prog 35 #[.pointer none, .int .i64 now, .int .i64 there, .int .i64 up, .int .i64 down] w fun e w' => e = .returned (.int .i64 there) ∧ Below w.heap.size w w' := by
  go_enter Try.func35, Try.ntmps35
  go_wp2_with fail
  refine (least_nil now up _).mono ?_
  rintro e w1 ⟨rfl, hb1⟩
  go_wp2_with fail
  refine (greatest_nil now down _).mono ?_
  rintro e w2 ⟨rfl, hb2⟩
  go_wp2
  go_ret
  exact ⟨rfl, hb1.trans (hb2.mono hb1.size)⟩

set_option maxHeartbeats 2000000 in
theorem stable_any (B mb : Nat) (v : Value) (xs : List Note) (now there up down : Int) (w : World) (hM : MemAt w B mb v xs) (hlen : xs.length ≤ 1000000) (hnow : now ≤ 9223372036854775807) (h0 : ∀ x ∈ xs, 0 ≤ x.at_) :
    Calls Try.prog 35 #[.pointer (some ⟨mb, 0, none⟩), .int .i64 now, .int .i64 there, .int .i64 up, .int .i64 down] w fun e w' => e = .returned (.int .i64 (stableOf xs now there up down)) ∧ Below w.heap.size w w' := by
  have HL := Lib.hid (least_any B mb v xs now up w hM hlen hnow h0)
  have HG : Hid (∀ w1, Below w.heap.size w w1 → _) := fun w1 hb => greatest_any B mb v xs now down w1 (hM.fr (Fr.of_below hb (fun _ => False)) (fun _ _ h => h)) hlen hnow h0
  unfold stableOf
  clear hM h0
  obtain ⟨a, ha⟩ : ∃ a, leastOf (xs.filter (inSpan now (spanOf up))) = a := ⟨_, rfl⟩
  obtain ⟨b, hb⟩ : ∃ b, greatestOf (xs.filter (inSpan now (spanOf down))) = b := ⟨_, rfl⟩
  rw [ha] at HL ⊢
  rw [hb] at HG ⊢
  clear ha hb
  obtain ⟨p, q⟩ := a
  obtain ⟨r, s⟩ := b
  dsimp only at HL HG ⊢
  cases q
  · cases s
    · go_enter Try.func35, Try.ntmps35
      go_wp2_with fail
      refine HL.out.mono ?_
      rintro e w1 ⟨rfl, hb1⟩
      go_wp2_with fail
      refine (HG.out w1 hb1).mono ?_
      rintro e w2 ⟨rfl, hb2⟩
      go_wp2
      go_ret
      exact ⟨ret_int (by unfold stV; (repeat' split) <;> first | rfl | omega | (simp_all; done) | (simp_all; omega)), hb1.trans (hb2.mono hb1.size)⟩
    · by_cases hr : r < there
      all_goals
        go_enter Try.func35, Try.ntmps35
        go_wp2_with fail
        refine HL.out.mono ?_
        rintro e w1 ⟨rfl, hb1⟩
        go_wp2_with fail
        refine (HG.out w1 hb1).mono ?_
        rintro e w2 ⟨rfl, hb2⟩
        go_wp2
        go_ret
        exact ⟨ret_int (by unfold stV; (repeat' split) <;> first | rfl | omega | (simp_all; done) | (simp_all; omega)), hb1.trans (hb2.mono hb1.size)⟩
  · by_cases hp : there < p
    · go_enter Try.func35, Try.ntmps35
      go_wp2_with fail
      refine HL.out.mono ?_
      rintro e w1 ⟨rfl, hb1⟩
      go_wp2
      go_ret
      exact ⟨ret_int (by unfold stV; (repeat' split) <;> first | rfl | omega | (simp_all; done) | (simp_all; omega)), hb1⟩
    · cases s
      · go_enter Try.func35, Try.ntmps35
        go_wp2_with fail
        refine HL.out.mono ?_
        rintro e w1 ⟨rfl, hb1⟩
        go_wp2_with fail
        refine (HG.out w1 hb1).mono ?_
        rintro e w2 ⟨rfl, hb2⟩
        go_wp2
        go_ret
        exact ⟨ret_int (by unfold stV; (repeat' split) <;> first | rfl | omega | (simp_all; done) | (simp_all; omega)), hb1.trans (hb2.mono hb1.size)⟩
      · by_cases hr : r < there
        all_goals
          go_enter Try.func35, Try.ntmps35
          go_wp2_with fail
          refine HL.out.mono ?_
          rintro e w1 ⟨rfl, hb1⟩
          go_wp2_with fail
          refine (HG.out w1 hb1).mono ?_
          rintro e w2 ⟨rfl, hb2⟩
          go_wp2
          go_ret
          exact ⟨ret_int (by unfold stV; (repeat' split) <;> first | rfl | omega | (simp_all; done) | (simp_all; omega)), hb1.trans (hb2.mono hb1.size)⟩

theorem new_any (w : World) : Calls Try.prog 33 #[] w fun e w' => e = .returned (.pointer (some ⟨w.heap.size, 0, none⟩)) ∧ w' = w.alloc (.cells #[.slice none 0 0] 138) := by
  go_enter Try.func33, Try.ntmps33
  go_wp2
  go_ret
  exact ⟨rfl, rfl⟩

theorem MemAt.new (w : World) (B : Nat) (hB : B ≤ w.heap.size) : MemAt (w.alloc (.cells #[.slice none 0 0] 138)) B w.heap.size (.slice none 0 0) [] :=
  ⟨heap_alloc_new w _, hB, World.ownsRow_nil _ _ _ _⟩

theorem note_any (B mb : Nat) (v : Value) (xs : List Note) (at_ n : Int) (w : World) (hM : MemAt w B mb v xs) (hB : B ≤ w.heap.size) (hlen : xs.length ≤ 1000000) :
    Calls Try.prog 38 #[.pointer (some ⟨mb, 0, none⟩), .int .i64 at_, .int .i64 n] w fun e w' => e = .returned (.int .i64 (noteRes xs at_ n).1) ∧
      ∃ v', MemAt w' B mb v' (noteRes xs at_ n).2 ∧ Fr (foot mb v) w w' ∧ (∀ k, foot mb v' k → foot mb v k ∨ w.heap.size ≤ k) := by
  by_cases hbad : at_ < 0 ∨ 4611686018427387904 < at_ ∨ n < 0
  · refine (note_arg mb at_ n w hbad).mono ?_
    rintro e w1 ⟨rfl, hb⟩
    unfold noteRes
    rw [if_pos hbad]
    exact ⟨rfl, v, hM.fr (Fr.of_below hb (fun _ => False)) (fun _ _ h => h), Fr.of_below hb _, fun k hk => .inl hk⟩
  · obtain ⟨h1, h2, h3⟩ : 0 ≤ at_ ∧ at_ ≤ 4611686018427387904 ∧ 0 ≤ n := by omega
    by_cases hx : xs = []
    · subst hx
      refine (note_new B mb v [] at_ n w hM hB h1 h2 h3 hlen (fun ys l h => by simp at h)).mono ?_
      rintro e w1 ⟨rfl, h⟩
      have e1 : noteRes [] at_ n = (0, [⟨at_, n, n⟩]) := by unfold noteRes; rw [if_neg hbad]; rfl
      have e2 : ([] ++ [(⟨at_, n, n⟩ : Note)]).filter (fun x : Note => !decide (x.at_ < at_ - 1800)) = [⟨at_, n, n⟩] := by
        simp
        omega
      rw [e1]
      rw [e2] at h
      exact ⟨rfl, h⟩
    · obtain ⟨ys, l, rfl⟩ : ∃ ys l, xs = ys ++ [l] := ⟨xs.dropLast, xs.getLast hx, by rw [List.dropLast_concat_getLast]⟩
      have eL : noteRes (ys ++ [l]) at_ n = if at_ < l.at_ then (13, ys ++ [l]) else if at_ = l.at_ then (0, ys ++ [⟨l.at_, min l.low n, max l.high n⟩]) else (0, (ys ++ [l] ++ [(⟨at_, n, n⟩ : Note)]).filter fun x => !decide (x.at_ < at_ - 1800)) := by
        unfold noteRes
        rw [if_neg hbad]
        simp
      rw [eL]
      by_cases h4 : at_ < l.at_
      · rw [if_pos h4]
        refine (note_stale B mb v ys l at_ n w hM h1 h2 h3 h4).mono ?_
        rintro e w1 ⟨rfl, hb⟩
        exact ⟨rfl, v, hM.fr (Fr.of_below hb (fun _ => False)) (fun _ _ h => h), Fr.of_below hb _, fun k hk => .inl hk⟩
      · rw [if_neg h4]
        by_cases h5 : at_ = l.at_
        · rw [if_pos h5]
          subst h5
          refine (note_same B mb v ys l n w hM h1 h2 h3).mono ?_
          rintro e w1 ⟨rfl, hM', hF⟩
          exact ⟨rfl, v, hM', hF, fun k hk => .inl hk⟩
        · rw [if_neg h5]
          refine (note_new B mb v (ys ++ [l]) at_ n w hM hB h1 h2 h3 hlen (fun zs q h => ?_)).mono ?_
          · have := List.append_inj' h rfl
            simp only [List.cons.injEq, and_true] at this
            rw [← this.2]
            omega
          · rintro e w1 ⟨rfl, h⟩
            exact ⟨rfl, h⟩

theorem lives21 (w : World) : Calls Try.prog 32 #[] w fun e w' => e = .returned (.bool true) ∧ Below w.heap.size w w' := by
  go_enter Try.func32, Try.ntmps32
  go_wp2_with fail
  refine (new_any w).mono ?_
  rintro e w1 ⟨rfl, rfl⟩
  have hM := MemAt.new w w.heap.size (Nat.le_refl _)
  have hb0 := (Below.refl w.heap.size w).alloc (Nat.le_refl _) (.cells #[.slice none 0 0] 138)
  go_wp2_with fail
  refine (note_any w.heap.size w.heap.size _ [] 10 5 _ hM hb0.size (by decide)).mono ?_
  rintro e w2 ⟨he, v2, hM2, hF2, hk2⟩
  have e1 : noteRes [] 10 5 = (0, [⟨10, 5, 5⟩]) := by decide
  rw [e1] at he hM2
  subst he
  have hb2 : Below w.heap.size w w2 := hb0.trans (hF2.below hb0.size (fun k hk => by
    rcases hk with hk | hk
    · rw [hk]; exact Nat.le_refl _
    · simp [Value.ownBlock] at hk))
  go_wp2_with fail
  refine (note_any w.heap.size w.heap.size v2 [⟨10, 5, 5⟩] 12 2 _ hM2 hb2.size (by decide)).mono ?_
  rintro e w3 ⟨he, v3, hM3, hF3, hk3⟩
  have e2 : noteRes [⟨10, 5, 5⟩] 12 2 = (0, [⟨10, 5, 5⟩, ⟨12, 2, 2⟩]) := by decide
  rw [e2] at he hM3
  subst he
  have hb3 : Below w.heap.size w w3 := hb2.trans (hF3.below hb2.size (fun k hk => by
    rcases hk with hk | hk
    · rw [hk]; exact Nat.le_refl _
    · exact (hM2.own.lt k hk).1))
  clear e1 e2 hM hM2 hF2 hk2 hF3 hk3 hb0 hb2
  go_wp2_with fail
  refine (stable_any w.heap.size w.heap.size v3 [⟨10, 5, 5⟩, ⟨12, 2, 2⟩] 12 4 0 5 w3 hM3 (by decide) (by decide) (by decide)).mono ?_
  rintro e w4 ⟨he, hb4⟩
  have e3 : stableOf [⟨10, 5, 5⟩, ⟨12, 2, 2⟩] 12 4 0 5 = 4 := by decide
  rw [e3] at he
  subst he
  clear e3
  have hM4 := hM3.fr (Fr.of_below hb4 (fun _ => False)) (fun _ _ h => h)
  have Hb4 := Lib.hid (hb3.trans (hb4.mono hb3.size))
  clear hb4 hM3 hb3
  go_wp2_with fail
  refine (stable_any w.heap.size w.heap.size v3 [⟨10, 5, 5⟩, ⟨12, 2, 2⟩] 12 6 0 5 w4 hM4 (by decide) (by decide) (by decide)).mono ?_
  rintro e w5 ⟨he, hb5⟩
  have e3 : stableOf [⟨10, 5, 5⟩, ⟨12, 2, 2⟩] 12 6 0 5 = 5 := by decide
  rw [e3] at he
  subst he
  clear e3
  have Hb5 := Lib.hid (Hb4.out.trans (hb5.mono Hb4.out.size))
  clear hb5 hM4
  go_wp2
  go_ret
  exact ⟨rfl, Hb5.out⟩
end Go.Proofs.Ytbhhjlnjhlagdaa
