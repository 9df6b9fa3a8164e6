/- The contracts of the reference's Name, Right and Asks. Condition: texts and rows that fit, the slice reads. -/
import Derived.Test.YtmoeddpbmclckaaRefName
import Derived.Test.YtmoeddpbmclckaaAsks
namespace Go.Proofs.Ytmoeddpbmclckaa
open Go.ChangeShapes Go.WideShapes Go.ChangeAt Go.RowKit Go.Deep

set_option maxHeartbeats 3200000 in
theorem refName_any (s : ByteArray) (hn : s.size ≤ maxLen) (w : World) : Calls Try.prog 23 #[.string s] w fun e w' => e = .returned (.bool (nameOf s.data.toList)) ∧ w' = w := by
  unfold maxLen at hn
  go_enter Try.func23, Try.ntmps23
  go_wp2_with fail
  go_loop [3] (fun i => ∃ k : Nat, k ≤ s.size ∧ i = .int .i64 k ∧ Hid (∀ j, (h : j < s.size) → j < k → refAt s j h = true)) (fun i => s.size - (intOf i).toNat)
  case atStart => exact ⟨0, Nat.zero_le _, rfl, fun j _ h => by omega⟩
  case round =>
    obtain ⟨k, hk, rfl, hall⟩ := hrel
    by_cases hlt : k < s.size
    · have hno : Hid (refAt s k hlt = false → nameOf s.data.toList = false) := fun h => refName_no hlt h
      have hyes : Hid (refAt s k hlt = true → ∀ j, (h : j < s.size) → j < k + 1 → refAt s j h = true) := fun h1 j h hj => if e : j = k then by subst e; exact h1 else hall.out j h (by omega)
      have hw : IntKind.i64.wrap ((s.size : Int) - 1) = (s.size : Int) - 1 := IntWalk.i64_in _ (by omega)
      clear hall
      by_cases g : lowOf (s[k].toNat : Int) = true
      · have hy := Lib.hid (hyes.out (by unfold refAt; rw [g]; rfl))
        clear hno hyes
        unfold lowOf at g
        rcases (show (48 ≤ (s[k].toNat : Int) ∧ (s[k].toNat : Int) ≤ 57) ∨ (97 ≤ (s[k].toNat : Int) ∧ (s[k].toNat : Int) ≤ 122) by simp at g; omega) with ⟨g1, g2⟩ | ⟨g1, g2⟩
        · have d1 : decide (97 ≤ (s[k].toNat : Int)) = false := decide_eq_false (by omega)
          have d3 : decide (48 ≤ (s[k].toNat : Int)) = true := decide_eq_true (by omega)
          have d4 : decide ((s[k].toNat : Int) ≤ 57) = true := decide_eq_true (by omega)
          clear g g1 g2
          go_wp2_with fail
          go_round
          case rel => exact ⟨k + 1, by omega, by go_num, hy.out⟩
          case measure => simp [intOf]; omega
        · have d1 : decide (97 ≤ (s[k].toNat : Int)) = true := decide_eq_true (by omega)
          have d2 : decide ((s[k].toNat : Int) ≤ 122) = true := decide_eq_true (by omega)
          clear g g1 g2
          go_wp2_with fail
          go_round
          case rel => exact ⟨k + 1, by omega, by go_num, hy.out⟩
          case measure => simp [intOf]; omega
      · have gf : lowOf (s[k].toNat : Int) = false := by simpa using g
        have HA : Hid (refAt s k hlt = (!((s[k].toNat : Int) != 45) && (!((k : Int) == 0) && !((k : Int) == (s.size : Int) - 1)))) := by
          show _ = _
          unfold refAt
          rw [gf, Bool.false_or, Bool.eq_iff_iff]
          simp
          omega
        have hc : (s[k].toNat : Int) < 48 ∨ (57 < (s[k].toNat : Int) ∧ (s[k].toNat : Int) < 97) ∨ 122 < (s[k].toNat : Int) := by unfold lowOf at g; simp at g; omega
        clear g gf
        obtain ⟨b1, h1⟩ : ∃ b, ((s[k].toNat : Int) != 45) = b := ⟨_, rfl⟩
        obtain ⟨b2, h2⟩ : ∃ b, ((k : Int) == 0) = b := ⟨_, rfl⟩
        obtain ⟨b3, h3⟩ : ∃ b, ((k : Int) == (s.size : Int) - 1) = b := ⟨_, rfl⟩
        rw [h1, h2, h3] at HA
        rcases hc with g | ⟨g1, g2⟩ | g
        rotate_left
        · have d1 : decide (97 ≤ (s[k].toNat : Int)) = false := decide_eq_false (by omega)
          have d3 : decide (48 ≤ (s[k].toNat : Int)) = true := decide_eq_true (by omega)
          have d4 : decide ((s[k].toNat : Int) ≤ 57) = false := decide_eq_false (by omega)
          obtain rfl : b1 = true := by rw [← h1]; exact bne_iff_ne.2 (by omega)
          have hbad := Lib.hid (hno.out HA.out)
          clear g1 g2 hyes hno
          go_wp2_with fail
          go_ret
          exact ⟨ret_bool hbad.out.symm, rfl⟩
        · have d1 : decide (97 ≤ (s[k].toNat : Int)) = true := decide_eq_true (by omega)
          have d2 : decide ((s[k].toNat : Int) ≤ 122) = false := decide_eq_false (by omega)
          have d3 : decide (48 ≤ (s[k].toNat : Int)) = true := decide_eq_true (by omega)
          have d4 : decide ((s[k].toNat : Int) ≤ 57) = false := decide_eq_false (by omega)
          obtain rfl : b1 = true := by rw [← h1]; exact bne_iff_ne.2 (by omega)
          have hbad := Lib.hid (hno.out HA.out)
          clear g hyes hno
          go_wp2_with fail
          go_ret
          exact ⟨ret_bool hbad.out.symm, rfl⟩
        · have d1 : decide (97 ≤ (s[k].toNat : Int)) = false := decide_eq_false (by omega)
          have d3 : decide (48 ≤ (s[k].toNat : Int)) = false := decide_eq_false (by omega)
          clear g
          rcases b1 with _ | _
          rotate_left
          · have hend : Hid ((nameOf s.data.toList = false) ∨ (refAt s k hlt = true)) := by first | exact .inl (hno.out HA.out) | exact .inr HA.out
            clear hno
            go_wp2_with fail
            first
              | (go_ret; exact ⟨ret_bool (hend.out.resolve_right (by rw [HA.out]; exact Bool.false_ne_true)).symm, rfl⟩)
              | (go_round; (case rel => exact ⟨k + 1, by omega, by go_num, hyes.out HA.out⟩); (case measure => simp [intOf]; omega))
          · skip
            rcases b2 with _ | _
            rotate_left
            · have hend : Hid ((nameOf s.data.toList = false) ∨ (refAt s k hlt = true)) := by first | exact .inl (hno.out HA.out) | exact .inr HA.out
              clear hno
              go_wp2_with fail
              first
                | (go_ret; exact ⟨ret_bool (hend.out.resolve_right (by rw [HA.out]; exact Bool.false_ne_true)).symm, rfl⟩)
                | (go_round; (case rel => exact ⟨k + 1, by omega, by go_num, hyes.out HA.out⟩); (case measure => simp [intOf]; omega))
            · skip
              rcases b3 with _ | _
              rotate_left
              · have hend : Hid ((nameOf s.data.toList = false) ∨ (refAt s k hlt = true)) := by first | exact .inl (hno.out HA.out) | exact .inr HA.out
                clear hno
                go_wp2_with fail
                first
                  | (go_ret; exact ⟨ret_bool (hend.out.resolve_right (by rw [HA.out]; exact Bool.false_ne_true)).symm, rfl⟩)
                  | (go_round; (case rel => exact ⟨k + 1, by omega, by go_num, hyes.out HA.out⟩); (case measure => simp [intOf]; omega))
              · skip
                have hend : Hid ((nameOf s.data.toList = false) ∨ (refAt s k hlt = true)) := by first | exact .inl (hno.out HA.out) | exact .inr HA.out
                clear hno
                go_wp2_with fail
                first
                  | (go_ret; exact ⟨ret_bool (hend.out.resolve_right (by rw [HA.out]; exact Bool.false_ne_true)).symm, rfl⟩)
                  | (go_round; (case rel => exact ⟨k + 1, by omega, by go_num, hyes.out HA.out⟩); (case measure => simp [intOf]; omega))
    · have He := Lib.hid (refName_yes (fun j h => hall.out j h (by omega)))
      clear hall
      by_cases h1 : 1 ≤ (s.size : Int)
      · have hd : decide (1 ≤ (s.size : Int)) = true := decide_eq_true h1
        go_wp2_with fail
        go_ret
        exact ⟨ret_bool (by rw [He.out, hd, Bool.true_and]), rfl⟩
      · have hd : decide (1 ≤ (s.size : Int)) = false := decide_eq_false h1
        go_wp2_with fail
        go_ret
        exact ⟨ret_bool (by rw [He.out, hd, Bool.false_and]), rfl⟩

def SmallL (xs : List Label) : Prop := ∀ k, (h : k < xs.length) → xs[k].key.size ≤ maxLen ∧ xs[k].val.size ≤ maxLen
def SmallS (xs : List Require) : Prop := ∀ k, (h : k < xs.length) → xs[k].key.size ≤ maxLen ∧ xs[k].val.size ≤ maxLen
end Go.Proofs.Ytmoeddpbmclckaa
