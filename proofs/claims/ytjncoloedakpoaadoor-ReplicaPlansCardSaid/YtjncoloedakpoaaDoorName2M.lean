/- Labels and asks as values. No condition. || The contract of label's sign. No condition. || The contract of label.Name. No condition. -/
import Derived.Test.YtjncoloedakpoaaDoorRows
import Derived.Test.YtjncoloedakpoaaDoorBase
import Derived.Test.YtjncoloedakpoaaDoorVicOwnM
import Derived.Lib.Strings
namespace Go.Proofs.YtjncoloedakpoaaDoor
open Go.ChangeShapes Go.WideShapes Go.ChangeAt Go.RowKit Go.Deep

structure Label where
  key : ByteArray
  val : ByteArray
deriving Inhabited

structure Require where
  key : ByteArray
  val : ByteArray
  op : Int
deriving Inhabited

def Label.cells (l : Label) : List Value := [.string l.key, .string l.val]
def Require.cells (r : Require) : List Value := [.string r.key, .string r.val, .int .i64 r.op]

end Go.Proofs.YtjncoloedakpoaaDoor
namespace Go.Proofs.YtjncoloedakpoaaDoor
open Go.ChangeShapes Go.WideShapes Go.ChangeAt Go.RowKit Go.Deep

def signOf (c : Int) : Bool := (decide (97 ≤ c) && decide (c ≤ 122)) || (decide (48 ≤ c) && decide (c ≤ 57)) || decide (c = 45)

theorem sign_any (c : Int) (w : World) : Calls Tryd.prog 51 #[.int .u8 c] w fun e w' => e = .returned (.bool (signOf c)) ∧ w' = w := by
  go_enter Tryd.func51, Tryd.ntmps51
  go_wp2
  all_goals
    go_ret
    exact ⟨ret_bool (by unfold signOf; rw [Bool.eq_iff_iff]; simp; omega), rfl⟩
end Go.Proofs.YtjncoloedakpoaaDoor
namespace Go.Proofs.YtjncoloedakpoaaDoor
open Go.ChangeShapes Go.WideShapes Go.ChangeAt Go.RowKit Go.Deep

def signL (c : UInt8) : Bool := signOf c.toNat

def nameOf (l : List UInt8) : Bool := decide (0 < l.length) && decide (l.length ≤ 32) && !(l.head? == some 45) && !(l.getLast? == some 45) && l.all signL

theorem size_data (s : ByteArray) : s.size = s.data.toList.length := rfl
theorem get_data (s : ByteArray) (k : Nat) (h : k < s.size) : s[k] = s.data.toList[k]'(by simpa using h) := rfl
theorem byte45 {c : UInt8} : ((c.toNat : Int) = 45) ↔ c = 45 := by
  constructor
  · intro h; apply UInt8.toNat_inj.1; simp; omega
  · intro h; subst h; rfl

theorem name_head {s : ByteArray} (hp : 0 < s.size) (h : (s[0].toNat : Int) = 45) : nameOf s.data.toList = false := by
  have e : s.data.toList.head? = some 45 := by
    rw [List.head?_eq_getElem?, List.getElem?_eq_getElem (by simpa using hp)]
    rw [get_data s 0 hp] at h
    rw [byte45.1 h]
  simp [nameOf, e]
theorem name_last {s : ByteArray} (hp : 0 < s.size) (h : ((s[s.size - 1]'(by omega)).toNat : Int) = 45) : nameOf s.data.toList = false := by
  have e : s.data.toList.getLast? = some 45 := by
    rw [List.getLast?_eq_getElem?, List.getElem?_eq_getElem (by rw [← size_data]; omega)]
    rw [get_data s _ (by omega)] at h
    rw [← byte45.1 h]
    rfl
  simp [nameOf, e]
theorem name_long {s : ByteArray} (h : 32 < (s.size : Int)) : nameOf s.data.toList = false := by
  have e : ¬ s.data.toList.length ≤ 32 := by rw [← size_data]; omega
  unfold nameOf
  rw [decide_eq_false e]
  simp
theorem name_empty {s : ByteArray} (h : s.toList = []) : nameOf s.data.toList = false := by
  rw [Lib.toList_data] at h
  rw [h]; rfl
theorem name_sign {s : ByteArray} {k : Nat} (hk : k < s.size) (h : signL s[k] = false) : nameOf s.data.toList = false := by
  have e : s.data.toList.all signL = false := by
    rw [List.all_eq_false]
    exact ⟨s[k], by rw [get_data s k hk]; exact List.getElem_mem _, by rw [h]; decide⟩
  simp [nameOf, e]
theorem name_yes {s : ByteArray} (hp : 0 < s.size) (h1 : (s.size : Int) ≤ 32) (h2 : ¬ (s[0].toNat : Int) = 45) (h3 : ¬ ((s[s.size - 1]'(by omega)).toNat : Int) = 45) (h4 : ∀ k, (h : k < s.size) → signL s[k] = true) : nameOf s.data.toList = true := by
  have e1 : s.data.toList.head? ≠ some 45 := by
    rw [List.head?_eq_getElem?, List.getElem?_eq_getElem (by simpa using hp)]
    intro e
    exact h2 (byte45.2 (by rw [get_data s 0 hp]; exact Option.some.inj e))
  have e2 : s.data.toList.getLast? ≠ some 45 := by
    rw [List.getLast?_eq_getElem?, List.getElem?_eq_getElem (by rw [← size_data]; omega)]
    intro e
    exact h3 (byte45.2 (by rw [get_data s _ (by omega)]; exact Option.some.inj e))
  have e3 : s.data.toList.all signL = true := by
    rw [List.all_eq_true]
    intro x hx
    obtain ⟨k, hk, rfl⟩ := List.mem_iff_getElem.1 hx
    exact h4 k (by simpa using hk)
  have e4 : 0 < s.data.toList.length := by rw [← size_data]; exact hp
  have e5 : s.data.toList.length ≤ 32 := by rw [← size_data]; omega
  unfold nameOf
  have e6 : (s.data.toList.head? == some 45) = false := by simpa using e1
  have e7 : (s.data.toList.getLast? == some 45) = false := beq_eq_false_iff_ne.2 e2
  rw [decide_eq_true e4, decide_eq_true e5, e3, e6, e7]
  rfl

set_option maxRecDepth 100000 in
set_option maxHeartbeats 1000000 in
theorem name_any (s : ByteArray) (w : World) : Calls Tryd.prog 33 #[.string s] w fun e w' => e = .returned (.bool (nameOf s.data.toList)) ∧ w = w' := by
  have HS : Hid (∀ (c : Int) w1, Calls Tryd.prog 51 #[.int .u8 c] w1 fun e w' => e = .returned (.bool (signOf c)) ∧ w' = w1) := fun c w1 => sign_any c w1
  by_cases h0 : s.size = 0
  · have hl : s.toList = [] := by
      rw [Lib.toList_data]
      exact List.eq_nil_of_length_eq_zero (by rw [← size_data]; exact h0)
    have H0 := Lib.hid (name_empty hl)
    go_enter Tryd.func33, Tryd.ntmps33
    go_wp2
    go_ret
    exact ⟨ret_bool H0.out.symm, rfl⟩
  · have hp : 0 < s.size := by omega
    have he : ¬ s.toList = [] := by
      rw [Lib.toList_data]
      intro e
      rw [size_data, e] at h0
      exact h0 rfl
    have heb : s.toList.isEmpty = false := by simpa using he
    by_cases h32 : 32 < (s.size : Int)
    · have hd : decide (32 < (s.size : Int)) = true := decide_eq_true h32
      go_enter Tryd.func33, Tryd.ntmps33
      go_wp2_with fail
      go_ret
      exact ⟨ret_bool (name_long h32).symm, rfl⟩
    · have hd : decide (32 < (s.size : Int)) = false := decide_eq_false h32
      have h4 : (s.size : Int) ≤ 32 := by omega
      clear h32
      by_cases h2 : (s[0].toNat : Int) = 45
      · have H1 := Lib.hid (name_head hp h2)
        go_enter Tryd.func33, Tryd.ntmps33
        go_wp2_with fail
        go_ret
        exact ⟨ret_bool H1.out.symm, rfl⟩
      · have h2d : ((s[0].toNat : Int) == 45) = false := beq_eq_false_iff_ne.2 h2
        by_cases h3 : ((s[s.size - 1]'(by omega)).toNat : Int) = 45
        · have H1 := Lib.hid (name_last hp h3)
          go_enter Tryd.func33, Tryd.ntmps33
          go_wp2_with fail
          go_ret
          exact ⟨ret_bool H1.out.symm, rfl⟩
        · have h3d : (((s[s.size - 1]'(by omega)).toNat : Int) == 45) = false := beq_eq_false_iff_ne.2 h3
          have HY := Lib.hid (name_yes hp h4 h2 h3)
          clear h2 h3
          go_enter Tryd.func33, Tryd.ntmps33
          go_wp2_with fail
          go_loop [26] (fun i => ∃ k : Nat, k ≤ s.size ∧ i = .int .i64 k ∧ Hid (∀ j, (h : j < s.size) → j < k → signL s[j] = true)) (fun i => s.size - (intOf i).toNat)
          case atStart => exact ⟨0, Nat.zero_le _, rfl, fun j _ h => by omega⟩
          case round =>
            obtain ⟨k, hk, rfl, hall⟩ := hrel
            by_cases hlt : k < s.size
            · cases hs : signL s[k]
              · have H1 := Lib.hid (name_sign hlt hs)
                have H2 : Hid (signOf (s[k].toNat : Int) = false) := hs
                clear hs
                go_wp2_with fail
                refine (HS.out _ _).mono ?_
                rintro e w1 ⟨he, rfl⟩
                rw [H2.out] at he
                subst he
                go_wp2_with fail
                go_ret
                exact ⟨ret_bool H1.out.symm, rfl⟩
              · have H1 := Lib.hid hs
                have H2 : Hid (signOf (s[k].toNat : Int) = true) := hs
                clear hs
                go_wp2_with fail
                refine (HS.out _ _).mono ?_
                rintro e w1 ⟨he, rfl⟩
                rw [H2.out] at he
                subst he
                go_wp2_with fail
                go_round
                case rel => exact ⟨k + 1, by omega, by go_num, fun j h hj => if e : j = k then by subst e; exact H1.out else hall.out j h (by omega)⟩
                case measure => simp [intOf]; omega
            · go_wp2
              go_ret
              exact ⟨ret_bool (HY.out (fun j h => hall.out j h (by omega))).symm, rfl⟩
end Go.Proofs.YtjncoloedakpoaaDoor
