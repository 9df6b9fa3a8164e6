/- The contract of label.Name. No condition. || Contracts of package gauge's small functions: parts, halved. Condition: the numbers are in range. -/
import Derived.Test.YtoamjihchmokcaaNameM
import Derived.Lib.Strings
import Derived.Test.YtoamjihchmokcaaRows
import Derived.Test.YtoamjihchmokcaaBase
import Derived.Laws.BitsAllLaws
namespace Go.Proofs.Ytoamjihchmokcaa
open Go.ChangeShapes Go.WideShapes Go.ChangeAt Go.RowKit Go.Deep

def signL (c : UInt8) : Bool := signOf c.toNat

def nameOf (l : List UInt8) : Bool := decide (0 < l.length) && decide (l.length ≤ 32) && !(l.head? == some 45) && !(l.getLast? == some 45) && l.all signL

theorem size_data (s : ByteArray) : s.size = s.data.toList.length := rfl
theorem get_data (s : ByteArray) (k : Nat) (h : k < s.size) : s[k] = s.data.toList[k]'(by simpa using h) := rfl
theorem byte45 {c : UInt8} : ((c.toNat : Int) = 45) ↔ c = 45 := by
  constructor
  · intro h; apply UInt8.toNat_inj.1; simp; omega
  · intro h; subst h; rfl

theorem name_head {s : ByteArray} (hp : 0 < s.size) (h : (s[0].toNat : Int) = 45) : nameOf s.data.toList = false := by
  have e : s.data.toList.head? = some 45 := by
    rw [List.head?_eq_getElem?, List.getElem?_eq_getElem (by simpa using hp)]
    rw [get_data s 0 hp] at h
    rw [byte45.1 h]
  simp [nameOf, e]
theorem name_last {s : ByteArray} (hp : 0 < s.size) (h : ((s[s.size - 1]'(by omega)).toNat : Int) = 45) : nameOf s.data.toList = false := by
  have e : s.data.toList.getLast? = some 45 := by
    rw [List.getLast?_eq_getElem?, List.getElem?_eq_getElem (by rw [← size_data]; omega)]
    rw [get_data s _ (by omega)] at h
    rw [← byte45.1 h]
    rfl
  simp [nameOf, e]
theorem name_long {s : ByteArray} (h : 32 < (s.size : Int)) : nameOf s.data.toList = false := by
  have e : ¬ s.data.toList.length ≤ 32 := by rw [← size_data]; omega
  unfold nameOf
  rw [decide_eq_false e]
  simp
theorem name_empty {s : ByteArray} (h : s.toList = []) : nameOf s.data.toList = false := by
  rw [Lib.toList_data] at h
  rw [h]; rfl
theorem name_sign {s : ByteArray} {k : Nat} (hk : k < s.size) (h : signL s[k] = false) : nameOf s.data.toList = false := by
  have e : s.data.toList.all signL = false := by
    rw [List.all_eq_false]
    exact ⟨s[k], by rw [get_data s k hk]; exact List.getElem_mem _, by rw [h]; decide⟩
  simp [nameOf, e]
theorem name_yes {s : ByteArray} (hp : 0 < s.size) (h1 : (s.size : Int) ≤ 32) (h2 : ¬ (s[0].toNat : Int) = 45) (h3 : ¬ ((s[s.size - 1]'(by omega)).toNat : Int) = 45) (h4 : ∀ k, (h : k < s.size) → signL s[k] = true) : nameOf s.data.toList = true := by
  have e1 : s.data.toList.head? ≠ some 45 := by
    rw [List.head?_eq_getElem?, List.getElem?_eq_getElem (by simpa using hp)]
    intro e
    exact h2 (byte45.2 (by rw [get_data s 0 hp]; exact Option.some.inj e))
  have e2 : s.data.toList.getLast? ≠ some 45 := by
    rw [List.getLast?_eq_getElem?, List.getElem?_eq_getElem (by rw [← size_data]; omega)]
    intro e
    exact h3 (byte45.2 (by rw [get_data s _ (by omega)]; exact Option.some.inj e))
  have e3 : s.data.toList.all signL = true := by
    rw [List.all_eq_true]
    intro x hx
    obtain ⟨k, hk, rfl⟩ := List.mem_iff_getElem.1 hx
    exact h4 k (by simpa using hk)
  have e4 : 0 < s.data.toList.length := by rw [← size_data]; exact hp
  have e5 : s.data.toList.length ≤ 32 := by rw [← size_data]; omega
  unfold nameOf
  have e6 : (s.data.toList.head? == some 45) = false := by simpa using e1
  have e7 : (s.data.toList.getLast? == some 45) = false := beq_eq_false_iff_ne.2 e2
  rw [decide_eq_true e4, decide_eq_true e5, e3, e6, e7]
  rfl

set_option maxRecDepth 100000 in
set_option maxHeartbeats 1000000 in
theorem name_any (s : ByteArray) (w : World) : Calls Try.prog 14 #[.string s] w fun e w' => e = .returned (.bool (nameOf s.data.toList)) ∧ w = w' := by
  have HS : Hid (∀ (c : Int) w1, Calls Try.prog 29 #[.int .u8 c] w1 fun e w' => e = .returned (.bool (signOf c)) ∧ w' = w1) := fun c w1 => sign_any c w1
  by_cases h0 : s.size = 0
  · have hl : s.toList = [] := by
      rw [Lib.toList_data]
      exact List.eq_nil_of_length_eq_zero (by rw [← size_data]; exact h0)
    have H0 := Lib.hid (name_empty hl)
    go_enter Try.func14, Try.ntmps14
    go_wp2
    go_ret
    exact ⟨ret_bool H0.out.symm, rfl⟩
  · have hp : 0 < s.size := by omega
    have he : ¬ s.toList = [] := by
      rw [Lib.toList_data]
      intro e
      rw [size_data, e] at h0
      exact h0 rfl
    have heb : s.toList.isEmpty = false := by simpa using he
    by_cases h32 : 32 < (s.size : Int)
    · have hd : decide (32 < (s.size : Int)) = true := decide_eq_true h32
      go_enter Try.func14, Try.ntmps14
      go_wp2_with fail
      go_ret
      exact ⟨ret_bool (name_long h32).symm, rfl⟩
    · have hd : decide (32 < (s.size : Int)) = false := decide_eq_false h32
      have h4 : (s.size : Int) ≤ 32 := by omega
      clear h32
      by_cases h2 : (s[0].toNat : Int) = 45
      · have H1 := Lib.hid (name_head hp h2)
        go_enter Try.func14, Try.ntmps14
        go_wp2_with fail
        go_ret
        exact ⟨ret_bool H1.out.symm, rfl⟩
      · have h2d : ((s[0].toNat : Int) == 45) = false := beq_eq_false_iff_ne.2 h2
        by_cases h3 : ((s[s.size - 1]'(by omega)).toNat : Int) = 45
        · have H1 := Lib.hid (name_last hp h3)
          go_enter Try.func14, Try.ntmps14
          go_wp2_with fail
          go_ret
          exact ⟨ret_bool H1.out.symm, rfl⟩
        · have h3d : (((s[s.size - 1]'(by omega)).toNat : Int) == 45) = false := beq_eq_false_iff_ne.2 h3
          have HY := Lib.hid (name_yes hp h4 h2 h3)
          clear h2 h3
          go_enter Try.func14, Try.ntmps14
          go_wp2_with fail
          go_loop [26] (fun i => ∃ k : Nat, k ≤ s.size ∧ i = .int .i64 k ∧ Hid (∀ j, (h : j < s.size) → j < k → signL s[j] = true)) (fun i => s.size - (intOf i).toNat)
          case atStart => exact ⟨0, Nat.zero_le _, rfl, fun j _ h => by omega⟩
          case round =>
            obtain ⟨k, hk, rfl, hall⟩ := hrel
            by_cases hlt : k < s.size
            · cases hs : signL s[k]
              · have H1 := Lib.hid (name_sign hlt hs)
                have H2 : Hid (signOf (s[k].toNat : Int) = false) := hs
                clear hs
                go_wp2_with fail
                refine (HS.out _ _).mono ?_
                rintro e w1 ⟨he, rfl⟩
                rw [H2.out] at he
                subst he
                go_wp2_with fail
                go_ret
                exact ⟨ret_bool H1.out.symm, rfl⟩
              · have H1 := Lib.hid hs
                have H2 : Hid (signOf (s[k].toNat : Int) = true) := hs
                clear hs
                go_wp2_with fail
                refine (HS.out _ _).mono ?_
                rintro e w1 ⟨he, rfl⟩
                rw [H2.out] at he
                subst he
                go_wp2_with fail
                go_round
                case rel => exact ⟨k + 1, by omega, by go_num, fun j h hj => if e : j = k then by subst e; exact H1.out else hall.out j h (by omega)⟩
                case measure => simp [intOf]; omega
            · go_wp2
              go_ret
              exact ⟨ret_bool (HY.out (fun j h => hall.out j h (by omega))).symm, rfl⟩
end Go.Proofs.Ytoamjihchmokcaa
namespace Go.Proofs.Ytoamjihchmokcaa
open Go.ChangeShapes Go.WideShapes Go.ChangeAt Go.RowKit Go.Deep

theorem and_low (x k : Nat) (hx : x < 18446744073709551616) (hk : 2 ^ k ≤ 18446744073709551616) : bits .and .u64 (x : Int) (((2 ^ k : Nat) : Int) - 1) = ((x % 2 ^ k : Nat) : Int) := by
  have hp : 0 < 2 ^ k := Nat.two_pow_pos k
  have e : ((2 ^ k : Nat) : Int) - 1 = ((2 ^ k - 1 : Nat) : Int) := by omega
  rw [e, u64_and_nat x (2 ^ k - 1) hx (by omega), Nat.and_two_pow_sub_one_eq_mod]

theorem or_high (m : Nat) (hm : m < 4503599627370496) : bits .or .u64 (m : Int) 4503599627370496 = ((m + 4503599627370496 : Nat) : Int) := by
  have h := u64_or_nat m 4503599627370496 (by omega) (by omega)
  have e : m ||| 4503599627370496 = m + 4503599627370496 := by
    have h2 := Nat.two_pow_add_eq_or_of_lt (i := 52) (b := m) (by simpa using hm) 1
    rw [Nat.or_comm]
    simp at h2
    omega
  rw [e] at h
  exact h

def partsOf (x : Nat) : Nat × Int := if x / 4503599627370496 = 0 then (x % 4503599627370496, -1074) else (x % 4503599627370496 + 4503599627370496, (x / 4503599627370496 : Nat) - 1075)

theorem parts_any (x : Nat) (w : World) (hx : x < 9223372036854775808) :
    Calls Try.prog 33 #[.int .u64 x] w fun e w' => e = .returned (.tuple #[.int .u64 (partsOf x).1, .int .i64 (partsOf x).2]) ∧ w = w' := by
  have ha := and_low x 52 (by omega) (by decide)
  have hml : x % 2 ^ 52 < 4503599627370496 := Nat.mod_lt _ (by decide)
  have hp : partsOf x = if x / 4503599627370496 = 0 then (x % 2 ^ 52, (-1074 : Int)) else (x % 2 ^ 52 + 4503599627370496, ((x / 4503599627370496 : Nat) : Int) - 1075) := rfl
  obtain ⟨m, hm⟩ : ∃ m, x % 2 ^ 52 = m := ⟨_, rfl⟩
  obtain ⟨q, hq⟩ : ∃ q, x / 4503599627370496 = q := ⟨_, rfl⟩
  have hqi : (x : Int) / 4503599627370496 = (q : Int) := by omega
  have hql : q < 2048 := by omega
  rw [hm] at ha hml hp
  rw [hq] at hp
  have ha' : bits .and .u64 (x : Int) 4503599627370495 = (m : Int) := ha
  have ho := or_high m hml
  have Hp := Lib.hid hp
  clear ha hm hq hp
  by_cases h0 : q = 0
  · have hb : (((q : Nat) : Int) == 0) = true := by rw [h0]; rfl
    have Hp2 := Lib.hid (Hp.out.trans (if_pos h0))
    clear h0
    go_enter Try.func33, Try.ntmps33
    go_wp2
    go_ret2
    exact ⟨by rw [Hp2.out]; rfl, rfl⟩
  · have hb : (((q : Nat) : Int) == 0) = false := by rw [beq_eq_false_iff_ne]; omega
    have Hp2 := Lib.hid (Hp.out.trans (if_neg h0))
    clear h0
    go_enter Try.func33, Try.ntmps33
    go_wp2
    go_ret2
    exact ⟨by rw [Hp2.out]; simp, rfl⟩

def halvedOf (x n : Nat) : Nat := if 2 ^ n / 2 < x % 2 ^ n ∨ (x % 2 ^ n = 2 ^ n / 2 ∧ x / 2 ^ n % 2 = 1) then x / 2 ^ n + 1 else x / 2 ^ n

theorem halved_far (x : Nat) (n : Int) (w : World) (hn : 63 < n) :
    Calls Try.prog 35 #[.int .u64 x, .int .i64 n] w fun e w' => e = .returned (.int .u64 0) ∧ Below w.heap.size w w' := by
  have hd : decide (63 < n) = true := decide_eq_true hn
  go_enter Try.func35, Try.ntmps35
  go_wp2_with fail
  go_ret
  exact ⟨rfl, Below.refl _ _⟩

set_option maxHeartbeats 1000000 in
theorem halved_any (x n : Nat) (w : World) (hx : x < 9223372036854775808) (h0 : 1 ≤ n) (hn : n ≤ 63) :
    Calls Try.prog 35 #[.int .u64 x, .int .i64 n] w fun e w' => e = .returned (.int .u64 (halvedOf x n)) ∧ Below w.heap.size w w' := by
  have hp := Nat.two_pow_pos n
  have hle : 2 ^ n ≤ 9223372036854775808 := Nat.pow_le_pow_right (by decide) hn
  have ha := and_low x n (by omega) (by omega)
  have hH : Hid (halvedOf x n = if 2 ^ n / 2 < x % 2 ^ n ∨ (x % 2 ^ n = 2 ^ n / 2 ∧ x / 2 ^ n % 2 = 1) then x / 2 ^ n + 1 else x / 2 ^ n) := rfl
  have hdm := Nat.div_le_self x (2 ^ n)
  have hml := Nat.mod_lt x hp
  have hti : (2 : Int) ^ n = ((2 ^ n : Nat) : Int) := by simp
  have hai := and_low (x / 2 ^ n) 1 (by omega) (by decide)
  obtain ⟨t, ht⟩ : ∃ t, 2 ^ n = t := ⟨_, rfl⟩
  rw [ht] at hp hle ha hH hdm hml hti hai
  obtain ⟨q, hq⟩ : ∃ q, x / t = q := ⟨_, rfl⟩
  obtain ⟨r, hr⟩ : ∃ r, x % t = r := ⟨_, rfl⟩
  have hqi : (x : Int) / (t : Int) = (q : Int) := by rw [← hq]; simp
  rw [hq] at hH hdm hai
  rw [hr] at hH hml ha
  have hw1 : IntKind.u64.wrap ((2 : Int) ^ n) = (t : Int) := by rw [hti]; exact IntWalk.u64_in _ (by omega)
  have hw2 : IntKind.u64.wrap ((t : Int) - 1) = (t : Int) - 1 := IntWalk.u64_in _ (by omega)
  have hai' : bits .and .u64 (q : Int) 1 = ((q % 2 : Nat) : Int) := hai
  have hdn : decide ((63 : Int) < (n : Int)) = false := decide_eq_false (by omega)
  obtain ⟨o, ho⟩ : ∃ o, q % 2 = o := ⟨_, rfl⟩
  rw [ho] at hai' hH
  have hol : o < 2 := by omega
  clear ht hq hr hai ho
  rcases (show t / 2 < r ∨ (r ≤ t / 2 ∧ r = t / 2 ∧ o = 1) ∨ (r ≤ t / 2 ∧ r = t / 2 ∧ o = 0) ∨ (r ≤ t / 2 ∧ r ≠ t / 2) by omega) with h1 | ⟨h1, h2, h3⟩ | ⟨h1, h2, h3⟩ | ⟨h1, h2⟩
  · have H1 := Lib.hid (hH.out.trans (if_pos (.inl h1)))
    have d1 : (t : Int) / 2 < (r : Int) := by omega
    clear hH h1
    go_enter Try.func35, Try.ntmps35
    go_wp2_with fail
    go_quiet (fail)
    go_wp2_with fail
    go_ret
    exact ⟨ret_int (by rw [H1.out]; simp), below_drewN _ _ _⟩
  · have H1 := Lib.hid (hH.out.trans (if_pos (.inr ⟨h2, h3⟩)))
    have d1 : decide ((t : Int) / 2 < (r : Int)) = false := decide_eq_false (by omega)
    have d2 : ((r : Int) == (t : Int) / 2) = true := by rw [beq_iff_eq]; omega
    have d2' : (r : Int) = (t : Int) / 2 := by omega
    have d3 : ((o : Int) == 1) = true := by rw [h3]; rfl
    have D2 := Lib.hid d2'
    clear hH h1 h2 h3 d2'
    go_enter Try.func35, Try.ntmps35
    go_wp2_with fail
    go_quiet (fail)
    go_wp2_with fail
    go_ret
    exact ⟨ret_int (by rw [H1.out]; simp), below_drewN _ _ _⟩
  · have H1 := Lib.hid (hH.out.trans (if_neg (by omega)))
    have d1 : decide ((t : Int) / 2 < (r : Int)) = false := decide_eq_false (by omega)
    have d2 : ((r : Int) == (t : Int) / 2) = true := by rw [beq_iff_eq]; omega
    have d3 : ((o : Int) == 1) = false := by rw [h3]; rfl
    clear hH h1 h2 h3
    go_enter Try.func35, Try.ntmps35
    go_wp2_with fail
    go_quiet (fail)
    go_wp2_with fail
    go_ret
    exact ⟨ret_int (by rw [H1.out]), below_drewN _ _ _⟩
  · have H1 := Lib.hid (hH.out.trans (if_neg (by omega)))
    have d1 : decide ((t : Int) / 2 < (r : Int)) = false := decide_eq_false (by omega)
    have d2 : ((r : Int) == (t : Int) / 2) = false := by rw [beq_eq_false_iff_ne]; omega
    clear hH h1 h2
    go_enter Try.func35, Try.ntmps35
    go_wp2_with fail
    go_quiet (fail)
    go_wp2_with fail
    go_ret
    exact ⟨ret_int (by rw [H1.out]), below_drewN _ _ _⟩
end Go.Proofs.Ytoamjihchmokcaa
