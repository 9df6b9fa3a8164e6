/- The contract of the law's right. Condition: the slice reads. -/
import Derived.Test.YtbhhjlnjhlagdaaRate2
namespace Go.Proofs.Ytbhhjlnjhlagdaa
open Go.ChangeShapes Go.WideShapes Go.ChangeAt Go.RowKit Go.Deep

set_option maxRecDepth 100000 in
set_option maxHeartbeats 2000000 in
theorem lright_any (l : List Smp) (ao : Option Addr) (n cap : Nat) (w : World) (hS : SlR (Flat Smp.cells) 2 w ao n cap l) :
    Calls Try.prog 29 #[.slice ao n cap] w fun e w' => e = .returned (.bool (rightOf l)) ∧ Below w.heap.size w w' := by
  have hcm := hS.hmax
  have hlc := hS.hcap
  unfold maxLen at hcm
  have Hm := Lib.hid hS.hlen
  go_enter Try.func29, Try.ntmps29
  go_wp2_with fail
  go_loopw [7] (fun i wr => ∃ k : Nat, k ≤ n ∧ i = .int .i64 k ∧ Hid (∀ j, j < k → goodAt l j = true) ∧ Below w.heap.size w wr) (fun i _ => n - (intOf i).toNat)
  case atStart => exact ⟨0, Nat.zero_le _, rfl, fun j h => absurd h (Nat.not_lt_zero _), Below.refl _ _⟩
  case round =>
    obtain ⟨k, hk, rfl, hI, hb⟩ := hrel
    by_cases hlt : k < n
    · obtain ⟨b, off, rfl⟩ := hS.ptr (by decide) (by omega)
      have kx : k < l.length := by rw [Hm.out]; exact hlt
      have hSr := hS.flatKeeps (Keeps.below hb)
      have hc := hSr.flat kx
      have c1 := hc 0 _ rfl
      have c2 := hc 1 _ rfl
      rw [Nat.add_zero] at c1
      have hg : Hid (goodAt l k = (okQ l[k].v && (decide (k = 0) || decide ((l[k-1]!).at_ < l[k].at_)))) := by
        show _ = _
        unfold goodAt
        rw [getElem!_pos l k kx]
      obtain ⟨x, hx⟩ : ∃ x, l[k] = x := ⟨_, rfl⟩
      rw [hx] at c1 c2 hg
      obtain ⟨a, q⟩ := x
      dsimp only at c1 c2 hg
      have hbl := blk c1
      have Hb := Lib.hid hb
      have hsz := hb.size
      obtain ⟨wq, rfl⟩ : ∃ wq : World, wq = wr := ⟨_, rfl⟩
      rcases (show q < 0 ∨ (0 ≤ q ∧ 9007199254740992 < q) ∨ (0 ≤ q ∧ q ≤ 9007199254740992) by omega) with i1 | ⟨i1, i2⟩ | ⟨i1, i2⟩
      · have hq : okQ q = false := by unfold okQ; exact decide_eq_false (by omega)
        have hbad : Hid (goodAt l k = false) := by show _ = _; rw [hg.out, hq]; rfl
        have e1 : decide (q < 0) = true := decide_eq_true i1
        clear hc hx hb hq i1
        go_wp2
        go_quiet (fail)
        go_wp2
        go_ret
        exact ⟨ret_bool (right_bad kx hbad.out).symm, below_dn (Hb.out.alloc hsz _) _⟩
      · have hq : okQ q = false := by unfold okQ; exact decide_eq_false (by omega)
        have hbad : Hid (goodAt l k = false) := by show _ = _; rw [hg.out, hq]; rfl
        have e1 : decide (q < 0) = false := decide_eq_false (by omega)
        have e2 : decide (9007199254740992 < q) = true := decide_eq_true i2
        clear hc hx hb hq i1 i2
        go_wp2
        go_quiet (fail)
        go_wp2
        go_ret
        exact ⟨ret_bool (right_bad kx hbad.out).symm, below_dn (Hb.out.alloc hsz _) _⟩
      · have hq : okQ q = true := by unfold okQ; exact decide_eq_true (by omega)
        have e1 : decide (q < 0) = false := decide_eq_false (by omega)
        have e2 : decide (9007199254740992 < q) = false := decide_eq_false (by omega)
        rw [hq] at hg
        clear i1 i2
        clear hx
        by_cases hk0 : 0 < k
        · have ky : k - 1 < l.length := by omega
          have hd := hSr.flat ky
          have d1 := hd 0 _ rfl
          rw [Nat.add_zero] at d1
          rw [getElem!_pos l (k - 1) ky] at hg
          obtain ⟨y, hy⟩ : ∃ y, l[k - 1].at_ = y := ⟨_, rfl⟩
          rw [hy] at d1 hg
          have hbd := blk d1
          have hd1 : decide (0 < k) = true := decide_eq_true hk0
          have hd2 : (1 : Int) ≤ (k : Int) := by omega
          have hd3 : (k : Int) - 1 < (n : Int) := by omega
          have hd4 : ((k : Int) - 1).toNat = k - 1 := by omega
          have hd5 : IntKind.i64.wrap ((k : Int) - 1) = (k : Int) - 1 := IntWalk.i64_in _ (by omega)
          by_cases hya : a ≤ y
          · have hbad : Hid (goodAt l k = false) := by show _ = _; rw [hg.out]; simp; omega
            have ht : decide (a ≤ y) = true := decide_eq_true hya
            clear hc hd hy hq hg
            go_wp2
            go_quiet (fail)
            go_wp2
            go_ret
            exact ⟨ret_bool (right_bad kx hbad.out).symm, below_dn (Hb.out.alloc hsz _) _⟩
          · have hgd : Hid (goodAt l k = true) := by show _ = _; rw [hg.out]; simp; omega
            have ht : decide (a ≤ y) = false := decide_eq_false hya
            clear hc hd hy hq hg
            go_wp2
            go_quiet (fail)
            go_wp2
            go_roundw
            case rel => exact ⟨k + 1, by omega, by go_num, upto_step hI.out hgd.out, below_dn (Hb.out.alloc hsz _) _⟩
            case measure => simp [intOf]; omega
        · have hkz : k = 0 := by omega
          have hgd : Hid (goodAt l k = true) := by show _ = _; rw [hg.out, hkz]; simp
          have hd1 : decide (0 < k) = false := decide_eq_false hk0
          clear hc hq hg hkz
          go_wp2
          go_quiet (fail)
          go_wp2
          go_roundw
          case rel => exact ⟨k + 1, by omega, by go_num, upto_step hI.out hgd.out, below_dn (Hb.out.alloc hsz _) _⟩
          case measure => simp [intOf]; omega
    · have Hb := Lib.hid hb
      clear hb
      have hkn : l.length ≤ k := by rw [Hm.out]; omega
      go_wp2
      go_ret
      exact ⟨ret_bool (right_all hkn hI.out).symm, Hb.out⟩
end Go.Proofs.Ytbhhjlnjhlagdaa
