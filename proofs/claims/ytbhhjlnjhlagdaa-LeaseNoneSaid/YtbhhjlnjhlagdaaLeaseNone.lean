/- LeaseNone holds: for every input the law returns true. No condition. -/
import Derived.Test.YtbhhjlnjhlagdaaLeaseNoneLift
import Derived.Test.YtbhhjlnjhlagdaaLeaseNil
namespace Go.Proofs.Ytbhhjlnjhlagdaa
open Go.ChangeShapes Go.WideShapes Go.ChangeAt Go.RowKit Go.Deep Go.Maps

/-- The name of the k-th lease. -/
def two (k : Nat) : ByteArray := strOfNums [97 + (k : Int) / 26, 97 + (k : Int) % 26]
def nmV (k : Nat) : ByteArray := ⟨#[108]⟩ ++ two k
def hB : ByteArray := ⟨#[104]⟩

theorem nmV_data (k : Nat) : (nmV k).data.toList = [108, UInt8.ofNat (97 + k / 26), UInt8.ofNat (97 + k % 26)] := by
  have e1 : (97 + (k : Int) / 26).toNat = 97 + k / 26 := by omega
  have e2 : (97 + (k : Int) % 26).toNat = 97 + k % 26 := by omega
  have e : (nmV k).data.toList = (⟨#[108]⟩ : ByteArray).data.toList ++ (two k).data.toList := by rw [nmV, ByteArray.data_append]; simp
  rw [e, two, strOfNums_data]
  simp only [List.map_cons, List.map_nil, e1, e2]
  rfl

theorem toNat_small {n : Nat} (h : n < 256) : (UInt8.ofNat n).toNat = n := by
  rw [UInt8.toNat_ofNat']
  exact Nat.mod_eq_of_lt h

theorem nmV_inj {j k : Nat} (hj : j < 512) (hk : k < 512) (h : (nmV j).data.toList = (nmV k).data.toList) : j = k := by
  rw [nmV_data, nmV_data] at h
  simp only [List.cons.injEq, and_true, true_and] at h
  have h1 := congrArg UInt8.toNat h.1
  have h2 := congrArg UInt8.toNat h.2
  rw [toNat_small (by omega), toNat_small (by omega)] at h1
  rw [toNat_small (by omega), toNat_small (by omega)] at h2
  omega

theorem sign_low {n : Nat} (h1 : 97 ≤ n) (h2 : n ≤ 122) : signL (UInt8.ofNat n) = true := by
  unfold signL signOf
  rw [toNat_small (by omega)]
  simp
  omega

theorem nmV_name {k : Nat} (hk : k < 512) : nameOf (nmV k).data.toList = true := by
  rw [nmV_data]
  have s1 := sign_low (n := 97 + k / 26) (by omega) (by omega)
  have s2 := sign_low (n := 97 + k % 26) (by omega) (by omega)
  have s0 : signL 108 = true := by decide
  have e : UInt8.ofNat (97 + k % 26) ≠ 45 := by
    intro e
    have := congrArg UInt8.toNat e
    rw [toNat_small (by omega)] at this
    have h45 : (45 : UInt8).toNat = 45 := rfl
    omega
  have e' : ¬ (some (UInt8.ofNat (97 + k % 26)) == some (45 : UInt8)) = true := by simpa only [Option.some_beq_some, beq_iff_eq] using e
  have e3 : (([108, UInt8.ofNat (97 + k / 26), UInt8.ofNat (97 + k % 26)] : List UInt8).all signL) = true := by rw [List.all_cons, List.all_cons, List.all_cons, s0, s1, s2]; rfl
  have e4 : (([108, UInt8.ofNat (97 + k / 26), UInt8.ofNat (97 + k % 26)] : List UInt8).getLast? == some 45) = false := by
    have : (([108, UInt8.ofNat (97 + k / 26), UInt8.ofNat (97 + k % 26)] : List UInt8).getLast?) = some (UInt8.ofNat (97 + k % 26)) := rfl
    rw [this]
    exact Bool.eq_false_iff.2 e'
  unfold nameOf
  rw [e3, e4]
  rfl

/-- The board of the first k leases. -/
def bdK : Nat → Bd
  | 0 => ex0
  | k + 1 => (bdK k).put ⟨nmV k, hB, 2, 1⟩

theorem bdK_is : ∀ k : Nat, k ≤ 512 → (bdK k).n = k ∧ (∀ s, (bdK k).f s = none ∨ ∃ j, j < k ∧ s = (nmV j).data.toList) ∧ ∀ j, j < k → (bdK k).f (nmV j).data.toList = some ⟨nmV j, hB, 2, 1⟩
  | 0, _ => ⟨rfl, fun s => .inl rfl, fun j h => by omega⟩
  | k + 1, hk => by
    obtain ⟨h1, h2, h3⟩ := bdK_is k (by omega)
    have hn : (bdK k).f (nmV k).data.toList = none := by
      rcases h2 (nmV k).data.toList with h | ⟨j, hj, e⟩
      · exact h
      · have := nmV_inj (by omega) (by omega) e; omega
    refine ⟨?_, fun s => ?_, fun j hj => ?_⟩
    · show (if ((bdK k).f (nmV k).data.toList).isSome then (bdK k).n else (bdK k).n + 1) = k + 1
      rw [hn, h1]; rfl
    · show sset (bdK k).f (nmV k).data.toList _ s = none ∨ _
      by_cases e : s = (nmV k).data.toList
      · exact .inr ⟨k, by omega, e⟩
      · rw [sset_other _ _ e]
        rcases h2 s with h | ⟨j, hj, e⟩
        · exact .inl h
        · exact .inr ⟨j, by omega, e⟩
    · show sset (bdK k).f (nmV k).data.toList _ _ = _
      by_cases e : j = k
      · subst e; exact sset_same _ _ _
      · rw [sset_other _ _ (fun h => e (nmV_inj (by omega) (by omega) h))]
        exact h3 j (by omega)

theorem hB_name : nameOf hB.data.toList = true := by decide
theorem right_k {k : Nat} (hk : k < 512) : rightOf (nmV k) hB 1 1 = 0 := by
  unfold rightOf
  rw [if_pos ⟨nmV_name hk, hB_name⟩]
  rfl
theorem take_k {k : Nat} (hk : k < 512) : takeOf (bdK k) (nmV k) hB 1 1 = (⟨nmV k, hB, 2, 1⟩, 0, bdK (k + 1)) := by
  obtain ⟨h1, h2, _⟩ := bdK_is k (by omega)
  have hn : (bdK k).f (nmV k).data.toList = none := by
    rcases h2 (nmV k).data.toList with h | ⟨j, hj, e⟩
    · exact h
    · have := nmV_inj (by omega) (by omega) e; omega
  unfold takeOf
  rw [if_pos (right_k hk), hn]
  dsimp only
  rw [if_neg (by rw [h1]; omega)]
  rfl
def more : ByteArray := ⟨#[109, 111, 114, 101]⟩
theorem take_more : takeOf (bdK 512) more hB 9 1 = (.zero, 10, bdK 512) := by
  obtain ⟨h1, h2, _⟩ := bdK_is 512 (by omega)
  have hn : (bdK 512).f more.data.toList = none := by
    rcases h2 more.data.toList with h | ⟨j, hj, e⟩
    · exact h
    · rw [nmV_data] at e; cases e
  have hr : rightOf more hB 9 1 = 0 := by kernel_rfl
  unfold takeOf
  rw [if_pos hr, hn]
  dsimp only
  rw [if_pos (by rw [h1]; omega)]
def laa : ByteArray := ⟨#[108, 97, 97]⟩
theorem take_laa : ∃ l b, takeOf (bdK 512) laa hB 9 1 = (l, 0, b) := by
  obtain ⟨h1, _, h3⟩ := bdK_is 512 (by omega)
  have e : laa = nmV 0 := bytes_inj (by rw [nmV_data]; rfl)
  have hf := h3 0 (by omega)
  rw [← e] at hf
  have hr : rightOf laa hB 9 1 = 0 := by kernel_rfl
  unfold takeOf
  rw [if_pos hr, hf]
  dsimp only
  rw [if_pos rfl]
  exact ⟨_, _, rfl⟩

set_option maxRecDepth 100000 in
set_option maxHeartbeats 4000000 in
theorem leaseNone_core (name holder : ByteArray) (now : Int) (w : World) :
    Calls Try.prog 14 #[.string name, .string holder, .int .i64 now] w fun e w' => e = .returned (.bool true) ∧ Below w.heap.size w w' := by
  have HTN : Hid (∀ w1 : World, _) := fun w1 => take_nil name holder now 1 w1
  have HRN : Hid (∀ w1 : World, _) := fun w1 => renew_nil name holder now 1 w1
  have HGN : Hid (∀ w1 : World, Calls Try.prog 46 #[.pointer none, .string name] w1 fun e w' => e = .returned (.tuple #[.agg #[.string ⟨#[]⟩, .string ⟨#[]⟩, .int .i64 0, .int .i64 0], .bool false]) ∧ Below w1.heap.size w1 w') := fun w1 => get_nil name w1
  go_enter Try.func14, Try.ntmps14
  go_wp2_with fail
  refine (lives36 w).mono ?_
  rintro e w1 ⟨rfl, hb1⟩
  have H1 := Lib.hid hb1
  clear hb1
  go_wp2_with fail
  refine (HTN.out _).mono ?_
  rintro e w2 ⟨rfl, hb2⟩
  have H2 := Lib.hid ((H1.out.trans (hb2.mono H1.out.size)).alloc (by have := hb2.size; have := H1.out.size; omega) (.cells #[.string ⟨#[]⟩, .string ⟨#[]⟩, .int .i64 0, .int .i64 0] 81))
  clear hb2
  go_wp2_with fail
  refine (HRN.out _).mono ?_
  rintro e w3 ⟨rfl, hb3⟩
  have H3 := Lib.hid ((H2.out.trans (hb3.mono H2.out.size)).alloc (by have := hb3.size; have := H2.out.size; omega) (.cells #[.string ⟨#[]⟩, .string ⟨#[]⟩, .int .i64 0, .int .i64 0] 81))
  clear hb3
  go_wp2_with fail
  refine (HGN.out _).mono ?_
  rintro e w4 ⟨rfl, hb4⟩
  have H4 := Lib.hid ((H3.out.trans (hb4.mono H3.out.size)).alloc (by have := hb4.size; have := H3.out.size; omega) (.cells #[.string ⟨#[]⟩, .string ⟨#[]⟩, .int .i64 0, .int .i64 0] 81))
  clear hb4
  go_wp2_with fail
  refine (give_nil name holder now _).mono ?_
  rintro e w5 ⟨rfl, rfl⟩
  go_wp2_with fail
  refine (holds_nil name holder now _).mono ?_
  rintro e w6 ⟨rfl, hb6⟩
  have H6 := Lib.hid (H4.out.trans (hb6.mono H4.out.size))
  clear hb6
  go_wp2_with fail
  refine (ended_nil now _).mono ?_
  rintro e w7 ⟨rfl, hb7⟩
  have H7 := Lib.hid (H6.out.trans (hb7.mono H6.out.size))
  clear hb7
  go_wp2_with fail
  refine (copy_nil36 _).mono ?_
  rintro e w8 ⟨rfl, rfl⟩
  go_wp2_with fail
  refine (newBoard_any _).mono ?_
  rintro e w9 ⟨rfl, hw9⟩
  have HB0 : Hid (BoardAt w9 (w7.heap.size + 1) w7.heap.size ex0) := by rw [hw9]; exact BoardAt.made _
  have H9 : Hid (Below w7.heap.size w7 w9) := by rw [hw9]; exact ((Below.refl _ _).alloc (Nat.le_refl _) _).alloc (by simp) _
  clear hw9
  obtain ⟨m0, hm0⟩ : ∃ m, w7.heap.size = m := ⟨_, rfl⟩
  rw [hm0] at HB0 H9 ⊢
  have Hm0 := Lib.hid hm0
  clear hm0
  go_wp2_with fail
  go_loopw [83] (fun i wr => ∃ (k : Nat), k ≤ 512 ∧ i = .int .i64 k ∧ Hid (BoardAt wr (m0 + 1) m0 (bdK k) ∧ Below m0 w7 wr)) (fun i _ => 512 - (intOf i).toNat)
  case atStart => exact ⟨0, by omega, rfl, HB0.out, H9.out⟩
  case round =>
    obtain ⟨k, hk, rfl, hI⟩ := hrel
    by_cases hlt : k < 512
    · obtain ⟨wp, rfl⟩ : ∃ wp : World, wp = wr := ⟨_, rfl⟩
      have hconv := run_convert_bytes_arg (P := Try.prog) (wp.alloc (.cells #[.int .u8 (97 + (k : Int) / 26), .int .u8 (97 + (k : Int) % 26)] 5)) 95 5 Try.underlying95 Try.underlying5 wp.heap.size 0 2 2 [97 + (k : Int) / 26, 97 + (k : Int) % 26] rfl (fun i hi => by rw [cell_of_row _ wp.heap.size (0 + i) _ _ _ (heap_alloc_new wp _)]; rcases (show i = 0 ∨ i = 1 by omega) with rfl | rfl <;> rfl) 9 Try.underlying9
      have hT := take_val (w := wp.alloc (.cells #[.int .u8 (97 + (k : Int) / 26), .int .u8 (97 + (k : Int) % 26)] 5)) (hI.out.1.fr ((Fr.refl (fun _ => False) wp).alloc _) id id) (show (nmV k).size ≤ maxLen by rw [size_data, nmV_data]; simp [maxLen]) (by rw [(bdK_is k hk).1]; exact hk) (take_k hlt)
      rw [show nmV k = ⟨#[108]⟩ ++ two k from rfl] at hT
      have e2 : strOfNums [97 + (k : Int) / 26, 97 + (k : Int) % 26] = two k := rfl
      rw [e2] at hconv
      clear e2
      obtain ⟨s2, hs2⟩ : ∃ s, two k = s := ⟨_, rfl⟩
      rw [hs2] at hconv hT
      have HT := Lib.hid hT
      have hz2 : s2.size ≤ 2 := by rw [← hs2, two, strOfNums_size]; simp
      clear hT hs2
      go_wp2_with fail
      refine HT.out.mono ?_
      rintro e wa ⟨rfl, hBa, hFa⟩
      have hza := hFa.size
      simp only [World.size_alloc] at hza
      have HI2 : Hid (BoardAt (wa.alloc (.cells #[.string (⟨#[108]⟩ ++ s2), .string ⟨#[104]⟩, .int .i64 2, .int .i64 1] 81)) (m0 + 1) m0 (bdK (k + 1)) ∧ Below m0 w7 (wa.alloc (.cells #[.string (⟨#[108]⟩ ++ s2), .string ⟨#[104]⟩, .int .i64 2, .int .i64 1] 81))) := by
        have hs := hI.out.2.size
        rw [Hm0.out] at hs
        exact ⟨hBa.fr ((Fr.refl (fun _ => False) wa).alloc _) id id, ((hI.out.2.alloc hs _).trans (hFa.below (B := m0) (by simp; omega) (fun j hj => by have : j = m0 := hj; omega))).alloc (by omega) _⟩
      clear hBa hFa hconv HT
      go_wp2_with fail
      go_roundw
      case rel => exact ⟨k + 1, by omega, by go_num, HI2.out⟩
      case measure => simp [intOf]; omega
    · obtain rfl : k = 512 := by omega
      obtain ⟨l, b3, ht3⟩ := take_laa
      have hT2 := take_val (w := wr) hI.out.1 (show more.size ≤ maxLen by decide) (by rw [(bdK_is 512 (by omega)).1]; omega) take_more
      have HT2 := Lib.hid hT2
      obtain ⟨l0, l1, l2, l3⟩ := l
      have HT3 : Hid (∀ wx, BoardAt wx (m0 + 1) m0 (bdK 512) → _) := fun wx hx => take_val (w := wx) hx (show laa.size ≤ maxLen by decide) (by rw [(bdK_is 512 (by omega)).1]; omega) ht3
      clear hT2 ht3
      go_wp2_with fail
      refine HT2.out.mono ?_
      rintro e wa ⟨rfl, hBa, hFa⟩
      have HBa := Lib.hid hBa
      have HFa := Lib.hid hFa
      clear hBa hFa
      go_wp2_with fail
      refine (HT3.out _ (HBa.out.fr ((Fr.refl (fun _ => False) wa).alloc _) id id)).mono ?_
      rintro e wb ⟨rfl, hBb, hFb⟩
      have HFb := Lib.hid hFb
      clear hBb hFb
      go_wp2_with fail
      go_ret
      have hs := hI.out.2.size
      rw [Hm0.out] at hs
      have hs7 := H7.out.size
      have za := HFa.out.size
      have zb := HFb.out.size
      simp only [World.size_alloc] at zb
      have b1 : Below m0 w7 wa := hI.out.2.trans (HFa.out.below hs (fun j hj => by have : j = m0 := hj; omega))
      have b2 : Below m0 w7 wb := (b1.alloc (by omega) _).trans (HFb.out.below (by simp; omega) (fun j hj => by have : j = m0 := hj; omega))
      exact ⟨rfl, H7.out.trans ((b2.alloc (by omega) _).mono (by rw [← Hm0.out]; exact hs7))⟩

theorem LeaseNone_holds : Rows.LeaseNoneSaid := lLeaseNone.over fun s0 s1 n2 w _ _ _ => leaseNone_core s0 s1 n2 w
end Go.Proofs.Ytbhhjlnjhlagdaa
