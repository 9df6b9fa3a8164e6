/- The contracts of label's value and Right. Condition: the slice reads. -/
import Derived.Test.YtmoeddpbmclckaaShapesM
import Derived.BigRegion
import Derived.BigQuiet
namespace Go.Proofs.Ytmoeddpbmclckaa
open Go.ChangeShapes Go.WideShapes Go.ChangeAt Go.RowKit Go.Deep

theorem value_any (s : ByteArray) (w : World) : Calls Try.prog 60 #[.string s] w fun e w' => e = .returned (.bool (okVal s)) ∧ w' = w := by
  have HN : Hid (∀ w1, Calls Try.prog 21 #[.string s] w1 fun e w' => e = .returned (.bool (nameOf s.data.toList)) ∧ w1 = w') := fun w1 => name_any s w1
  cases h : s.toList.isEmpty
  · go_enter Try.func60, Try.ntmps60
    go_wp2_with fail
    refine (HN.out _).mono ?_
    rintro e w1 ⟨rfl, rfl⟩
    go_wp2_with fail
    go_ret
    exact ⟨ret_bool (by unfold okVal; rw [h, Bool.false_or]), rfl⟩
  · go_enter Try.func60, Try.ntmps60
    go_wp2_with fail
    go_ret
    exact ⟨ret_bool (by unfold okVal; rw [h, Bool.true_or]), rfl⟩

theorem below_dr {B : Nat} {w0 w : World} (h : Below B w0 w) (n : Nat) : Below B w0 (w.drewN n) := ⟨h.os, h.tape, h.output, h.size, h.block⟩

set_option maxHeartbeats 3200000 in
theorem right_any (xs : List Label) (ao : Option Addr) (la ca : Nat) (w : World) (hS : SlR (Flat Label.cells) 2 w ao la ca xs) :
    Calls Try.prog 50 #[.slice ao la ca] w fun e w' => e = .returned (.bool (labelsOk xs)) ∧ Below w.heap.size w w' := by
  have ha := hS.hmax; have hac := hS.hcap
  unfold maxLen at ha
  go_enter Try.func50, Try.ntmps50
  go_wp2_with fail
  go_loopw [7] (fun i wr => ∃ k : Nat, k ≤ la ∧ i = .int .i64 k ∧ Hid (Good xs k) ∧ Below w.heap.size w wr) (fun i _ => la - (intOf i).toNat)
  case atStart => exact ⟨0, Nat.zero_le _, rfl, Good.zero xs, Below.refl _ _⟩
  case round =>
    obtain ⟨k, hk, rfl, hg, hb⟩ := hrel
    obtain ⟨wq, rfl⟩ : ∃ wq : World, wq = wr := ⟨_, rfl⟩
    by_cases hlt : k < la
    · obtain ⟨b, off, rfl⟩ := hS.ptr (by decide) (by omega)
      have kx : k < xs.length := by have := hS.hlen; omega
      have hSr := hS.flatKeeps (Keeps.below hb)
      have hc := hSr.flat kx
      have c0 := hc 0 _ rfl
      have c1 := hc 1 _ rfl
      rw [Nat.add_zero] at c0
      have hbl := blk c0
      have hsz := hb.size
      have Hb := Lib.hid hb
      have h1 : Hid (okLabel xs[k] = false → labelsOk xs = false) := fun h => labels_no1 kx h
      have h2 : Hid (∀ m, (e : k = m + 1) → keyLt (xs[m]'(by omega)) xs[k] = false → labelsOk xs = false) := fun m e h => labels_no2 (by omega) kx h
      have h3 : Hid (okLabel xs[k] = true → (∀ m, (e : k = m + 1) → keyLt (xs[m]'(by omega)) xs[k] = true) → Good xs (k + 1)) := fun h h' => hg.out.next kx h (fun h0 => by obtain ⟨m, rfl⟩ : ∃ m, k = m + 1 := ⟨k - 1, by omega⟩; exact h' m rfl)
      obtain ⟨x, hx⟩ : ∃ x, xs[k] = x := ⟨_, rfl⟩
      rw [hx] at c0 c1 h1 h2 h3
      obtain ⟨key, val⟩ := x
      dsimp only at c0 c1
      have HN : Hid (∀ w1, Calls Try.prog 21 #[.string key] w1 fun e w' => e = .returned (.bool (nameOf key.data.toList)) ∧ w' = w1) := fun w1 => (name_any key w1).mono fun e w' h => ⟨h.1, h.2.symm⟩
      have HV : Hid (∀ w1, Calls Try.prog 60 #[.string val] w1 fun e w' => e = .returned (.bool (okVal val)) ∧ w' = w1) := fun w1 => value_any val w1
      clear hc hx hb hg
      cases hn : nameOf key.data.toList
      · rw [hn] at HN
        have hbad : Hid (labelsOk xs = false) := h1.out (by unfold okLabel; rw [hn]; rfl)
        clear hn h1 h2 h3
        go_wp2
        go_quiet (exact (HN.out _).mono fun e w' h => ⟨h.1, _, h.2⟩)
        go_wp2
        go_ret
        exact ⟨ret_bool hbad.out.symm, below_dr (Hb.out.alloc hsz _) _⟩
      · rw [hn] at HN
        cases hv : okVal val
        · rw [hv] at HV
          have hbad : Hid (labelsOk xs = false) := h1.out (by unfold okLabel; rw [hv]; exact Bool.and_false _)
          clear hn h1 h2 h3 hv
          go_wp2
          go_quiet (first | exact (HN.out _).mono fun e w' h => ⟨h.1, _, h.2⟩ | exact (HV.out _).mono fun e w' h => ⟨h.1, _, h.2⟩)
          go_wp2
          go_ret
          exact ⟨ret_bool hbad.out.symm, below_dr (Hb.out.alloc hsz _) _⟩
        · rw [hv] at HV
          have H3 := Lib.hid (h3.out (by unfold okLabel; rw [hv, hn]; rfl))
          clear h3 h1 hn hv
          rcases Nat.eq_zero_or_pos k with hk0 | hk0
          · have hG := Lib.hid (H3.out (fun m e => by omega))
            have hd1 : decide (0 < k) = false := by rw [hk0]; rfl
            clear h2 H3 hk0
            go_wp2
            go_quiet (first | exact (HN.out _).mono fun e w' h => ⟨h.1, _, h.2⟩ | exact (HV.out _).mono fun e w' h => ⟨h.1, _, h.2⟩)
            go_wp2
            go_roundw
            case rel => exact ⟨k + 1, by omega, by go_num, hG.out, below_dr (Hb.out.alloc hsz _) _⟩
            case measure => simp [intOf]; omega
          · have ky : k - 1 < xs.length := by omega
            have hd := hSr.flat ky
            have d1 := hd 0 _ rfl
            rw [Nat.add_zero] at d1
            obtain ⟨y, hy⟩ : ∃ y, xs[k - 1] = y := ⟨_, rfl⟩
            have h2' : Hid (keyLt y ⟨key, val⟩ = false → labelsOk xs = false) := by
              rw [← hy]
              exact fun h => h2.out (k - 1) (by omega) h
            have h3' : Hid (keyLt y ⟨key, val⟩ = true → Good xs (k + 1)) := by
              rw [← hy]
              intro h
              refine H3.out (fun m e => ?_)
              obtain rfl : m = k - 1 := by omega
              exact h
            rw [hy] at d1
            clear hd hy h2 H3
            have hbd := blk d1
            have hd1 : decide (0 < k) = true := decide_eq_true hk0
            have hd2 : (1 : Int) ≤ (k : Int) := by omega
            have hd3 : (k : Int) - 1 < (la : Int) := by omega
            have hd4 : ((k : Int) - 1).toNat = k - 1 := by omega
            have hd5 : IntKind.i64.wrap ((k : Int) - 1) = (k : Int) - 1 := IntWalk.i64_in _ (by omega)
            cases ht : Op.bytesLess y.key.toList key.toList
            · have hbad := Lib.hid (h2'.out ht)
              clear h2' h3'
              go_wp2
              go_quiet (first | exact (HN.out _).mono fun e w' h => ⟨h.1, _, h.2⟩ | exact (HV.out _).mono fun e w' h => ⟨h.1, _, h.2⟩)
              go_wp2
              go_ret
              exact ⟨ret_bool hbad.out.symm, below_dr (Hb.out.alloc hsz _) _⟩
            · have hG := Lib.hid (h3'.out ht)
              clear h2' h3'
              go_wp2
              go_quiet (first | exact (HN.out _).mono fun e w' h => ⟨h.1, _, h.2⟩ | exact (HV.out _).mono fun e w' h => ⟨h.1, _, h.2⟩)
              go_wp2
              go_roundw
              case rel => exact ⟨k + 1, by omega, by go_num, hG.out, below_dr (Hb.out.alloc hsz _) _⟩
              case measure => simp [intOf]; omega
    · have Hb := Lib.hid hb
      have He := Lib.hid (hg.out.done (by rw [hS.hlen]; omega))
      have Hl : Hid (xs.length = la) := hS.hlen
      clear hb hg
      go_wp2
      all_goals
        go_ret
        exact ⟨ret_bool (by rw [He.out, Hl.out]; simp; omega), Hb.out⟩
end Go.Proofs.Ytmoeddpbmclckaa
