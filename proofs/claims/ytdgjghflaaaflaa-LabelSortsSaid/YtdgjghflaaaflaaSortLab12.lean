/- Contracts of label.Match, of the chapter's example, and of the reference's Same at alike labels. Condition: the slices read. -/
import Derived.Test.YtdgjghflaaaflaaSortLab11
namespace Go.Proofs.Ytdgjghflaaaflaa
open Go.ChangeShapes Go.WideShapes Go.ChangeAt Go.RowKit Go.Deep

set_option maxHeartbeats 1000000 in
theorem match_any (l : List Label) (rs : List Require) (ao bo : Option Addr) (la ca lb cb : Nat) (w : World) (hS : SlR (Flat Label.cells) 2 w ao la ca l) (hR : SlR (Flat Require.cells) 3 w bo lb cb rs) :
    Calls Try.prog 101 #[.slice ao la ca, .slice bo lb cb] w fun e w' => e = .returned (.bool (rs.all (holdsL l))) ∧ Below w.heap.size w w' := by
  have ha := hR.hmax; have hac := hR.hcap
  unfold maxLen at ha
  go_enter Try.func101, Try.ntmps101
  go_wp2_with fail
  go_loopw [9] (fun i wr => ∃ k : Nat, k ≤ lb ∧ i = .int .i64 k ∧ Hid (rs.all (holdsL l) = (rs.drop k).all (holdsL l)) ∧ Below w.heap.size w wr) (fun i _ => lb - (intOf i).toNat)
  case atStart => exact ⟨0, Nat.zero_le _, rfl, rfl, Below.refl _ _⟩
  case round =>
    obtain ⟨k, hk, rfl, hf, hb⟩ := hrel
    by_cases hlt : k < lb
    · obtain ⟨b, off, rfl⟩ := hR.ptr (by decide) (by omega)
      have kx : k < rs.length := by have := hR.hlen; omega
      have hc := (hR.flatKeeps (Keeps.below hb)).flat kx
      have c0 := hc 0 _ rfl
      have c1 := hc 1 _ rfl
      have c2 := hc 2 _ rfl
      rw [Nat.add_zero] at c0
      have hbA := hb.alloc hb.size (.cells #[.string rs[k].key, .string rs[k].val, .int .i64 rs[k].op] 57)
      have hS1 := hS.flatKeeps (Keeps.below hbA)
      have hsz := hbA.size
      have Hb := Lib.hid hbA
      clear hc hb hbA
      obtain ⟨q, hq⟩ : ∃ q, holdsL l rs[k] = q := ⟨_, rfl⟩
      have Hq := Lib.hid hq
      clear hq
      cases q
      · go_wp2_with fail
        refine (holds_any l rs[k] _ _ _ _ hS1).mono ?_
        rintro e w2 ⟨he, hb2⟩
        rw [Hq.out] at he
        subst he
        have Hb2 := Lib.hid (Hb.out.trans (hb2.mono hsz))
        clear hb2
        go_wp2
        go_ret
        exact ⟨ret_bool (all_no kx Hq.out hf.out).symm, Hb2.out⟩
      · go_wp2_with fail
        refine (holds_any l rs[k] _ _ _ _ hS1).mono ?_
        rintro e w2 ⟨he, hb2⟩
        rw [Hq.out] at he
        subst he
        have Hb2 := Lib.hid (Hb.out.trans (hb2.mono hsz))
        clear hb2
        go_wp2
        go_roundw
        case rel => exact ⟨k + 1, by omega, by go_num, all_yes kx Hq.out hf.out, Hb2.out⟩
        case measure => simp [intOf]; omega
    · have He := Lib.hid (all_end (holdsL l) (xs := rs) (k := k) (by rw [hR.hlen]; omega))
      have Hb := Lib.hid hb
      clear hb
      go_wp2
      go_ret
      exact ⟨ret_bool (by rw [hf.out, He.out]), Hb.out⟩

theorem name_dash (w : World) : Calls Try.prog 70 #[.string ⟨#[45]⟩] w fun e w' => e = .returned (.bool false) ∧ w' = w := by
  go_enter Try.func70, Try.ntmps70
  go_wp2
  go_ret
  exact ⟨rfl, rfl⟩

def exL : List Label := [⟨⟨#[122, 111, 110, 101]⟩, ⟨#[97]⟩⟩]
def exR : List Require := [⟨⟨#[122, 111, 110, 101]⟩, ⟨#[97]⟩, 0⟩, ⟨⟨#[100, 105, 115, 107]⟩, ⟨#[]⟩, 3⟩]
theorem ex_ok : exR.all (holdsL exL) = true := by kernel_rfl

theorem lives05 (w : World) : Calls Try.prog 32 #[] w fun e w' => e = .returned (.bool true) ∧ Below w.heap.size w w' := by
  have hL0 := SlR.of_new (f := Label.cells) (sz := 2) w exL 54 #[.string ⟨#[122, 111, 110, 101]⟩, .string ⟨#[97]⟩] 1 rfl (by decide) (fun _ => rfl) rfl
  have b1 := (Below.refl w.heap.size w).alloc (Nat.le_refl _) (.cells #[.string ⟨#[122, 111, 110, 101]⟩, .string ⟨#[97]⟩] 54)
  have b2 := b1.alloc (by simp) (.cells #[.string ⟨#[122, 111, 110, 101]⟩, .string ⟨#[97]⟩, .int .i64 0, .string ⟨#[100, 105, 115, 107]⟩, .string ⟨#[]⟩, .int .i64 3] 57)
  have hL := hL0.flatKeeps (Keeps.below ((Below.refl _ _).alloc (Nat.le_refl _) (.cells #[.string ⟨#[122, 111, 110, 101]⟩, .string ⟨#[97]⟩, .int .i64 0, .string ⟨#[100, 105, 115, 107]⟩, .string ⟨#[]⟩, .int .i64 3] 57)))
  have hR := SlR.of_new (f := Require.cells) (sz := 3) (w.alloc (.cells #[.string ⟨#[122, 111, 110, 101]⟩, .string ⟨#[97]⟩] 54)) exR 57 #[.string ⟨#[122, 111, 110, 101]⟩, .string ⟨#[97]⟩, .int .i64 0, .string ⟨#[100, 105, 115, 107]⟩, .string ⟨#[]⟩, .int .i64 3] 2 rfl (by decide) (fun _ => rfl) rfl
  have e1 : (w.alloc (.cells #[.string ⟨#[122, 111, 110, 101]⟩, .string ⟨#[97]⟩] 54)).heap.size = w.heap.size + 1 := by simp
  rw [e1] at hR
  clear e1 hL0 b1
  go_enter Try.func32, Try.ntmps32
  go_wp2_with fail
  refine (match_any exL exR _ _ _ _ _ _ _ hL hR).mono ?_
  rintro e w2 ⟨he, hb⟩
  rw [ex_ok] at he
  subst he
  have Hb := Lib.hid (b2.trans (hb.mono (by simp; omega)))
  clear hb b2 hL hR
  go_wp2_with fail
  refine (name_dash _).mono ?_
  rintro e w3 ⟨rfl, rfl⟩
  go_wp2
  go_ret
  exact ⟨rfl, Hb.out⟩

set_option maxRecDepth 100000 in
set_option maxHeartbeats 1000000 in
theorem same_any (xs : List Label) (ao bo : Option Addr) (n ca cb : Nat) (w : World) (hA : SlR (Flat Label.cells) 2 w ao n ca xs) (hB : SlR (Flat Label.cells) 2 w bo n cb xs) :
    Calls Try.prog 33 #[.slice ao n ca, .slice bo n cb] w fun e w' => e = .returned (.bool true) ∧ Below w.heap.size w w' := by
  have ha := hA.hmax; have hac := hA.hcap
  have hb := hB.hmax; have hbc := hB.hcap
  unfold maxLen at ha hb
  go_enter Try.func33, Try.ntmps33
  go_wp2_with fail
  go_loopw [5, 13] (fun _ i wr => ∃ k : Nat, k ≤ n ∧ i = .int .i64 k ∧ Hid (Below w.heap.size w wr)) (fun _ i _ => n - (intOf i).toNat)
  case atStart => exact ⟨0, Nat.zero_le _, rfl, Below.refl _ _⟩
  case round =>
    obtain ⟨k, hk, rfl, hb⟩ := hrel
    by_cases hlt : k < n
    · obtain ⟨b, off, rfl⟩ := hA.ptr (by decide) (by omega)
      obtain ⟨b', off', rfl⟩ := hB.ptr (by decide) (by omega)
      have kx : k < xs.length := by have := hA.hlen; omega
      have hc := (hA.flatKeeps (Keeps.below hb.out)).flat kx
      have hd := (hB.flatKeeps (Keeps.below hb.out)).flat kx
      have c0 := hc 0 _ rfl
      have c1 := hc 1 _ rfl
      have d0 := hd 0 _ rfl
      have d1 := hd 1 _ rfl
      rw [Nat.add_zero] at c0 d0
      obtain ⟨⟨kk, vv⟩, hx⟩ : ∃ x, xs[k] = x := ⟨_, rfl⟩
      rw [hx] at c0 c1 d0 d1
      dsimp only at c0 c1 d0 d1
      have Hb := Lib.hid hb.out
      clear hc hd hb hx kx
      obtain ⟨wp, rfl⟩ : ∃ wp : World, wp = wr := ⟨_, rfl⟩
      go_upto_region 6 with fail
      go_quiet (fail)
      go_wp2_with fail
      go_roundw
      case rel => exact ⟨k + 1, by omega, by go_num, drewN_below Hb.out _⟩
      case measure => simp [intOf]; omega
    · have Hb := hb
      go_wp2_with fail
      go_ret
      exact ⟨rfl, Hb.out⟩
end Go.Proofs.Ytdgjghflaaaflaa
