/- RateParts holds: for every input the law returns true. No condition. -/
import Derived.Test.YtbhhjlnjhlagdaaRatePartsLift
import Derived.Test.YtbhhjlnjhlagdaaRateCut
namespace Go.Proofs.Ytbhhjlnjhlagdaa
open Go.ChangeShapes Go.WideShapes Go.ChangeAt Go.RowKit Go.Deep

set_option maxRecDepth 100000 in
set_option maxHeartbeats 2000000 in
theorem rateParts_core (l : List Smp) (ao : Option Addr) (n cap : Nat) (at_ : Int) (w : World) (hS : SlR (Flat Smp.cells) 2 w ao n cap l) :
    Calls Try.prog 7 #[.slice ao n cap, .int .i64 at_] w fun e w' => e = .returned (.bool true) ∧ Below w.heap.size w w' := by
  have hcm := hS.hmax
  have hlc := hS.hcap
  unfold maxLen at hcm
  have hlen := hS.hlen
  by_cases hn : 60 < n ∨ n < 3
  · rcases (show 60 < n ∨ (n ≤ 60 ∧ n < 3) by omega) with g1 | ⟨g1, g2⟩
    all_goals
      clear hn hS hlen
      go_enter Try.func7, Try.ntmps7
      go_wp2_with fail
      refine (lives12 _).mono ?_
      rintro e w1 ⟨rfl, hb1⟩
      have H1 := Lib.hid hb1
      clear hb1
      go_wp2_with fail
      refine (lives12 _).mono ?_
      rintro e w2 ⟨rfl, hb2⟩
      have H2 := Lib.hid (H1.out.trans (hb2.mono H1.out.size))
      clear hb2
      go_wp2_with fail
      go_ret
      exact ⟨rfl, H2.out⟩
  · have g1 : n ≤ 60 := by omega
    have g2 : 3 ≤ n := by omega
    clear hn
    cases hr : rightOf l
    · go_enter Try.func7, Try.ntmps7
      go_wp2_with fail
      refine (lives12 _).mono ?_
      rintro e w1 ⟨rfl, hb1⟩
      have H1 := Lib.hid hb1
      have HR := lright_any l ao n cap w1 (hS.flatKeeps (Keeps.below hb1))
      rw [hr] at HR
      have HR := Lib.hid HR
      clear hb1
      go_wp2_with fail
      refine HR.out.mono ?_
      rintro e w3 ⟨rfl, hb3⟩
      have H3 := Lib.hid (H1.out.trans (hb3.mono H1.out.size))
      clear hb3
      go_wp2_with fail
      refine (lives12 _).mono ?_
      rintro e w2 ⟨rfl, hb2⟩
      have H2 := Lib.hid (H3.out.trans (hb2.mono H3.out.size))
      clear hb2
      go_wp2_with fail
      go_ret
      exact ⟨rfl, H2.out⟩
    · go_enter Try.func7, Try.ntmps7
      go_wp2_with fail
      refine (lives12 _).mono ?_
      rintro e w1 ⟨rfl, hb1⟩
      have H1 := Lib.hid hb1
      have HR := lright_any l ao n cap w1 (hS.flatKeeps (Keeps.below hb1))
      rw [hr] at HR
      have HR := Lib.hid HR
      clear hb1
      have e2 : IntKind.i64.wrap ((n : Int) - 2) = (n : Int) - 2 := IntWalk.i64_in _ (by omega)
      go_wp2_with fail
      refine HR.out.mono ?_
      rintro e w3 ⟨rfl, hb3⟩
      have H3 := Lib.hid (H1.out.trans (hb3.mono H1.out.size))
      clear hb3
      obtain ⟨q, hq, hq2⟩ : ∃ q : Nat, (IntKind.u64.wrap at_).tmod ((n : Int) - 2) = (q : Int) ∧ q + 2 < n := by
        have h0 : 0 ≤ IntKind.u64.wrap at_ := by simp [IntKind.wrap, IntKind.signed]; omega
        have h1 := Int.tmod_nonneg ((n : Int) - 2) h0
        have h2 := Int.tmod_lt_of_pos (IntKind.u64.wrap at_) (b := (n : Int) - 2) (by omega)
        exact ⟨((IntKind.u64.wrap at_).tmod ((n : Int) - 2)).toNat, by omega, by omega⟩
      obtain ⟨b, off, rfl⟩ := hS.ptr (by decide) (by omega)
      have hS3 := hS.flatKeeps (Keeps.below H3.out)
      obtain ⟨a, c, ha, hc, i1, i2, i3⟩ := inc_parts hlen hr (show 1 ≤ 1 + q by omega) (by omega)
      have HI : Hid (∀ w1, Below w3.heap.size w3 w1 → Calls Try.prog 30 #[.slice (some ⟨b, off, none⟩) n cap] w1 fun e w' => e = .returned (.tuple #[.int .i64 (sumOf (a + c)).1, .int .i64 (sumOf (a + c)).2]) ∧ Below w1.heap.size w1 w') := fun w1 hb => i1 ▸ inc_any l _ _ _ w1 (hS3.flatKeeps (Keeps.below hb))
      have HA : Hid (∀ w1, Below w3.heap.size w3 w1 → Calls Try.prog 30 #[.slice (some ⟨b, off, none⟩) (1 + q + 1) cap] w1 fun e w' => e = .returned (.tuple #[.int .i64 (sumOf a).1, .int .i64 (sumOf a).2]) ∧ Below w1.heap.size w1 w') := fun w1 hb => i2 ▸ inc_any (l.take (1 + q + 1)) _ _ _ w1 ((hS3.takeL (by omega)).flatKeeps (Keeps.below hb))
      have HC : Hid (∀ w1, Below w3.heap.size w3 w1 → Calls Try.prog 30 #[.slice (some ⟨b, off + (1 + q) * 2, none⟩) (n - (1 + q)) (cap - (1 + q))] w1 fun e w' => e = .returned (.tuple #[.int .i64 (sumOf c).1, .int .i64 (sumOf c).2]) ∧ Below w1.heap.size w1 w') := fun w1 hb => i3 ▸ inc_any (l.drop (1 + q)) _ _ _ w1 ((hS3.dropL (by omega)).flatKeeps (Keeps.below hb))
      clear hS hS3 i1 i2 i3 hr hlen
      go_wp2_with fail
      refine (HI.out w3 (Below.refl _ _)).mono ?_
      rintro e w4 ⟨rfl, hb4⟩
      have H4 := Lib.hid hb4
      clear hb4
      go_wp2_with fail
      refine (HA.out w4 H4.out).mono ?_
      rintro e w5 ⟨rfl, hb5⟩
      have H5 := Lib.hid (H4.out.trans (hb5.mono H4.out.size))
      clear hb5
      have hcp : (cap == 1 + q) = false := by rw [beq_eq_false_iff_ne]; omega
      have hcp2 : ¬ cap = 1 + q := by omega
      go_wp2_with fail
      refine (HC.out w5 H5.out).mono ?_
      rintro e w6 ⟨rfl, hb6⟩
      have H6 := Lib.hid (H3.out.trans ((H5.out.trans (hb6.mono H5.out.size)).mono H3.out.size))
      clear hb6 HI HA HC
      by_cases t1 : a + c ≤ 9007199254740992
      · have s0 : sumOf (a + c) = (a + c, 0) := if_pos t1
        have s1 : sumOf a = (a, 0) := if_pos (by omega)
        have s2 : sumOf c = (c, 0) := if_pos (by omega)
        have e9 : IntKind.i64.wrap (a + c) = a + c := IntWalk.i64_in _ (by omega)
        rw [s0, s1, s2]
        go_wp2
        go_ret
        exact ⟨ret_bool (by simp), H6.out⟩
      · have s0 : sumOf (a + c) = (0, 3) := if_neg t1
        by_cases t2 : a ≤ 9007199254740992 <;> by_cases t3 : c ≤ 9007199254740992
        · have s1 : sumOf a = (a, 0) := if_pos t2
          have s2 : sumOf c = (c, 0) := if_pos t3
          have e9 : IntKind.i64.wrap (a + c) = a + c := IntWalk.i64_in _ (by omega)
          rw [s0, s1, s2]
          go_wp2
          go_ret
          exact ⟨ret_bool (by simp), H6.out⟩
        · have s1 : sumOf a = (a, 0) := if_pos t2
          have s2 : sumOf c = (0, 3) := if_neg t3
          rw [s0, s1, s2]
          go_wp2
          go_ret
          exact ⟨ret_bool (by simp), H6.out⟩
        · have s1 : sumOf a = (0, 3) := if_neg t2
          have s2 : sumOf c = (c, 0) := if_pos t3
          rw [s0, s1, s2]
          go_wp2
          go_ret
          exact ⟨ret_bool (by simp), H6.out⟩
        · have s1 : sumOf a = (0, 3) := if_neg t2
          have s2 : sumOf c = (0, 3) := if_neg t3
          rw [s0, s1, s2]
          go_wp2
          go_ret
          exact ⟨ret_bool (by simp), H6.out⟩

theorem smp_of (w : World) (c : List Value) (h : Rel (.pair (.int .i64) (.pair (.int .i64) .unit)) w c) : ∃ m, Flat Smp.cells w m c := by
  obtain ⟨c1, c2, rfl, _, ⟨n1, rfl, _⟩, c3, c4, rfl, _, ⟨n2, rfl, _⟩, rfl⟩ := h
  exact ⟨⟨n1, n2⟩, rfl⟩

theorem RateParts_holds : Rows.RatePartsSaid := lRateParts.over fun a0 n cap at_ w h0 _ => by
  obtain ⟨_, _, _, l, e0, hS⟩ := SlR.of_rel h0 (fun c hc => smp_of w c hc)
  simp [Value.cells] at e0
  obtain ⟨rfl, rfl, rfl⟩ := e0
  exact rateParts_core l _ _ _ at_ w hS
end Go.Proofs.Ytbhhjlnjhlagdaa
