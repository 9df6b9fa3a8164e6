/- ReplayFirst holds: for every two rows of marks the law returns true and its arguments stay. No condition. -/
import Derived.Test.YtbhhjlnjhlagdaaReplayFirstLift
import Derived.Test.YtbhhjlnjhlagdaaReplay
import Derived.Test.YtbhhjlnjhlagdaaRounds
import Derived.Deep.DeepCutAuto
import Derived.Deep.CutBlock
namespace Go.Proofs.Ytbhhjlnjhlagdaa
open Go.ChangeShapes Go.WideShapes Go.ChangeAt Go.RowKit Go.Deep

theorem mk_of (w : World) (c : List Value) (h : Rel (.pair (.int .i64) (.pair (.int .i64) (.pair (.int .i64) (.pair (.int .i64) (.pair (.int .u64) .unit))))) w c) : ∃ m, Flat Mk.cells w m c := by
  obtain ⟨c1, c2, rfl, _, ⟨n1, rfl, _⟩, c3, c4, rfl, _, ⟨n2, rfl, _⟩, c5, c6, rfl, _, ⟨n3, rfl, _⟩, c7, c8, rfl, _, ⟨n4, rfl, _⟩, c9, c10, rfl, _, ⟨n5, rfl, _⟩, rfl⟩ := h
  exact ⟨⟨n1, n2, n3, n4, n5⟩, rfl⟩

set_option maxHeartbeats 1000000 in
theorem replayFirst_core (A B : List Mk) (ao bo : Option Addr) (la ca lb cb : Nat) (w : World) (hA : SlR (Flat Mk.cells) 5 w ao la ca A) (hB : SlR (Flat Mk.cells) 5 w bo lb cb B) :
    Calls Try.prog 3 #[.slice ao la ca, .slice bo lb cb] w fun e w' => e = .returned (.bool true) ∧ Below w.heap.size w w' := by
  have ha := hA.hmax; have hac := hA.hcap
  have hb := hB.hmax; have hbc := hB.hcap
  unfold maxLen at ha hb
  by_cases hbig : 60 < la ∨ 60 < lb
  · rcases hbig with h1 | h1
    · go_enter Try.func3, Try.ntmps3
      go_wp2_with fail
      refine (lives45 _).mono ?_
      rintro e w1 ⟨rfl, hb1⟩
      go_wp2_with fail
      refine (lives45 _).mono ?_
      rintro e w2 ⟨rfl, hb2⟩
      go_wp2
      go_ret
      exact ⟨rfl, hb1.trans (hb2.mono hb1.size)⟩
    · by_cases h2 : 60 < la
      all_goals
        go_enter Try.func3, Try.ntmps3
        go_wp2_with fail
        refine (lives45 _).mono ?_
        rintro e w1 ⟨rfl, hb1⟩
        go_wp2_with fail
        refine (lives45 _).mono ?_
        rintro e w2 ⟨rfl, hb2⟩
        go_wp2
        go_ret
        exact ⟨rfl, hb1.trans (hb2.mono hb1.size)⟩
  · obtain ⟨h1, h2⟩ : la ≤ 60 ∧ lb ≤ 60 := by omega
    clear hbig
    go_enter Try.func3, Try.ntmps3
    go_wp2_with fail
    refine (lives45 _).mono ?_
    rintro e w1 ⟨rfl, hb1⟩
    have hA1 := hA.flatKeeps (Keeps.below hb1)
    have hB1 := hB.flatKeeps (Keeps.below hb1)
    clear hA hB
    go_upto_block 0 with (fail)
    go_cut [5] (fun s5 wx => s5 = .int .i64 (fstNe A B 0) ∧ ∃ n, wx = w1.drewN n)
    case first =>
      go_wp2_with fail
      go_loopw [5, 6] (fun s i wr => ∃ k : Nat, k ≤ 61 ∧ i = .int .i64 k ∧ s = .int .i64 (-1) ∧ (k ≤ la ∨ k ≤ lb) ∧ (0 < k → k ≤ la ∧ k ≤ lb) ∧ Hid (fstNe A B 0 = fstNe (A.drop k) (B.drop k) k) ∧ ∃ n, wr = w1.drewN n) (fun _ i _ => 62 - (intOf i).toNat)
      case atStart => exact ⟨0, by omega, rfl, rfl, by omega, by omega, rfl, 0, rfl⟩
      case round =>
        obtain ⟨k, hk, rfl, rfl, _, hkk, hf, n, rfl⟩ := hrel
        by_cases hka : k < la
        · by_cases hkb : k < lb
          · obtain ⟨b1, o1, rfl⟩ := hA1.ptr (by decide) (by omega)
            obtain ⟨b2, o2, rfl⟩ := hB1.ptr (by decide) (by omega)
            have ka : k < A.length := by have := hA1.hlen; omega
            have kb : k < B.length := by have := hB1.hlen; omega
            have fa := hA1.flat ka
            have fb := hB1.flat kb
            have a0 := hA1.flat0 ka _ rfl; have a1 := fa 1 _ rfl; have a2 := fa 2 _ rfl; have a3 := fa 3 _ rfl; have a4 := fa 4 _ rfl
            have b0 := hB1.flat0 kb _ rfl; have b1' := fb 1 _ rfl; have b2' := fb 2 _ rfl; have b3 := fb 3 _ rfl; have b4 := fb 4 _ rfl
            clear fa fb
            have hd := fstNe_drop ka kb
            have g1 : decide ((la : Int) ≤ (k : Int)) = false := by simp; omega
            have g2 : decide ((lb : Int) ≤ (k : Int)) = false := by simp; omega
            by_cases hab : A[k] = B[k]
            · rw [if_pos hab] at hd
              have Hd := Lib.hid hd
              clear hd
              go_wp2
              go_quiet (fail)
              go_wp2
              go_roundw
              case rel => exact ⟨k + 1, by omega, by go_num, rfl, by omega, by omega, hf.out.trans Hd.out, n + nq, by first | rfl | rw [World.drewN_drewN]⟩
              case measure => simp [intOf]; omega
            · rw [if_neg hab] at hd
              have Hd := Lib.hid hd
              clear hd
              have hm := @mk_if
              go_wp2
              go_quiet (fail)
              go_wp2
              go_meet
              exact ⟨by rw [hf.out, Hd.out], n + nq, by first | rfl | rw [World.drewN_drewN]⟩
          · have g1 : decide ((la : Int) ≤ (k : Int)) = false := by simp; omega
            have g2 : decide ((lb : Int) ≤ (k : Int)) = true := by simp; omega
            go_wp2
            go_quiet (fail)
            have hlb : lb = k := by omega
            have He := Lib.hid (fstNe_end (A := A) (B := B) (k := k) (by rw [hB1.hlen]; omega) (by rw [hA1.hlen]; omega) (by rw [hB1.hlen]; omega))
            have Hn : Hid (¬ A.length = B.length) := by show ¬ _; rw [hA1.hlen, hB1.hlen]; omega
            clear hlb
            go_wp2
            go_meet
            exact ⟨by rw [hf.out, He.out, if_neg Hn.out], n + nq, by first | rfl | rw [World.drewN_drewN]⟩
        · have g1 : decide (la ≤ k) = true := by simp; omega
          have hla : la = k := by omega
          have He := Lib.hid (fstNe_end (A := A) (B := B) (k := k) (by rw [hA1.hlen]; omega) (by rw [hA1.hlen]; omega) (by rw [hB1.hlen]; omega))
          clear hla
          by_cases hkb : k < lb
          · have Hn : Hid (¬ A.length = B.length) := by show ¬ _; rw [hA1.hlen, hB1.hlen]; omega
            have g0 : decide ((k : Int) < (la : Int)) = false := by simp; omega
            go_wp2
            go_quiet (fail)
            go_wp2
            go_meet
            exact ⟨by rw [hf.out, He.out, if_neg Hn.out], n + nq, by first | rfl | rw [World.drewN_drewN]⟩
          · have Hn : Hid (A.length = B.length) := by show _ = _; rw [hA1.hlen, hB1.hlen]; omega
            go_wp2
            go_meet
            exact ⟨by rw [hf.out, He.out, if_pos Hn.out], n, rfl⟩
    case rest =>
      obtain ⟨rfl, n, rfl⟩ := hcut
      have q1 : (fstNe A B 0 == fstNe A B 0) = true := by simp
      have q2 : (fstNe B A 0 == fstNe A B 0) = true := by rw [fstNe_comm B A]; simp
      have q3 : (fstNe A A 0 == -1) = true := by rw [fstNe_self]; rfl
      have Hb1 := Lib.hid hb1
      clear hb1
      go_wp2_with fail
      refine (first_any A B _ _ _ _ _ _ _ (hA1.drewN n) (hB1.drewN n)).mono ?_
      rintro e w2 ⟨rfl, n2, rfl⟩
      go_wp2_with fail
      refine (first_any B A _ _ _ _ _ _ _ (hB1.drewN _) (hA1.drewN _)).mono ?_
      rintro e w2 ⟨rfl, n3, rfl⟩
      go_wp2_with fail
      refine (first_any A A _ _ _ _ _ _ _ (hA1.drewN _) (hA1.drewN _)).mono ?_
      rintro e w2 ⟨rfl, n4, rfl⟩
      go_wp2_with fail
      go_ret
      exact ⟨rfl, drewN_below Hb1.out _⟩

theorem ReplayFirst_holds : Rows.ReplayFirstSaid := lReplayFirst.over fun a0 len0 cap0 a1 len1 cap1 w h0 h1 => by
  obtain ⟨_, _, _, A, e0, hA⟩ := SlR.of_rel h0 (fun c hc => mk_of w c hc)
  obtain ⟨_, _, _, B, e1, hB⟩ := SlR.of_rel h1 (fun c hc => mk_of w c hc)
  simp [Value.cells] at e0 e1
  obtain ⟨rfl, rfl, rfl⟩ := e0
  obtain ⟨rfl, rfl, rfl⟩ := e1
  exact replayFirst_core A B _ _ _ _ _ _ w hA hB
end Go.Proofs.Ytbhhjlnjhlagdaa
