/- Contracts of label.Match and label.Tolerates, and of the reference's. Condition: the slices read. -/
import Derived.Test.YtbhhjlnjhlagdaaLabel
namespace Go.Proofs.Ytbhhjlnjhlagdaa
open Go.ChangeShapes Go.WideShapes Go.ChangeAt Go.RowKit Go.Deep

set_option maxHeartbeats 1000000 in
theorem match_any (l : List Label) (rs : List Require) (ao bo : Option Addr) (la ca lb cb : Nat) (w : World) (hS : SlR (Flat Label.cells) 2 w ao la ca l) (hR : SlR (Flat Require.cells) 3 w bo lb cb rs) :
    Calls Try.prog 20 #[.slice ao la ca, .slice bo lb cb] w fun e w' => e = .returned (.bool (rs.all (holdsL l))) ∧ Below w.heap.size w w' := by
  have ha := hR.hmax; have hac := hR.hcap
  unfold maxLen at ha
  go_enter Try.func20, Try.ntmps20
  go_wp2_with fail
  go_loopw [9] (fun i wr => ∃ k : Nat, k ≤ lb ∧ i = .int .i64 k ∧ Hid (rs.all (holdsL l) = (rs.drop k).all (holdsL l)) ∧ Below w.heap.size w wr) (fun i _ => lb - (intOf i).toNat)
  case atStart => exact ⟨0, Nat.zero_le _, rfl, rfl, Below.refl _ _⟩
  case round =>
    obtain ⟨k, hk, rfl, hf, hb⟩ := hrel
    by_cases hlt : k < lb
    · obtain ⟨b, off, rfl⟩ := hR.ptr (by decide) (by omega)
      have kx : k < rs.length := by have := hR.hlen; omega
      have hc := (hR.flatKeeps (Keeps.below hb)).flat kx
      have c0 := hc 0 _ rfl
      have c1 := hc 1 _ rfl
      have c2 := hc 2 _ rfl
      rw [Nat.add_zero] at c0
      have hbA := hb.alloc hb.size (.cells #[.string rs[k].key, .string rs[k].val, .int .i64 rs[k].op] 122)
      have hS1 := hS.flatKeeps (Keeps.below hbA)
      have hsz := hbA.size
      have Hb := Lib.hid hbA
      clear hc hb hbA
      obtain ⟨q, hq⟩ : ∃ q, holdsL l rs[k] = q := ⟨_, rfl⟩
      have Hq := Lib.hid hq
      clear hq
      cases q
      · go_wp2_with fail
        refine (holds_any l rs[k] _ _ _ _ hS1).mono ?_
        rintro e w2 ⟨he, hb2⟩
        rw [Hq.out] at he
        subst he
        have Hb2 := Lib.hid (Hb.out.trans (hb2.mono hsz))
        clear hb2
        go_wp2
        go_ret
        exact ⟨ret_bool (all_no kx Hq.out hf.out).symm, Hb2.out⟩
      · go_wp2_with fail
        refine (holds_any l rs[k] _ _ _ _ hS1).mono ?_
        rintro e w2 ⟨he, hb2⟩
        rw [Hq.out] at he
        subst he
        have Hb2 := Lib.hid (Hb.out.trans (hb2.mono hsz))
        clear hb2
        go_wp2
        go_roundw
        case rel => exact ⟨k + 1, by omega, by go_num, all_yes kx Hq.out hf.out, Hb2.out⟩
        case measure => simp [intOf]; omega
    · have He := Lib.hid (all_end (holdsL l) (xs := rs) (k := k) (by rw [hR.hlen]; omega))
      have Hb := Lib.hid hb
      clear hb
      go_wp2
      go_ret
      exact ⟨ret_bool (by rw [hf.out, He.out]), Hb.out⟩

set_option maxHeartbeats 3200000 in
theorem refMatch_any (l : List Label) (rs : List Require) (ao bo : Option Addr) (la ca lb cb : Nat) (w : World) (hS : SlR (Flat Label.cells) 2 w ao la ca l) (hR : SlR (Flat Require.cells) 3 w bo lb cb rs) :
    Calls Try.prog 21 #[.slice ao la ca, .slice bo lb cb] w fun e w' => e = .returned (.bool (rs.all (holdsL l))) ∧ Below w.heap.size w w' := by
  have ha := hR.hmax; have hac := hR.hcap
  unfold maxLen at ha
  go_enter Try.func21, Try.ntmps21
  go_wp2_with fail
  go_loopw [13] (fun i wr => ∃ k : Nat, k ≤ lb ∧ i = .int .i64 k ∧ Hid (rs.all (holdsL l) = (rs.drop k).all (holdsL l)) ∧ Below w.heap.size w wr) (fun i _ => lb - (intOf i).toNat)
  case atStart => exact ⟨0, Nat.zero_le _, rfl, rfl, Below.refl _ _⟩
  case round =>
    obtain ⟨k, hk, rfl, hf, hb⟩ := hrel
    by_cases hlt : k < lb
    · obtain ⟨b, off, rfl⟩ := hR.ptr (by decide) (by omega)
      have kx : k < rs.length := by have := hR.hlen; omega
      have hc := (hR.flatKeeps (Keeps.below hb)).flat kx
      have c0 := hc 0 _ rfl
      have c1 := hc 1 _ rfl
      have c2 := hc 2 _ rfl
      rw [Nat.add_zero] at c0
      obtain ⟨r, hr⟩ : ∃ r, r = rs[k] := ⟨_, rfl⟩
      rw [← hr] at c0 c1 c2
      have Hr := Lib.hid hr
      clear hr
      obtain ⟨key, val, op⟩ := r
      have hbA := hb.alloc hb.size (.cells #[.string key, .string val, .int .i64 op] 122)
      have hS1 := hS.flatKeeps (Keeps.below hbA)
      have hsz := hbA.size
      have k0 : (wr.alloc (.cells #[.string key, .string val, .int .i64 op] 122)).cell? ⟨wr.heap.size, 0, none⟩ = some (.string key) := cell_new wr _ _ 0
      have k1 : (wr.alloc (.cells #[.string key, .string val, .int .i64 op] 122)).cell? ⟨wr.heap.size, 1, none⟩ = some (.string val) := cell_new wr _ _ 1
      have k2 : (wr.alloc (.cells #[.string key, .string val, .int .i64 op] 122)).cell? ⟨wr.heap.size, 2, none⟩ = some (.int .i64 op) := cell_new wr _ _ 2
      have Hb := Lib.hid hbA
      rcases hg : getL key l with ⟨v, b2⟩
      have hh : holdsL l rs[k] = holdsV op v b2 val := by rw [← Hr.out]; simp only [holdsL, hg]
      have Hg := Lib.hid hg
      have Hh := Lib.hid hh
      clear hc hb hbA hg hh
      rcases (show op = 0 ∨ op = 1 ∨ op = 2 ∨ op = 3 ∨ (op ≠ 0 ∧ op ≠ 1 ∧ op ≠ 2 ∧ op ≠ 3) by omega) with rfl | rfl | rfl | rfl | ⟨n0, n1, n2, n3⟩
      all_goals
        cases b2
        all_goals
          go_wp2_with fail
          refine (refGet_any l key _ _ _ _ hS1).mono ?_
          rintro e w2 ⟨he, hb2⟩
          rw [Hg.out] at he
          subst he
          have j0 := Below.cell_some hb2 k0
          have j1 := Below.cell_some hb2 k1
          have j2 := Below.cell_some hb2 k2
          have Hb2 := Lib.hid (Hb.out.trans (hb2.mono hsz))
          clear hb2 k0 k1 k2
          go_wp2
          all_goals first
            | (go_ret; exact ⟨ret_bool (all_no kx (by rw [Hh.out]; first | (simp [holdsV, *]; done) | (exfalso; simp_all; done)) hf.out).symm, Hb2.out⟩)
            | (go_roundw
               case rel => exact ⟨k + 1, by omega, by go_num, all_yes kx (by rw [Hh.out]; first | (simp [holdsV, *]; done) | (exfalso; simp_all; done)) hf.out, Hb2.out⟩
               case measure => simp [intOf]; omega)
    · have He := Lib.hid (all_end (holdsL l) (xs := rs) (k := k) (by rw [hR.hlen]; omega))
      have Hb := Lib.hid hb
      clear hb
      go_wp2
      go_ret
      exact ⟨ret_bool (by rw [hf.out, He.out]), Hb.out⟩
end Go.Proofs.Ytbhhjlnjhlagdaa
