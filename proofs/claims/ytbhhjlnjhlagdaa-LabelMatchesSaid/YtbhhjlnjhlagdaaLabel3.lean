/- Contracts of label.Tolerates and the reference's. Condition: the slices read. -/
import Derived.Test.YtbhhjlnjhlagdaaLabel
namespace Go.Proofs.Ytbhhjlnjhlagdaa
open Go.ChangeShapes Go.WideShapes Go.ChangeAt Go.RowKit Go.Deep

/-- Does a toleration answer a taint? -/
def tolOne (t x : Label) : Bool := (x.key.toList == t.key.toList) && (x.val.toList.isEmpty || (x.val.toList == t.val.toList))
def tolL (ts xs : List Label) : Bool := ts.all fun t => xs.any (tolOne t)

set_option maxHeartbeats 3200000 in
theorem tolerates_any (ts xs : List Label) (ao bo : Option Addr) (la ca lb cb : Nat) (w : World) (hT : SlR (Flat Label.cells) 2 w ao la ca ts) (hX : SlR (Flat Label.cells) 2 w bo lb cb xs) :
    Calls Try.prog 22 #[.slice ao la ca, .slice bo lb cb] w fun e w' => e = .returned (.bool (tolL ts xs)) ∧ Below w.heap.size w w' := by
  have ha := hT.hmax; have hac := hT.hcap
  have hb := hX.hmax; have hbc := hX.hcap
  unfold maxLen at ha hb
  go_enter Try.func22, Try.ntmps22
  go_wp2_with fail
  go_step3
  go_wp2_with fail
  go_step3
  go_wp2_with fail
  go_loopw [11] (fun i wr => ∃ k : Nat, k ≤ la ∧ i = .int .i64 k ∧ Hid (tolL ts xs = (ts.drop k).all fun t => xs.any (tolOne t)) ∧ Below w.heap.size w wr) (fun i _ => la - (intOf i).toNat)
  case atStart => exact ⟨0, Nat.zero_le _, rfl, rfl, Below.refl _ _⟩
  case round =>
    obtain ⟨k, hk, rfl, hf, hbw⟩ := hrel
    obtain ⟨wq, rfl⟩ : ∃ wq : World, wq = wr := ⟨_, rfl⟩
    by_cases hlt : k < la
    · obtain ⟨b, off, rfl⟩ := hT.ptr (by decide) (by omega)
      have kt : k < ts.length := by have := hT.hlen; omega
      have hc := (hT.flatKeeps (Keeps.below hbw)).flat kt
      have c0 := hc 0 _ rfl
      have c1 := hc 1 _ rfl
      rw [Nat.add_zero] at c0
      obtain ⟨t, ht⟩ : ∃ t, t = ts[k] := ⟨_, rfl⟩
      rw [← ht] at c0 c1
      have Ht := Lib.hid ht
      have hbA := hbw.alloc hbw.size (.cells #[.string t.key, .string t.val] 40)
      have hsz := hbw.size
      have k0 : (wq.alloc (.cells #[.string t.key, .string t.val] 40)).cell? ⟨wq.heap.size, 0, none⟩ = some (.string t.key) := cell_new wq _ _ 0
      have k1 : (wq.alloc (.cells #[.string t.key, .string t.val] 40)).cell? ⟨wq.heap.size, 1, none⟩ = some (.string t.val) := cell_new wq _ _ 1
      clear hc ht hbw
      go_wp2_with fail
      obtain ⟨wo, hwo⟩ : ∃ wo : World, wo = wq.alloc (.cells #[.string t.key, .string t.val] 40) := ⟨_, rfl⟩
      rw [← hwo] at hbA k0 k1 ⊢
      have hB : wq.heap.size < wo.heap.size := by rw [hwo]; simp
      clear hwo c0 c1
      go_loopw [17] (fun i wi => ∃ j : Nat, j ≤ lb ∧ i = .int .i64 j ∧ Hid (xs.any (tolOne t) = (xs.drop j).any (tolOne t)) ∧ Below wo.heap.size wo wi) (fun i _ => lb - (intOf i).toNat)
      case atStart => exact ⟨0, Nat.zero_le _, rfl, rfl, Below.refl _ _⟩
      case round =>
        obtain ⟨j, hj, rfl, hg, hbi⟩ := hrel
        by_cases hjt : j < lb
        · obtain ⟨b2, off2, rfl⟩ := hX.ptr (by decide) (by omega)
          have kx : j < xs.length := by have := hX.hlen; omega
          have hc := ((hX.flatKeeps (Keeps.below hbA)).flatKeeps (Keeps.below hbi)).flat kx
          have c0 := hc 0 _ rfl
          have c1 := hc 1 _ rfl
          rw [Nat.add_zero] at c0
          obtain ⟨x, hx⟩ : ∃ x, x = xs[j] := ⟨_, rfl⟩
          rw [← hx] at c0 c1
          have Hx := Lib.hid hx
          have j0 := Below.cell_some hbi k0
          have j1 := Below.cell_some hbi k1
          have hsi := hbi.size
          have hne : wq.heap.size < wr.heap.size := by omega
          have hbB := hbi.alloc hbi.size (.cells #[.string x.key, .string x.val] 40)
          have HbB := Lib.hid hbB
          clear hc hx hbi hbB k0 k1
          cases e1 : (x.key.toList == t.key.toList)
          · have hno : Hid (tolOne t xs[j] = false) := by rw [← Hx.out]; show _ = false; simp only [tolOne, e1, Bool.false_and]
            go_wp2
            go_roundw
            case rel => exact ⟨j + 1, by omega, by go_num, any_no kx hno.out hg.out, HbB.out⟩
            case measure => simp [intOf]; omega
          · cases e2 : x.val.toList.isEmpty
            · cases e3 : (x.val.toList == t.val.toList)
              · have hno : Hid (tolOne t xs[j] = false) := by rw [← Hx.out]; show _ = false; simp only [tolOne, e1, e2, e3, Bool.and_false, Bool.or_false]
                go_wp2
                go_roundw
                case rel => exact ⟨j + 1, by omega, by go_num, any_no kx hno.out hg.out, HbB.out⟩
                case measure => simp [intOf]; omega
              · have hyes : Hid (tolOne t xs[j] = true) := by rw [← Hx.out]; show _ = true; simp only [tolOne, e1, e2, e3, Bool.and_true, Bool.or_true]
                go_wp2
                go_roundw
                case rel => exact ⟨k + 1, by omega, by go_num, all_yes kt (by rw [← Ht.out]; exact any_yes kx hyes.out hg.out) hf.out, hbA.trans (HbB.out.mono hbA.size)⟩
                case measure => simp [intOf]; omega
            · have hyes : Hid (tolOne t xs[j] = true) := by rw [← Hx.out]; show _ = true; simp only [tolOne, e1, e2, Bool.and_true, Bool.true_or]
              go_wp2
              go_roundw
              case rel => exact ⟨k + 1, by omega, by go_num, all_yes kt (by rw [← Ht.out]; exact any_yes kx hyes.out hg.out) hf.out, hbA.trans (HbB.out.mono hbA.size)⟩
              case measure => simp [intOf]; omega
        · have He := Lib.hid (any_end (tolOne t) (xs := xs) (k := j) (by rw [hX.hlen]; omega))
          have Hb := Lib.hid hbi
          clear hbi
          go_wp2
          rw [Exit.noGoto_ret]
          go_ret
          exact ⟨ret_bool (all_no kt (by rw [← Ht.out, hg.out, He.out]) hf.out).symm, hbA.trans (Hb.out.mono hbA.size)⟩
    · have He := Lib.hid (all_end (fun t => xs.any (tolOne t)) (xs := ts) (k := k) (by rw [hT.hlen]; omega))
      have Hb := Lib.hid hbw
      clear hbw
      go_wp2
      rw [Exit.noGoto_ret]
      go_ret
      exact ⟨ret_bool (by rw [hf.out, He.out]), Hb.out⟩

set_option maxHeartbeats 3200000 in
theorem refTolerates_any (ts xs : List Label) (ao bo : Option Addr) (la ca lb cb : Nat) (w : World) (hT : SlR (Flat Label.cells) 2 w ao la ca ts) (hX : SlR (Flat Label.cells) 2 w bo lb cb xs) :
    Calls Try.prog 23 #[.slice ao la ca, .slice bo lb cb] w fun e w' => e = .returned (.bool (tolL ts xs)) ∧ Below w.heap.size w w' := by
  have ha := hT.hmax; have hac := hT.hcap
  have hb := hX.hmax; have hbc := hX.hcap
  unfold maxLen at ha hb
  go_enter Try.func23, Try.ntmps23
  go_wp2_with fail
  go_loopw [12] (fun i wr => ∃ k : Nat, k ≤ la ∧ i = .int .i64 k ∧ Hid (tolL ts xs = (ts.drop k).all fun t => xs.any (tolOne t)) ∧ Below w.heap.size w wr) (fun i _ => la - (intOf i).toNat)
  case atStart => exact ⟨0, Nat.zero_le _, rfl, rfl, Below.refl _ _⟩
  case round =>
    obtain ⟨k, hk, rfl, hf, hbw⟩ := hrel
    obtain ⟨wq, rfl⟩ : ∃ wq : World, wq = wr := ⟨_, rfl⟩
    by_cases hlt : k < la
    · obtain ⟨b, off, rfl⟩ := hT.ptr (by decide) (by omega)
      have kt : k < ts.length := by have := hT.hlen; omega
      have hc := (hT.flatKeeps (Keeps.below hbw)).flat kt
      have c0 := hc 0 _ rfl
      have c1 := hc 1 _ rfl
      rw [Nat.add_zero] at c0
      obtain ⟨t, ht⟩ : ∃ t, t = ts[k] := ⟨_, rfl⟩
      rw [← ht] at c0 c1
      have Ht := Lib.hid ht
      have hbA := hbw.alloc hbw.size (.cells #[.string t.key, .string t.val] 40)
      have hsz := hbw.size
      have k0 : (wq.alloc (.cells #[.string t.key, .string t.val] 40)).cell? ⟨wq.heap.size, 0, none⟩ = some (.string t.key) := cell_new wq _ _ 0
      have k1 : (wq.alloc (.cells #[.string t.key, .string t.val] 40)).cell? ⟨wq.heap.size, 1, none⟩ = some (.string t.val) := cell_new wq _ _ 1
      clear hc ht hbw
      go_wp2_with fail
      obtain ⟨wo, hwo⟩ : ∃ wo : World, wo = wq.alloc (.cells #[.string t.key, .string t.val] 40) := ⟨_, rfl⟩
      rw [← hwo] at hbA k0 k1 ⊢
      have hB : wq.heap.size < wo.heap.size := by rw [hwo]; simp
      clear hwo c0 c1
      go_loopw [7, 18] (fun m i wi => ∃ (j : Nat) (q : Bool), j ≤ lb ∧ i = .int .i64 j ∧ m = .bool q ∧ Hid (xs.any (tolOne t) = (q || (xs.drop j).any (tolOne t))) ∧ Below wo.heap.size wo wi) (fun _ i _ => lb - (intOf i).toNat)
      case atStart => exact ⟨0, false, Nat.zero_le _, rfl, rfl, rfl, Below.refl _ _⟩
      case round =>
        obtain ⟨j, q, hj, rfl, rfl, hg, hbi⟩ := hrel
        by_cases hjt : j < lb
        · obtain ⟨b2, off2, rfl⟩ := hX.ptr (by decide) (by omega)
          have kx : j < xs.length := by have := hX.hlen; omega
          have hc := ((hX.flatKeeps (Keeps.below hbA)).flatKeeps (Keeps.below hbi)).flat kx
          have c0 := hc 0 _ rfl
          have c1 := hc 1 _ rfl
          rw [Nat.add_zero] at c0
          obtain ⟨x, hx⟩ : ∃ x, x = xs[j] := ⟨_, rfl⟩
          rw [← hx] at c0 c1
          have Hx := Lib.hid hx
          have j0 := Below.cell_some hbi k0
          have j1 := Below.cell_some hbi k1
          have hsi := hbi.size
          have hne : wq.heap.size < wr.heap.size := by omega
          have hbB := hbi.alloc hbi.size (.cells #[.string x.key, .string x.val] 40)
          have HbB := Lib.hid hbB
          have Hs : Hid (xs.any (tolOne t) = ((q || tolOne t x) || (xs.drop (j + 1)).any (tolOne t))) := by
            show _ = _
            rw [hg.out, any_drop (tolOne t) kx, Hx.out, Bool.or_assoc]
          clear hc hx hbi hbB k0 k1 hg
          cases q
          · cases e1 : (x.key.toList == t.key.toList)
            · have hq : Hid (tolOne t x = false) := by show _ = false; simp only [tolOne, e1, Bool.false_and]
              go_wp2
              go_roundw
              case rel => exact ⟨j + 1, false, by omega, by go_num, rfl, by have := Hs.out; rw [hq.out] at this; exact this, HbB.out⟩
              case measure => simp [intOf]; omega
            · cases e2 : x.val.toList.isEmpty
              · cases e3 : (x.val.toList == t.val.toList)
                · have hq : Hid (tolOne t x = false) := by show _ = false; simp only [tolOne, e1, e2, e3, Bool.and_false, Bool.or_false]
                  go_wp2
                  go_roundw
                  case rel => exact ⟨j + 1, false, by omega, by go_num, rfl, by have := Hs.out; rw [hq.out] at this; exact this, HbB.out⟩
                  case measure => simp [intOf]; omega
                · have hq : Hid (tolOne t x = true) := by show _ = true; simp only [tolOne, e1, e2, e3, Bool.and_true, Bool.or_true]
                  go_wp2
                  go_roundw
                  case rel => exact ⟨j + 1, true, by omega, by go_num, rfl, by have := Hs.out; rw [hq.out] at this; exact this, HbB.out⟩
                  case measure => simp [intOf]; omega
              · have hq : Hid (tolOne t x = true) := by show _ = true; simp only [tolOne, e1, e2, Bool.and_true, Bool.true_or]
                go_wp2
                go_roundw
                case rel => exact ⟨j + 1, true, by omega, by go_num, rfl, by have := Hs.out; rw [hq.out] at this; exact this, HbB.out⟩
                case measure => simp [intOf]; omega
          · go_wp2
            go_roundw
            case rel => exact ⟨j + 1, true, by omega, by go_num, rfl, by have := Hs.out; rw [Bool.true_or] at this; exact this, HbB.out⟩
            case measure => simp [intOf]; omega
        · have He : Hid (xs.any (tolOne t) = q) := by show _ = q; rw [hg.out, any_end (tolOne t) (xs := xs) (k := j) (by rw [hX.hlen]; omega), Bool.or_false]
          have Hb := Lib.hid hbi
          clear hbi
          cases q
          · go_wp2
            go_ret
            exact ⟨ret_bool (all_no kt (by rw [← Ht.out, He.out]) hf.out).symm, hbA.trans (Hb.out.mono hbA.size)⟩
          · go_wp2
            go_roundw
            case rel => exact ⟨k + 1, by omega, by go_num, all_yes kt (by rw [← Ht.out, He.out]) hf.out, hbA.trans (Hb.out.mono hbA.size)⟩
            case measure => simp [intOf]; omega
    · have He := Lib.hid (all_end (fun t => xs.any (tolOne t)) (xs := ts) (k := k) (by rw [hT.hlen]; omega))
      have Hb := Lib.hid hbw
      clear hbw
      go_wp2
      go_ret
      exact ⟨ret_bool (by rw [hf.out, He.out]), Hb.out⟩
end Go.Proofs.Ytbhhjlnjhlagdaa
