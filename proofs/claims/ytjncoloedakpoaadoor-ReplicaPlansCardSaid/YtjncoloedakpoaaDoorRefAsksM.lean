/- The contracts of the reference's Right and Asks of labels. Condition: the slice reads, its texts fit. || The contract of the reference's Asks. Condition: the slice reads, its texts fit. -/
import Derived.Test.YtjncoloedakpoaaDoorRefLabelM
namespace Go.Proofs.YtjncoloedakpoaaDoor
open Go.ChangeShapes Go.WideShapes Go.ChangeAt Go.RowKit Go.Deep

theorem and_or_no {b2 b3 : Bool} : (true && (b2 || b3)) = false → b2 = false ∧ b3 = false := by revert b2 b3; decide
theorem and_or_yes {b1 b2 b3 : Bool} : (b1 && (b2 || b3)) = true → b1 = true ∧ (b2 = true ∨ (b2 = false ∧ b3 = true)) := by revert b1 b2 b3; decide

set_option maxHeartbeats 3200000 in
theorem refRight_any (xs : List Label) (ao : Option Addr) (la ca : Nat) (w : World) (hS : SlR (Flat Label.cells) 2 w ao la ca xs) (hm : SmallL xs) :
    Calls Tryd.prog 14 #[.slice ao la ca] w fun e w' => e = .returned (.bool (labelsOk xs)) ∧ Below w.heap.size w w' := by
  have ha := hS.hmax; have hac := hS.hcap
  unfold maxLen at ha
  go_enter Tryd.func14, Tryd.ntmps14
  go_wp2_with fail
  go_loopw [7] (fun i wr => ∃ k : Nat, k ≤ la ∧ i = .int .i64 k ∧ Hid (Good xs k) ∧ Below w.heap.size w wr) (fun i _ => la - (intOf i).toNat)
  case atStart => exact ⟨0, Nat.zero_le _, rfl, Good.zero xs, Below.refl _ _⟩
  case round =>
    obtain ⟨k, hk, rfl, hg, hb⟩ := hrel
    obtain ⟨wq, rfl⟩ : ∃ wq : World, wq = wr := ⟨_, rfl⟩
    by_cases hlt : k < la
    · obtain ⟨b, off, rfl⟩ := hS.ptr (by decide) (by omega)
      have kx : k < xs.length := by have := hS.hlen; omega
      have hSr := hS.flatKeeps (Keeps.below hb)
      have hc := hSr.flat kx
      have c0 := hc 0 _ rfl
      have c1 := hc 1 _ rfl
      rw [Nat.add_zero] at c0
      have hbl := blk c0
      have hsz := hb.size
      have Hb := Lib.hid hb
      have h1 : Hid (okLabel xs[k] = false → labelsOk xs = false) := fun h => labels_no1 kx h
      have h2 : Hid (∀ m, (e : m < k) → keyLt (xs[m]'(by omega)) xs[k] = false → labelsOk xs = false) := fun m e h => labels_no2 e kx h
      have h3 : Hid (okLabel xs[k] = true → (∀ m, (e : m < k) → keyLt (xs[m]'(by omega)) xs[k] = true) → Good xs (k + 1)) := fun h h' => hg.out.next kx h (fun h0 => h' (k - 1) (by omega))
      have h4 := hm k kx
      obtain ⟨x, hx⟩ : ∃ x, xs[k] = x := ⟨_, rfl⟩
      rw [hx] at c0 c1 h1 h2 h3 h4
      obtain ⟨key, val⟩ := x
      dsimp only at c0 c1 h4
      have HN : Hid (∀ w1, Calls Tryd.prog 10 #[.string key] w1 fun e w' => e = .returned (.bool (nameOf key.data.toList)) ∧ w1 = w') := fun w1 => (refName_any key h4.1 w1).mono fun e w' h => ⟨h.1, h.2.symm⟩
      have HV : Hid (∀ w1, Calls Tryd.prog 10 #[.string val] w1 fun e w' => e = .returned (.bool (nameOf val.data.toList)) ∧ w1 = w') := fun w1 => (refName_any val h4.2 w1).mono fun e w' h => ⟨h.1, h.2.symm⟩
      clear h4
      have HO : Hid (okLabel ⟨key, val⟩ = (nameOf key.data.toList && (val.toList.isEmpty || nameOf val.data.toList))) := rfl
      obtain ⟨b1, e1⟩ : ∃ b, nameOf key.data.toList = b := ⟨_, rfl⟩
      obtain ⟨b2, e2⟩ : ∃ b, val.toList.isEmpty = b := ⟨_, rfl⟩
      obtain ⟨b3, e3⟩ : ∃ b, nameOf val.data.toList = b := ⟨_, rfl⟩
      rw [e1, e2, e3] at HO
      rw [e1] at HN
      rw [e3] at HV
      clear hc hx hb hg e1 e3
      have hgood : (b1 && (b2 || b3)) = false ∨ (b1 && (b2 || b3)) = true := by cases (b1 && (b2 || b3)) <;> simp
      rcases hgood with hgood | hgood
      · have hbad := Lib.hid (h1.out (HO.out.trans hgood))
        clear h1 h2 h3 HO
        rcases b1 with _ | _
        · go_wp2_with (go_at_call 10; refine (HN.out _).mono ?_; rintro e w1 ⟨rfl, rfl⟩)
          go_ret
          exact ⟨ret_bool hbad.out.symm, Hb.out⟩
        · obtain rfl : b2 = false := by cases b2 <;> simp_all
          obtain rfl : b3 = false := by cases b3 <;> simp_all
          go_wp2_with fail
          refine (HN.out _).mono ?_
          rintro e w1 ⟨rfl, rfl⟩
          go_wp2_with fail
          refine (HV.out _).mono ?_
          rintro e w1 ⟨rfl, rfl⟩
          go_wp2_with fail
          go_ret
          exact ⟨ret_bool hbad.out.symm, Hb.out⟩
      · have H3 := Lib.hid (h3.out (HO.out.trans hgood))
        clear h1 h3 HO
        obtain ⟨rfl, rfl | ⟨rfl, rfl⟩⟩ := and_or_yes hgood
        · go_wp2_with fail
          refine (HN.out _).mono ?_
          rintro e w1 ⟨rfl, rfl⟩
          go_wp2_with fail
          go_loopw [4] (fun i wi => ∃ j : Nat, j ≤ k ∧ i = .int .i64 j ∧ Hid (∀ m, (e : m < j) → (h : m < k) → keyLt (xs[m]'(by omega)) ⟨key, val⟩ = true) ∧ Below wq.heap.size wq wi) (fun i _ => k - (intOf i).toNat)
          case atStart => exact ⟨0, Nat.zero_le _, rfl, fun m e => by omega, Below.refl _ _⟩
          case round =>
            obtain ⟨j, hj, rfl, hg, hbi⟩ := hrel
            by_cases hjt : j < k
            · have jx : j < xs.length := by omega
              have hS2 := hSr.flatKeeps (Keeps.below hbi)
              have d0 := (hS2.flat jx) 0 _ rfl
              have d1 := (hS2.flat kx) 0 _ rfl
              rw [Nat.add_zero] at d0 d1
              have hkk : (j : Int) < (la : Int) := by omega
              have hbd := blk d0
              have hbe := blk d1
              obtain ⟨q, hq⟩ : ∃ q, xs[k].key = q := ⟨_, rfl⟩
              have hqk : key = q := by
                have := Below.cell_some hbi c0
                rw [d1] at this
                have e := Option.some.inj this
                injection e with e
                rw [← e, hq]
              rw [hq] at d1
              subst hqk
              obtain ⟨y, hy⟩ : ∃ y, xs[j] = y := ⟨_, rfl⟩
              have h2' : Hid (keyLt y ⟨key, val⟩ = false → labelsOk xs = false) := by rw [← hy]; exact fun h => h2.out j hjt h
              have h3' : Hid (keyLt y ⟨key, val⟩ = true → ∀ m, (e : m < j + 1) → (h : m < k) → keyLt (xs[m]'(by omega)) ⟨key, val⟩ = true) := by
                rw [← hy]
                intro h m e hm
                by_cases em : m = j
                · subst em; exact h
                · exact hg.out m (by omega) hm
              rw [hy] at d0
              have Hbi := Lib.hid hbi
              have hsi := hbi.size
              clear hy hg hbi hS2 hq
              cases ht : Op.bytesLess y.key.toList key.toList
              · have hbad := Lib.hid (h2'.out ht)
                clear h2' h3'
                go_wp2
                go_quiet (fail)
                go_wp2
                go_ret
                exact ⟨ret_bool hbad.out.symm, below_dr (Hb.out.trans (Hbi.out.mono hsz)) _⟩
              · have hG := Lib.hid (h3'.out ht)
                clear h2' h3'
                go_wp2
                go_quiet (fail)
                go_wp2
                go_roundw
                case rel => exact ⟨j + 1, by omega, by go_num, hG.out, below_dr Hbi.out _⟩
                case measure => simp [intOf]; omega
            · have hG := Lib.hid (H3.out (fun m e => hg.out m (by omega) e))
              have Hbi := Lib.hid hbi
              clear hg hbi
              go_wp2
              go_roundw
              case rel => exact ⟨k + 1, by omega, by go_num, hG.out, Hb.out.trans (Hbi.out.mono hsz)⟩
              case measure => simp [intOf]; omega
        · go_wp2_with fail
          refine (HN.out _).mono ?_
          rintro e w1 ⟨rfl, rfl⟩
          go_wp2_with fail
          refine (HV.out _).mono ?_
          rintro e w1 ⟨rfl, rfl⟩
          go_wp2_with fail
          go_loopw [4] (fun i wi => ∃ j : Nat, j ≤ k ∧ i = .int .i64 j ∧ Hid (∀ m, (e : m < j) → (h : m < k) → keyLt (xs[m]'(by omega)) ⟨key, val⟩ = true) ∧ Below wq.heap.size wq wi) (fun i _ => k - (intOf i).toNat)
          case atStart => exact ⟨0, Nat.zero_le _, rfl, fun m e => by omega, Below.refl _ _⟩
          case round =>
            obtain ⟨j, hj, rfl, hg, hbi⟩ := hrel
            by_cases hjt : j < k
            · have jx : j < xs.length := by omega
              have hS2 := hSr.flatKeeps (Keeps.below hbi)
              have d0 := (hS2.flat jx) 0 _ rfl
              have d1 := (hS2.flat kx) 0 _ rfl
              rw [Nat.add_zero] at d0 d1
              have hkk : (j : Int) < (la : Int) := by omega
              have hbd := blk d0
              have hbe := blk d1
              obtain ⟨q, hq⟩ : ∃ q, xs[k].key = q := ⟨_, rfl⟩
              have hqk : key = q := by
                have := Below.cell_some hbi c0
                rw [d1] at this
                have e := Option.some.inj this
                injection e with e
                rw [← e, hq]
              rw [hq] at d1
              subst hqk
              obtain ⟨y, hy⟩ : ∃ y, xs[j] = y := ⟨_, rfl⟩
              have h2' : Hid (keyLt y ⟨key, val⟩ = false → labelsOk xs = false) := by rw [← hy]; exact fun h => h2.out j hjt h
              have h3' : Hid (keyLt y ⟨key, val⟩ = true → ∀ m, (e : m < j + 1) → (h : m < k) → keyLt (xs[m]'(by omega)) ⟨key, val⟩ = true) := by
                rw [← hy]
                intro h m e hm
                by_cases em : m = j
                · subst em; exact h
                · exact hg.out m (by omega) hm
              rw [hy] at d0
              have Hbi := Lib.hid hbi
              have hsi := hbi.size
              clear hy hg hbi hS2 hq
              cases ht : Op.bytesLess y.key.toList key.toList
              · have hbad := Lib.hid (h2'.out ht)
                clear h2' h3'
                go_wp2
                go_quiet (fail)
                go_wp2
                go_ret
                exact ⟨ret_bool hbad.out.symm, below_dr (Hb.out.trans (Hbi.out.mono hsz)) _⟩
              · have hG := Lib.hid (h3'.out ht)
                clear h2' h3'
                go_wp2
                go_quiet (fail)
                go_wp2
                go_roundw
                case rel => exact ⟨j + 1, by omega, by go_num, hG.out, below_dr Hbi.out _⟩
                case measure => simp [intOf]; omega
            · have hG := Lib.hid (H3.out (fun m e => hg.out m (by omega) e))
              have Hbi := Lib.hid hbi
              clear hg hbi
              go_wp2
              go_roundw
              case rel => exact ⟨k + 1, by omega, by go_num, hG.out, Hb.out.trans (Hbi.out.mono hsz)⟩
              case measure => simp [intOf]; omega
    · have Hb := Lib.hid hb
      have He := Lib.hid (hg.out.done (by rw [hS.hlen]; omega))
      have Hl : Hid (xs.length = la) := hS.hlen
      clear hb hg
      go_wp2
      all_goals
        go_ret
        exact ⟨ret_bool (by rw [He.out, Hl.out]; simp; omega), Hb.out⟩
end Go.Proofs.YtjncoloedakpoaaDoor
namespace Go.Proofs.YtjncoloedakpoaaDoor
open Go.ChangeShapes Go.WideShapes Go.ChangeAt Go.RowKit Go.Deep

theorem asks_no {rs : List Require} {k : Nat} (hk : k < rs.length) (h : askOk rs[k] = false) : asksOk rs = false := by
  unfold asksOk
  have : rs.all askOk = false := by rw [List.all_eq_false]; exact ⟨rs[k], List.getElem_mem hk, by rw [h]; decide⟩
  rw [this]; rfl
theorem asks_end {rs : List Require} {k : Nat} (hk : rs.length ≤ k) (h : ∀ j, (hj : j < rs.length) → j < k → askOk rs[j] = true) : asksOk rs = decide (rs.length ≤ 8) := by
  unfold asksOk
  have : rs.all askOk = true := by
    rw [List.all_eq_true]
    intro x hx
    obtain ⟨j, hj, rfl⟩ := List.mem_iff_getElem.1 hx
    exact h j hj (by omega)
  rw [this]; rfl

set_option maxHeartbeats 3200000 in
theorem refAsks_any (rs : List Require) (ao : Option Addr) (la ca : Nat) (w : World) (hS : SlR (Flat Require.cells) 3 w ao la ca rs) (hm : SmallS rs) :
    Calls Tryd.prog 25 #[.slice ao la ca] w fun e w' => e = .returned (.bool (asksOk rs)) ∧ Below w.heap.size w w' := by
  have ha := hS.hmax; have hac := hS.hcap
  unfold maxLen at ha
  go_enter Tryd.func25, Tryd.ntmps25
  go_wp2_with fail
  go_loopw [7] (fun i wr => ∃ k : Nat, k ≤ la ∧ i = .int .i64 k ∧ Hid (∀ j, (hj : j < rs.length) → j < k → askOk rs[j] = true) ∧ Below w.heap.size w wr) (fun i _ => la - (intOf i).toNat)
  case atStart => exact ⟨0, Nat.zero_le _, rfl, fun j _ h => by omega, Below.refl _ _⟩
  case round =>
    obtain ⟨k, hk, rfl, hg, hb⟩ := hrel
    obtain ⟨wq, rfl⟩ : ∃ wq : World, wq = wr := ⟨_, rfl⟩
    by_cases hlt : k < la
    · obtain ⟨b, off, rfl⟩ := hS.ptr (by decide) (by omega)
      have kx : k < rs.length := by have := hS.hlen; omega
      have hSr := hS.flatKeeps (Keeps.below hb)
      have hc := hSr.flat kx
      have c0 := hc 0 _ rfl
      have c1 := hc 1 _ rfl
      have c2 := hc 2 _ rfl
      rw [Nat.add_zero] at c0
      have hsz := hb.size
      have h1 : Hid (askOk rs[k] = false → asksOk rs = false) := fun h => asks_no kx h
      have h3 : Hid (askOk rs[k] = true → ∀ j, (hj : j < rs.length) → j < k + 1 → askOk rs[j] = true) := fun h j hj hjk => if e : j = k then by subst e; exact h else hg.out j hj (by omega)
      have h4 := hm k kx
      obtain ⟨x, hx⟩ : ∃ x, rs[k] = x := ⟨_, rfl⟩
      rw [hx] at c0 c1 c2 h1 h3 h4
      obtain ⟨key, val, op⟩ := x
      dsimp only at c0 c1 c2 h4
      have Hb := Lib.hid (hb.alloc hsz (.cells #[.string key, .string val, .int .i64 op] 90))
      have HN : Hid (∀ w1, Calls Tryd.prog 10 #[.string key] w1 fun e w' => e = .returned (.bool (nameOf key.data.toList)) ∧ w1 = w') := fun w1 => (refName_any key h4.1 w1).mono fun e w' h => ⟨h.1, h.2.symm⟩
      have HV : Hid (∀ w1, Calls Tryd.prog 10 #[.string val] w1 fun e w' => e = .returned (.bool (nameOf val.data.toList)) ∧ w1 = w') := fun w1 => (refName_any val h4.2 w1).mono fun e w' h => ⟨h.1, h.2.symm⟩
      clear h4
      have HO : Hid (askOk ⟨key, val, op⟩ = ((nameOf key.data.toList && (val.toList.isEmpty || nameOf val.data.toList)) && (decide (op = 0) || (decide (op = 1) || (val.toList.isEmpty && (decide (op = 2) || decide (op = 3))))))) := by
        show _ = _
        unfold askOk okVal
        rcases nameOf key.data.toList with _ | _ <;> rcases nameOf val.data.toList with _ | _ <;> rcases val.toList.isEmpty with _ | _ <;> rw [Bool.eq_iff_iff] <;> simp <;> omega
      obtain ⟨b1, e1⟩ : ∃ b, nameOf key.data.toList = b := ⟨_, rfl⟩
      obtain ⟨b2, e2⟩ : ∃ b, val.toList.isEmpty = b := ⟨_, rfl⟩
      obtain ⟨b3, e3⟩ : ∃ b, nameOf val.data.toList = b := ⟨_, rfl⟩
      rw [e1, e2, e3] at HO
      rw [e1] at HN
      rw [e3] at HV
      clear hc hx hb hg e1 e3 hSr
      have hgood : (b1 && (b2 || b3)) = false ∨ (b1 && (b2 || b3)) = true := by cases (b1 && (b2 || b3)) <;> simp
      rcases hgood with hgood | hgood
      · have hbad := Lib.hid (h1.out (HO.out.trans (by rw [hgood]; rfl)))
        clear h1 h3 HO
        rcases b1 with _ | _
        · go_wp2_with fail
          refine (HN.out _).mono ?_
          rintro e w1 ⟨rfl, rfl⟩
          go_wp2_with fail
          go_ret
          exact ⟨ret_bool hbad.out.symm, Hb.out⟩
        · obtain ⟨rfl, rfl⟩ := and_or_no hgood
          go_wp2_with fail
          refine (HN.out _).mono ?_
          rintro e w1 ⟨rfl, rfl⟩
          go_wp2_with fail
          refine (HV.out _).mono ?_
          rintro e w1 ⟨rfl, rfl⟩
          go_wp2_with fail
          go_ret
          exact ⟨ret_bool hbad.out.symm, Hb.out⟩
      · rw [hgood, Bool.true_and] at HO
        rcases (show op = 0 ∨ op = 1 ∨ op = 2 ∨ op = 3 ∨ (op ≠ 0 ∧ op ≠ 1 ∧ op ≠ 2 ∧ op ≠ 3) by omega) with rfl | rfl | rfl | rfl | ⟨n0, n1, n2, n3⟩
        rotate_right
        · have e0 : (op == 0) = false := beq_eq_false_iff_ne.2 n0
          have e1 : (op == 1) = false := beq_eq_false_iff_ne.2 n1
          have e2' : (op == 2) = false := beq_eq_false_iff_ne.2 n2
          have e3' : (op == 3) = false := beq_eq_false_iff_ne.2 n3
          have hbad := Lib.hid (h1.out (HO.out.trans (by simp [n0, n1, n2, n3])))
          clear h1 h3 HO n0 n1 n2 n3
          obtain ⟨rfl, rfl | ⟨rfl, rfl⟩⟩ := and_or_yes hgood
          · go_wp2_with fail
            refine (HN.out _).mono ?_
            rintro e w1 ⟨rfl, rfl⟩
            go_wp2_with fail
            go_ret
            exact ⟨ret_bool hbad.out.symm, Hb.out⟩
          · go_wp2_with fail
            refine (HN.out _).mono ?_
            rintro e w1 ⟨rfl, rfl⟩
            go_wp2_with fail
            refine (HV.out _).mono ?_
            rintro e w1 ⟨rfl, rfl⟩
            go_wp2_with fail
            go_ret
            exact ⟨ret_bool hbad.out.symm, Hb.out⟩
        · obtain ⟨rfl, rfl | ⟨rfl, rfl⟩⟩ := and_or_yes hgood
          · have H3 := Lib.hid (h3.out (HO.out.trans rfl))
            clear h1 h3 HO
            go_wp2_with fail
            refine (HN.out _).mono ?_
            rintro e w1 ⟨rfl, rfl⟩
            go_wp2_with fail
            go_roundw
            case rel => exact ⟨k + 1, by omega, by go_num, H3.out, Hb.out⟩
            case measure => simp [intOf]; omega
          · have H3 := Lib.hid (h3.out (HO.out.trans rfl))
            clear h1 h3 HO
            go_wp2_with fail
            refine (HN.out _).mono ?_
            rintro e w1 ⟨rfl, rfl⟩
            go_wp2_with fail
            refine (HV.out _).mono ?_
            rintro e w1 ⟨rfl, rfl⟩
            go_wp2_with fail
            go_roundw
            case rel => exact ⟨k + 1, by omega, by go_num, H3.out, Hb.out⟩
            case measure => simp [intOf]; omega
        · obtain ⟨rfl, rfl | ⟨rfl, rfl⟩⟩ := and_or_yes hgood
          · have H3 := Lib.hid (h3.out (HO.out.trans rfl))
            clear h1 h3 HO
            go_wp2_with fail
            refine (HN.out _).mono ?_
            rintro e w1 ⟨rfl, rfl⟩
            go_wp2_with fail
            go_roundw
            case rel => exact ⟨k + 1, by omega, by go_num, H3.out, Hb.out⟩
            case measure => simp [intOf]; omega
          · have H3 := Lib.hid (h3.out (HO.out.trans rfl))
            clear h1 h3 HO
            go_wp2_with fail
            refine (HN.out _).mono ?_
            rintro e w1 ⟨rfl, rfl⟩
            go_wp2_with fail
            refine (HV.out _).mono ?_
            rintro e w1 ⟨rfl, rfl⟩
            go_wp2_with fail
            go_roundw
            case rel => exact ⟨k + 1, by omega, by go_num, H3.out, Hb.out⟩
            case measure => simp [intOf]; omega
        · obtain ⟨rfl, rfl | ⟨rfl, rfl⟩⟩ := and_or_yes hgood
          · have H3 := Lib.hid (h3.out (HO.out.trans rfl))
            clear h1 h3 HO
            go_wp2_with fail
            refine (HN.out _).mono ?_
            rintro e w1 ⟨rfl, rfl⟩
            go_wp2_with fail
            go_roundw
            case rel => exact ⟨k + 1, by omega, by go_num, H3.out, Hb.out⟩
            case measure => simp [intOf]; omega
          · have hbad := Lib.hid (h1.out (HO.out.trans rfl))
            clear h1 h3 HO
            go_wp2_with fail
            refine (HN.out _).mono ?_
            rintro e w1 ⟨rfl, rfl⟩
            go_wp2_with fail
            refine (HV.out _).mono ?_
            rintro e w1 ⟨rfl, rfl⟩
            go_wp2_with fail
            go_ret
            exact ⟨ret_bool hbad.out.symm, Hb.out⟩
        · obtain ⟨rfl, rfl | ⟨rfl, rfl⟩⟩ := and_or_yes hgood
          · have H3 := Lib.hid (h3.out (HO.out.trans rfl))
            clear h1 h3 HO
            go_wp2_with fail
            refine (HN.out _).mono ?_
            rintro e w1 ⟨rfl, rfl⟩
            go_wp2_with fail
            go_roundw
            case rel => exact ⟨k + 1, by omega, by go_num, H3.out, Hb.out⟩
            case measure => simp [intOf]; omega
          · have hbad := Lib.hid (h1.out (HO.out.trans rfl))
            clear h1 h3 HO
            go_wp2_with fail
            refine (HN.out _).mono ?_
            rintro e w1 ⟨rfl, rfl⟩
            go_wp2_with fail
            refine (HV.out _).mono ?_
            rintro e w1 ⟨rfl, rfl⟩
            go_wp2_with fail
            go_ret
            exact ⟨ret_bool hbad.out.symm, Hb.out⟩
    · have Hb := Lib.hid hb
      have He := Lib.hid (asks_end (k := k) (by rw [hS.hlen]; omega) hg.out)
      have Hl : Hid (rs.length = la) := hS.hlen
      clear hb hg
      go_wp2
      all_goals
        go_ret
        exact ⟨ret_bool (by rw [He.out, Hl.out]; simp; omega), Hb.out⟩
end Go.Proofs.YtjncoloedakpoaaDoor
