/- The contracts of label.Asks and the library's ContainsFunc. Condition: the slice reads. || The contracts of the reference's Name, Right and Asks. Condition: texts and rows that fit, the slice reads. -/
import Derived.Test.YtpbppgfogepjeaaRightM
namespace Go.Proofs.Ytpbppgfogepjeaa
open Go.ChangeShapes Go.WideShapes Go.ChangeAt Go.RowKit Go.Deep

theorem idxOf_any {α : Type} (p : α → Bool) : ∀ (xs : List α) (k : Nat), decide (0 ≤ idxOf p xs k) = xs.any p
  | [], _ => by simp [idxOf]
  | x :: xs, k => by
    cases h : p x
    · simp only [idxOf, h, List.any_cons, Bool.false_or]
      exact idxOf_any p xs (k + 1)
    · simp only [idxOf, h, List.any_cons, Bool.true_or, if_true]
      simp


set_option maxHeartbeats 1000000 in
theorem indexFunc_Require (p : Require → Bool) (g : FuncId) (hE : Enters Try.prog g) (caps : Array Value) (xs : List Require) (ao : Option Addr) (la ca : Nat) (w : World) (hS : SlR (Flat Require.cells) 3 w ao la ca xs)
    (hp : ∀ (x : Require) (w1 : World), Below w.heap.size w w1 → Calls Try.prog g (#[.agg x.cells.toArray] ++ caps) w1 fun e w2 => e = .returned (.bool (p x)) ∧ Below w1.heap.size w1 w2) :
    Calls Try.prog 124 #[.slice ao la ca, .func (.func g) #[] caps] w fun e w' => e = .returned (.int .i64 (idxOf p xs 0)) ∧ Below w.heap.size w w' := by
  have ha := hS.hmax; have hac := hS.hcap
  unfold maxLen at ha
  have Hp := Lib.hid hp
  clear hp
  go_enter Try.func124, Try.ntmps124
  go_wp2_with fail
  go_loopw [8] (fun i wr => ∃ k : Nat, k ≤ la ∧ i = .int .i64 k ∧ Hid (idxOf p xs 0 = idxOf p (xs.drop k) k) ∧ Below w.heap.size w wr) (fun i _ => la - (intOf i).toNat)
  case atStart => exact ⟨0, Nat.zero_le _, rfl, rfl, Below.refl _ _⟩
  case round =>
    obtain ⟨k, hk, rfl, hf, hb⟩ := hrel
    by_cases hlt : k < la
    · obtain ⟨b, off, rfl⟩ := hS.ptr (by decide) (by omega)
      have kx : k < xs.length := by have := hS.hlen; omega
      have hc := (hS.flatKeeps (Keeps.below hb)).flat kx
      have Hc := Lib.hid hc
      have Hb := Lib.hid hb
      have Hd := Lib.hid (idxOf_drop p kx)
      clear hc hb
      have hB := Hb.out.size
      go_wp2_with ((with_reducible refine at_slot 15 ?_); go_must (refine wpList_load_at aggRequire rfl _ rfl ⟨b, off + k * 3, none⟩ rfl xs[k].cells rfl (fun j u hu => by rw [Addr.add_lit]; exact Hc.out j u hu) ?_; refine wpList_callv rfl _ _ _ rfl g caps rfl hE [.agg xs[k].cells.toArray] rfl (fun v w2 => v = .bool (p xs[k]) ∧ Below wr.heap.size wr w2) ((Hp.out xs[k] wr Hb.out).mono fun e w2 ⟨h1, h2⟩ => ⟨_, h1, rfl, h2⟩) ?_; intro v w2; rintro ⟨rfl, hb2⟩))
      all_goals have Hb2 := Lib.hid (Hb.out.trans (hb2.mono hB))
      all_goals clear hb2
      · have hp1 : p xs[k] = true := by assumption
        go_ret
        exact ⟨ret_int (by rw [hf.out, Hd.out, if_pos hp1]), Hb2.out⟩
      · have hp1 : p xs[k] = false := by assumption
        go_roundw
        case rel => exact ⟨k + 1, by omega, by go_num, hf.out.trans (by rw [Hd.out, if_neg (by rw [hp1]; decide)]), Hb2.out⟩
        case measure => simp [intOf]; omega
    · have He := Lib.hid (idxOf_end p (xs := xs) (k := k) (by rw [hS.hlen]; omega))
      have Hb := Lib.hid hb
      clear hb
      go_wp2
      go_ret
      exact ⟨ret_int (by rw [hf.out, He.out]), Hb.out⟩

theorem containsFunc_Require (p : Require → Bool) (g : FuncId) (hE : Enters Try.prog g) (caps : Array Value) (xs : List Require) (ao : Option Addr) (la ca : Nat) (w : World) (hS : SlR (Flat Require.cells) 3 w ao la ca xs)
    (hp : ∀ (x : Require) (w1 : World), Below w.heap.size w w1 → Calls Try.prog g (#[.agg x.cells.toArray] ++ caps) w1 fun e w2 => e = .returned (.bool (p x)) ∧ Below w1.heap.size w1 w2) :
    Calls Try.prog 110 #[.slice ao la ca, .func (.func g) #[] caps] w fun e w' => e = .returned (.bool (xs.any p)) ∧ Below w.heap.size w w' := by
  have H := Lib.hid (indexFunc_Require p g hE caps xs ao la ca w hS hp)
  obtain ⟨i, hi⟩ : ∃ i, idxOf p xs 0 = i := ⟨_, rfl⟩
  rw [hi] at H
  have Hi : Hid (decide (0 ≤ i) = xs.any p) := by rw [← hi]; exact idxOf_any p xs 0
  clear hi hp
  go_enter Try.func110, Try.ntmps110
  go_wp2_with fail
  refine H.out.mono ?_
  rintro e w1 ⟨rfl, hb⟩
  have Hb := Lib.hid hb
  clear hb
  go_wp2_with fail
  go_ret
  exact ⟨ret_bool Hi.out, Hb.out⟩


def badAsk (r : Require) : Bool := !askOk r

set_option maxHeartbeats 3200000 in
theorem asks1_any (r : Require) (w : World) :
    Calls Try.prog 111 #[.agg r.cells.toArray] w fun e w' => e = .returned (.bool (badAsk r)) ∧ Below w.heap.size w w' := by
  obtain ⟨key, val, op⟩ := r
  show Calls Try.prog 111 #[.agg #[.string key, .string val, .int .i64 op]] w _
  have HN : Hid (∀ w1, Calls Try.prog 37 #[.string key] w1 fun e w' => e = .returned (.bool (nameOf key.data.toList)) ∧ w' = w1) := fun w1 => (name_any key w1).mono fun e w' h => ⟨h.1, h.2.symm⟩
  have HV : Hid (∀ w1, Calls Try.prog 94 #[.string val] w1 fun e w' => e = .returned (.bool (okVal val)) ∧ w' = w1) := fun w1 => value_any val w1
  have hb := (Below.refl w.heap.size w).alloc (Nat.le_refl _) (.cells #[.string key, .string val, .int .i64 op] 113)
  have Hb := Lib.hid hb
  have HE : Hid (badAsk ⟨key, val, op⟩ = (decide (op < 0) || (decide (3 < op) || (!nameOf key.data.toList || (!okVal val || (decide (2 ≤ op) && !val.toList.isEmpty)))))) := by
    show _ = _
    unfold badAsk askOk
    rcases nameOf key.data.toList with _ | _ <;> rcases okVal val with _ | _ <;> rcases val.toList.isEmpty with _ | _ <;> rw [Bool.eq_iff_iff] <;> simp <;> omega
  obtain ⟨b1, h1⟩ : ∃ b, decide (op < 0) = b := ⟨_, rfl⟩
  obtain ⟨b2, h2⟩ : ∃ b, decide (3 < op) = b := ⟨_, rfl⟩
  obtain ⟨b3, h3⟩ : ∃ b, nameOf key.data.toList = b := ⟨_, rfl⟩
  obtain ⟨b4, h4⟩ : ∃ b, okVal val = b := ⟨_, rfl⟩
  obtain ⟨b5, h5⟩ : ∃ b, decide (2 ≤ op) = b := ⟨_, rfl⟩
  obtain ⟨b6, h6⟩ : ∃ b, val.toList.isEmpty = b := ⟨_, rfl⟩
  rw [h3] at HN HE
  rw [h4] at HV HE
  rw [h1, h2, h5, h6] at HE
  clear hb h3 h4
  rcases b1 with _ | _
  rotate_left
  · go_enter Try.func111, Try.ntmps111
    go_wp2_with (first | (go_at_call 37; refine (HN.out _).mono ?_; rintro e w1 ⟨rfl, rfl⟩) | (go_at_call 94; refine (HV.out _).mono ?_; rintro e w1 ⟨rfl, rfl⟩))
    go_ret
    exact ⟨ret_bool HE.out.symm, Hb.out⟩
  · skip
    rcases b2 with _ | _
    rotate_left
    · go_enter Try.func111, Try.ntmps111
      go_wp2_with (first | (go_at_call 37; refine (HN.out _).mono ?_; rintro e w1 ⟨rfl, rfl⟩) | (go_at_call 94; refine (HV.out _).mono ?_; rintro e w1 ⟨rfl, rfl⟩))
      go_ret
      exact ⟨ret_bool HE.out.symm, Hb.out⟩
    · skip
      rcases b3 with _ | _
      · go_enter Try.func111, Try.ntmps111
        go_wp2_with (first | (go_at_call 37; refine (HN.out _).mono ?_; rintro e w1 ⟨rfl, rfl⟩) | (go_at_call 94; refine (HV.out _).mono ?_; rintro e w1 ⟨rfl, rfl⟩))
        go_ret
        exact ⟨ret_bool HE.out.symm, Hb.out⟩
      · skip
        rcases b4 with _ | _
        · go_enter Try.func111, Try.ntmps111
          go_wp2_with (first | (go_at_call 37; refine (HN.out _).mono ?_; rintro e w1 ⟨rfl, rfl⟩) | (go_at_call 94; refine (HV.out _).mono ?_; rintro e w1 ⟨rfl, rfl⟩))
          go_ret
          exact ⟨ret_bool HE.out.symm, Hb.out⟩
        · skip
          rcases b5 with _ | _
          · go_enter Try.func111, Try.ntmps111
            go_wp2_with (first | (go_at_call 37; refine (HN.out _).mono ?_; rintro e w1 ⟨rfl, rfl⟩) | (go_at_call 94; refine (HV.out _).mono ?_; rintro e w1 ⟨rfl, rfl⟩))
            go_ret
            exact ⟨ret_bool HE.out.symm, Hb.out⟩
          · skip
            rcases b6 with _ | _
            · go_enter Try.func111, Try.ntmps111
              go_wp2_with (first | (go_at_call 37; refine (HN.out _).mono ?_; rintro e w1 ⟨rfl, rfl⟩) | (go_at_call 94; refine (HV.out _).mono ?_; rintro e w1 ⟨rfl, rfl⟩))
              go_ret
              exact ⟨ret_bool HE.out.symm, Hb.out⟩
            · skip
              go_enter Try.func111, Try.ntmps111
              go_wp2_with (first | (go_at_call 37; refine (HN.out _).mono ?_; rintro e w1 ⟨rfl, rfl⟩) | (go_at_call 94; refine (HV.out _).mono ?_; rintro e w1 ⟨rfl, rfl⟩))
              go_ret
              exact ⟨ret_bool HE.out.symm, Hb.out⟩
theorem enters_asks1 : Enters Try.prog 111 := fun args w => by kernel_rfl

theorem asks_any (rs : List Require) (ao : Option Addr) (la ca : Nat) (w : World) (hS : SlR (Flat Require.cells) 3 w ao la ca rs) :
    Calls Try.prog 92 #[.slice ao la ca] w fun e w' => e = .returned (.bool (asksOk rs)) ∧ Below w.heap.size w w' := by
  have ha := hS.hmax; have hac := hS.hcap
  unfold maxLen at ha
  have H := Lib.hid (containsFunc_Require badAsk _ enters_asks1 #[] rs ao la ca w hS (fun x w1 _ => asks1_any x w1))
  have Hl : Hid (rs.length = la) := hS.hlen
  obtain ⟨i, hi⟩ : ∃ i, rs.any badAsk = i := ⟨_, rfl⟩
  rw [hi] at H
  have Hi : Hid ((!i) = rs.all askOk) := by
    show _ = _
    rw [← hi, List.not_any_eq_all_not]
    congr 1
    funext r
    simp [badAsk]
  clear hi hS
  cases i
  all_goals
    go_enter Try.func92, Try.ntmps92
    go_wp2_with fail
    refine H.out.mono ?_
    rintro e w1 ⟨rfl, hb⟩
    have Hb := Lib.hid hb
    clear hb
    go_wp2_with fail
    all_goals
      go_ret
      exact ⟨ret_bool (by unfold asksOk; rw [← Hi.out, Hl.out]; simp; try omega), Hb.out⟩
end Go.Proofs.Ytpbppgfogepjeaa
namespace Go.Proofs.Ytpbppgfogepjeaa
open Go.ChangeShapes Go.WideShapes Go.ChangeAt Go.RowKit Go.Deep

def SmallL (xs : List Label) : Prop := ∀ k, (h : k < xs.length) → xs[k].key.size ≤ maxLen ∧ xs[k].val.size ≤ maxLen
def SmallS (xs : List Require) : Prop := ∀ k, (h : k < xs.length) → xs[k].key.size ≤ maxLen ∧ xs[k].val.size ≤ maxLen
end Go.Proofs.Ytpbppgfogepjeaa
