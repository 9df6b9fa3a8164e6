/- The contracts of proposal.right and of the check of uses in proposal.Row. Condition: the slice reads. -/
import Derived.Test.YtojealgjfbjnoaaProp2
import Derived.Test.YtojealgjfbjnoaaSplit
namespace Go.Proofs.Ytojealgjfbjnoaa
open Go.ChangeShapes Go.WideShapes Go.ChangeAt Go.RowKit Go.Deep


set_option maxHeartbeats 1000000 in
theorem indexFunc_UseI (p : UseI → Bool) (g : FuncId) (hE : Enters Try.prog g) (caps : Array Value) (xs : List UseI) (ao : Option Addr) (la ca : Nat) (w : World) (hS : SlR (Flat UseI.cells) 5 w ao la ca xs)
    (hp : ∀ (x : UseI) (w1 : World), Below w.heap.size w w1 → Calls Try.prog g (#[.agg x.cells.toArray] ++ caps) w1 fun e w2 => e = .returned (.bool (p x)) ∧ Below w1.heap.size w1 w2) :
    Calls Try.prog 37 #[.slice ao la ca, .func (.func g) #[] caps] w fun e w' => e = .returned (.int .i64 (idxOf p xs 0)) ∧ Below w.heap.size w w' := by
  have ha := hS.hmax; have hac := hS.hcap
  unfold maxLen at ha
  have Hp := Lib.hid hp
  clear hp
  go_enter Try.func37, Try.ntmps37
  go_wp2_with fail
  go_loopw [8] (fun i wr => ∃ k : Nat, k ≤ la ∧ i = .int .i64 k ∧ Hid (idxOf p xs 0 = idxOf p (xs.drop k) k) ∧ Below w.heap.size w wr) (fun i _ => la - (intOf i).toNat)
  case atStart => exact ⟨0, Nat.zero_le _, rfl, rfl, Below.refl _ _⟩
  case round =>
    obtain ⟨k, hk, rfl, hf, hb⟩ := hrel
    by_cases hlt : k < la
    · obtain ⟨b, off, rfl⟩ := hS.ptr (by decide) (by omega)
      have kx : k < xs.length := by have := hS.hlen; omega
      have hc := (hS.flatKeeps (Keeps.below hb)).flat kx
      have Hc := Lib.hid hc
      have Hb := Lib.hid hb
      have Hd := Lib.hid (idxOf_drop p kx)
      clear hc hb
      have hB := Hb.out.size
      go_wp2_with ((with_reducible refine at_slot 15 ?_); go_must (refine wpList_load_at aggUse rfl _ rfl ⟨b, off + k * 5, none⟩ rfl xs[k].cells rfl (fun j u hu => by rw [Addr.add_lit]; exact Hc.out j u hu) ?_; refine wpList_callv rfl _ _ _ rfl g caps rfl hE [.agg xs[k].cells.toArray] rfl (fun v w2 => v = .bool (p xs[k]) ∧ Below wr.heap.size wr w2) ((Hp.out xs[k] wr Hb.out).mono fun e w2 ⟨h1, h2⟩ => ⟨_, h1, rfl, h2⟩) ?_; intro v w2; rintro ⟨rfl, hb2⟩))
      all_goals have Hb2 := Lib.hid (Hb.out.trans (hb2.mono hB))
      all_goals clear hb2
      · have hp1 : p xs[k] = true := by assumption
        go_ret
        exact ⟨ret_int (by rw [hf.out, Hd.out, if_pos hp1]), Hb2.out⟩
      · have hp1 : p xs[k] = false := by assumption
        go_roundw
        case rel => exact ⟨k + 1, by omega, by go_num, hf.out.trans (by rw [Hd.out, if_neg (by rw [hp1]; decide)]), Hb2.out⟩
        case measure => simp [intOf]; omega
    · have He := Lib.hid (idxOf_end p (xs := xs) (k := k) (by rw [hS.hlen]; omega))
      have Hb := Lib.hid hb
      clear hb
      go_wp2
      go_ret
      exact ⟨ret_int (by rw [hf.out, He.out]), Hb.out⟩


theorem idxOf_any {α : Type} (p : α → Bool) : ∀ (xs : List α) (k : Nat), decide (0 ≤ idxOf p xs k) = xs.any p
  | [], _ => by simp [idxOf]
  | x :: xs, k => by
    cases h : p x
    · simp only [idxOf, h, List.any_cons, Bool.false_or]
      exact idxOf_any p xs (k + 1)
    · simp only [idxOf, h, List.any_cons, Bool.true_or, if_true]
      simp

theorem containsFunc_UseI (p : UseI → Bool) (g : FuncId) (hE : Enters Try.prog g) (caps : Array Value) (xs : List UseI) (ao : Option Addr) (la ca : Nat) (w : World) (hS : SlR (Flat UseI.cells) 5 w ao la ca xs)
    (hp : ∀ (x : UseI) (w1 : World), Below w.heap.size w w1 → Calls Try.prog g (#[.agg x.cells.toArray] ++ caps) w1 fun e w2 => e = .returned (.bool (p x)) ∧ Below w1.heap.size w1 w2) :
    Calls Try.prog 15 #[.slice ao la ca, .func (.func g) #[] caps] w fun e w' => e = .returned (.bool (xs.any p)) ∧ Below w.heap.size w w' := by
  have H := Lib.hid (indexFunc_UseI p g hE caps xs ao la ca w hS hp)
  obtain ⟨i, hi⟩ : ∃ i, idxOf p xs 0 = i := ⟨_, rfl⟩
  rw [hi] at H
  have Hi : Hid (decide (0 ≤ i) = xs.any p) := by rw [← hi]; exact idxOf_any p xs 0
  clear hi hp
  go_enter Try.func15, Try.ntmps15
  go_wp2_with fail
  refine H.out.mono ?_
  rintro e w1 ⟨rfl, hb⟩
  have Hb := Lib.hid hb
  clear hb
  go_wp2_with fail
  go_ret
  exact ⟨ret_bool Hi.out, Hb.out⟩

def badUse (x : UseI) : Bool := !okQ x.ask || !okQ x.use

set_option maxRecDepth 100000 in
set_option maxHeartbeats 3200000 in
theorem row1_any (x : UseI) (w : World)  :
    Calls Try.prog 16 #[.agg #[.string x.pod, .bool x.ready, .bool x.has, .int .i64 x.ask, .int .i64 x.use]] w fun e w' => e = .returned (.bool (badUse x)) ∧ Below w.heap.size w w' := by
  have Hb : Hid (Below w.heap.size w (w.alloc (.cells #[.string x.pod, .bool x.ready, .bool x.has, .int .i64 x.ask, .int .i64 x.use] 51))) := (Below.refl w.heap.size w).alloc (Nat.le_refl _) _
  have k0 : (w.alloc (.cells #[.string x.pod, .bool x.ready, .bool x.has, .int .i64 x.ask, .int .i64 x.use] 51)).cell? ⟨w.heap.size, 0, none⟩ = some (.string x.pod) := cell_new w _ _ 0
  have k1 : (w.alloc (.cells #[.string x.pod, .bool x.ready, .bool x.has, .int .i64 x.ask, .int .i64 x.use] 51)).cell? ⟨w.heap.size, 1, none⟩ = some (.bool x.ready) := cell_new w _ _ 1
  have k2 : (w.alloc (.cells #[.string x.pod, .bool x.ready, .bool x.has, .int .i64 x.ask, .int .i64 x.use] 51)).cell? ⟨w.heap.size, 2, none⟩ = some (.bool x.has) := cell_new w _ _ 2
  have k3 : (w.alloc (.cells #[.string x.pod, .bool x.ready, .bool x.has, .int .i64 x.ask, .int .i64 x.use] 51)).cell? ⟨w.heap.size, 3, none⟩ = some (.int .i64 x.ask) := cell_new w _ _ 3
  have k4 : (w.alloc (.cells #[.string x.pod, .bool x.ready, .bool x.has, .int .i64 x.ask, .int .i64 x.use] 51)).cell? ⟨w.heap.size, 4, none⟩ = some (.int .i64 x.use) := cell_new w _ _ 4
  have HE : Hid ((badUse x) = (!okQ x.ask || !okQ x.use)) := by
    show _ = _
    rfl
  have H_b1 : Hid (∀ w1, Below w.heap.size w w1 → Calls Try.prog 17 #[.int .i64 x.ask] w1 fun e w' => e = .returned (.bool (okQ x.ask)) ∧ Below w1.heap.size w1 w') := fun w1 hb => (qright_any x.ask w1).mono fun e w' h => ⟨h.1, h.2 ▸ Below.refl _ _⟩
  have H_b2 : Hid (∀ w1, Below w.heap.size w w1 → Calls Try.prog 17 #[.int .i64 x.use] w1 fun e w' => e = .returned (.bool (okQ x.use)) ∧ Below w1.heap.size w1 w') := fun w1 hb => (qright_any x.use w1).mono fun e w' h => ⟨h.1, h.2 ▸ Below.refl _ _⟩
  obtain ⟨b1, h_b1⟩ : ∃ b, (okQ x.ask) = b := ⟨_, rfl⟩
  rw [h_b1] at HE H_b1
  obtain ⟨b2, h_b2⟩ : ∃ b, (okQ x.use) = b := ⟨_, rfl⟩
  rw [h_b2] at HE H_b2
  clear h_b1 h_b2
  rcases b1 with _ | _
  · go_enter Try.func16, Try.ntmps16
    go_wp2_with fail
    refine (H_b1.out _ Hb.out).mono ?_
    rintro e wb1 ⟨rfl, hb⟩
    replace k0 := Below.cell_some hb k0
    replace k1 := Below.cell_some hb k1
    replace k2 := Below.cell_some hb k2
    replace k3 := Below.cell_some hb k3
    replace k4 := Below.cell_some hb k4
    replace Hb := Lib.hid (Hb.out.trans (hb.mono Hb.out.size))
    clear hb
    go_wp2_with fail
    go_ret
    exact ⟨ret_bool HE.out.symm, Hb.out⟩
  · go_enter Try.func16, Try.ntmps16
    go_wp2_with fail
    refine (H_b1.out _ Hb.out).mono ?_
    rintro e wb1 ⟨rfl, hb⟩
    replace k0 := Below.cell_some hb k0
    replace k1 := Below.cell_some hb k1
    replace k2 := Below.cell_some hb k2
    replace k3 := Below.cell_some hb k3
    replace k4 := Below.cell_some hb k4
    replace Hb := Lib.hid (Hb.out.trans (hb.mono Hb.out.size))
    clear hb
    go_wp2_with fail
    refine (H_b2.out _ Hb.out).mono ?_
    rintro e wb2 ⟨rfl, hb⟩
    replace k0 := Below.cell_some hb k0
    replace k1 := Below.cell_some hb k1
    replace k2 := Below.cell_some hb k2
    replace k3 := Below.cell_some hb k3
    replace k4 := Below.cell_some hb k4
    replace Hb := Lib.hid (Hb.out.trans (hb.mono Hb.out.size))
    clear hb
    go_wp2_with fail
    go_ret
    exact ⟨ret_bool HE.out.symm, Hb.out⟩

theorem enters_row1 : Enters Try.prog 16 := fun args w => by kernel_rfl

def rightP (target rep tol : Int) : Bool := decide (0 ≤ rep) && (decide (rep ≤ 1000000) && (decide (0 ≤ tol) && (decide (tol ≤ 1000) && (okQ target && decide (0 < target)))))

set_option maxRecDepth 100000 in
set_option maxHeartbeats 3200000 in
theorem right_any (kind target rep tol : Int) (nm : ByteArray) (w : World)  :
    Calls Try.prog 18 #[.agg #[.int .i64 kind, .string nm, .int .i64 target], .int .i64 rep, .int .i64 tol] w fun e w' => e = .returned (.bool (rightP target rep tol)) ∧ Below w.heap.size w w' := by
  have Hb : Hid (Below w.heap.size w (w.alloc (.cells #[.int .i64 kind, .string nm, .int .i64 target] 27))) := (Below.refl w.heap.size w).alloc (Nat.le_refl _) _
  have k0 : (w.alloc (.cells #[.int .i64 kind, .string nm, .int .i64 target] 27)).cell? ⟨w.heap.size, 0, none⟩ = some (.int .i64 kind) := cell_new w _ _ 0
  have k1 : (w.alloc (.cells #[.int .i64 kind, .string nm, .int .i64 target] 27)).cell? ⟨w.heap.size, 1, none⟩ = some (.string nm) := cell_new w _ _ 1
  have k2 : (w.alloc (.cells #[.int .i64 kind, .string nm, .int .i64 target] 27)).cell? ⟨w.heap.size, 2, none⟩ = some (.int .i64 target) := cell_new w _ _ 2
  have HE : Hid ((rightP target rep tol) = (decide (0 ≤ rep) && (decide (rep ≤ 1000000) && (decide (0 ≤ tol) && (decide (tol ≤ 1000) && (okQ target && decide (0 < target))))))) := by
    show _ = _
    rfl
  have H_b5 : Hid (∀ w1, Below w.heap.size w w1 → Calls Try.prog 17 #[.int .i64 target] w1 fun e w' => e = .returned (.bool (okQ target)) ∧ Below w1.heap.size w1 w') := fun w1 hb => (qright_any target w1).mono fun e w' h => ⟨h.1, h.2 ▸ Below.refl _ _⟩
  obtain ⟨b1, h_b1⟩ : ∃ b, (decide (0 ≤ rep)) = b := ⟨_, rfl⟩
  rw [h_b1] at HE
  obtain ⟨b2, h_b2⟩ : ∃ b, (decide (rep ≤ 1000000)) = b := ⟨_, rfl⟩
  rw [h_b2] at HE
  obtain ⟨b3, h_b3⟩ : ∃ b, (decide (0 ≤ tol)) = b := ⟨_, rfl⟩
  rw [h_b3] at HE
  obtain ⟨b4, h_b4⟩ : ∃ b, (decide (tol ≤ 1000)) = b := ⟨_, rfl⟩
  rw [h_b4] at HE
  obtain ⟨b5, h_b5⟩ : ∃ b, (okQ target) = b := ⟨_, rfl⟩
  rw [h_b5] at HE H_b5
  obtain ⟨b6, h_b6⟩ : ∃ b, (decide (0 < target)) = b := ⟨_, rfl⟩
  rw [h_b6] at HE
  clear h_b5
  rcases b1 with _ | _
  · go_enter Try.func18, Try.ntmps18
    go_wp2_with fail
    go_ret
    exact ⟨ret_bool HE.out.symm, Hb.out⟩
  · rcases b2 with _ | _
    · go_enter Try.func18, Try.ntmps18
      go_wp2_with fail
      go_ret
      exact ⟨ret_bool HE.out.symm, Hb.out⟩
    · rcases b3 with _ | _
      · go_enter Try.func18, Try.ntmps18
        go_wp2_with fail
        go_ret
        exact ⟨ret_bool HE.out.symm, Hb.out⟩
      · rcases b4 with _ | _
        · go_enter Try.func18, Try.ntmps18
          go_wp2_with fail
          go_ret
          exact ⟨ret_bool HE.out.symm, Hb.out⟩
        · rcases b5 with _ | _
          · go_enter Try.func18, Try.ntmps18
            go_wp2_with fail
            refine (H_b5.out _ Hb.out).mono ?_
            rintro e wb5 ⟨rfl, hb⟩
            replace k0 := Below.cell_some hb k0
            replace k1 := Below.cell_some hb k1
            replace k2 := Below.cell_some hb k2
            replace Hb := Lib.hid (Hb.out.trans (hb.mono Hb.out.size))
            clear hb
            go_wp2_with fail
            go_ret
            exact ⟨ret_bool HE.out.symm, Hb.out⟩
          · go_enter Try.func18, Try.ntmps18
            go_wp2_with fail
            refine (H_b5.out _ Hb.out).mono ?_
            rintro e wb5 ⟨rfl, hb⟩
            replace k0 := Below.cell_some hb k0
            replace k1 := Below.cell_some hb k1
            replace k2 := Below.cell_some hb k2
            replace Hb := Lib.hid (Hb.out.trans (hb.mono Hb.out.size))
            clear hb
            go_wp2_with fail
            go_ret
            exact ⟨ret_bool HE.out.symm, Hb.out⟩

end Go.Proofs.Ytojealgjfbjnoaa
