/- The contracts of valid's past and hpa. Condition: the slices read. -/
import Derived.Test.YtpbppgfogepjeaaValid2
namespace Go.Proofs.Ytpbppgfogepjeaa
open Go.ChangeShapes Go.WideShapes Go.ChangeAt Go.RowKit Go.Deep

theorem pastFrom_drop {l : List Scaled} {k : Nat} (h : k < l.length) (last : Int) : pastFrom last (l.drop k) = ((btw l[k].at_ last 4611686018427387904 && (btw l[k].from_ 0 1000000 && btw l[k].to_ 0 1000000)) && pastFrom l[k].at_ (l.drop (k + 1))) := by
  rw [List.drop_eq_getElem_cons h, pastFrom]

set_option maxHeartbeats 3200000 in
theorem past_any (xs : List Scaled) (ao : Option Addr) (la ca : Nat) (w : World) (hS : SlR (Flat Scaled.cells) 3 w ao la ca xs) :
    Calls Try.prog 74 #[.slice ao la ca] w fun e w' => e = .returned (.bool (pastOk xs)) ∧ Below w.heap.size w w' := by
  have ha := hS.hmax; have hac := hS.hcap
  unfold maxLen at ha
  go_enter Try.func74, Try.ntmps74
  go_wp2_with fail
  go_loopw [3, 8] (fun l i wr => ∃ (k : Nat) (last : Int), k ≤ la ∧ i = .int .i64 k ∧ l = .int .i64 last ∧ Hid (pastFrom 0 xs = pastFrom last (xs.drop k)) ∧ Below w.heap.size w wr) (fun _ i _ => la - (intOf i).toNat)
  case atStart => exact ⟨0, 0, Nat.zero_le _, rfl, rfl, rfl, Below.refl _ _⟩
  case round =>
    obtain ⟨k, last, hk, rfl, rfl, hg, hb⟩ := hrel
    obtain ⟨wq, rfl⟩ : ∃ wq : World, wq = wr := ⟨_, rfl⟩
    by_cases hlt : k < la
    · obtain ⟨b, off, rfl⟩ := hS.ptr (by decide) (by omega)
      have kx : k < xs.length := by have := hS.hlen; omega
      have hc := (hS.flatKeeps (Keeps.below hb)).flat kx
      have c0 := hc 0 _ rfl
      have c1 := hc 1 _ rfl
      have c2 := hc 2 _ rfl
      rw [Nat.add_zero] at c0
      have hsz := hb.size
      have HE : Hid (pastFrom 0 xs = ((btw xs[k].at_ last 4611686018427387904 && (btw xs[k].from_ 0 1000000 && btw xs[k].to_ 0 1000000)) && pastFrom xs[k].at_ (xs.drop (k + 1)))) := hg.out.trans (pastFrom_drop kx last)
      obtain ⟨x, hx⟩ : ∃ x, xs[k] = x := ⟨_, rfl⟩
      rw [hx] at c0 c1 c2 HE
      obtain ⟨a, f, t⟩ := x
      dsimp only at c0 c1 c2 HE
      have Hb := Lib.hid (hb.alloc hsz (.cells #[.int .i64 a, .int .i64 f, .int .i64 t] 87))
      have HA : Hid (∀ w1, Calls Try.prog 68 #[.int .i64 a, .int .i64 last, .int .i64 4611686018427387904] w1 fun e w' => e = .returned (.bool (btw a last 4611686018427387904)) ∧ Below w1.heap.size w1 w') := fun w1 => btw_int64 a last 4611686018427387904 w1
      have HF : Hid (∀ w1, Calls Try.prog 65 #[.int .i64 f, .int .i64 0, .int .i64 1000000] w1 fun e w' => e = .returned (.bool (btw f 0 1000000)) ∧ Below w1.heap.size w1 w') := fun w1 => btw_int f 0 1000000 w1
      have HT : Hid (∀ w1, Calls Try.prog 65 #[.int .i64 t, .int .i64 0, .int .i64 1000000] w1 fun e w' => e = .returned (.bool (btw t 0 1000000)) ∧ Below w1.heap.size w1 w') := fun w1 => btw_int t 0 1000000 w1
      have k0 : (wq.alloc (.cells #[.int .i64 a, .int .i64 f, .int .i64 t] 87)).cell? ⟨wq.heap.size, 0, none⟩ = some (.int .i64 a) := cell_new wq _ _ 0
      have k1 : (wq.alloc (.cells #[.int .i64 a, .int .i64 f, .int .i64 t] 87)).cell? ⟨wq.heap.size, 1, none⟩ = some (.int .i64 f) := cell_new wq _ _ 1
      have k2 : (wq.alloc (.cells #[.int .i64 a, .int .i64 f, .int .i64 t] 87)).cell? ⟨wq.heap.size, 2, none⟩ = some (.int .i64 t) := cell_new wq _ _ 2
      obtain ⟨b1, h1⟩ : ∃ b, btw a last 4611686018427387904 = b := ⟨_, rfl⟩
      obtain ⟨b2, h2⟩ : ∃ b, btw f 0 1000000 = b := ⟨_, rfl⟩
      obtain ⟨b3, h3⟩ : ∃ b, btw t 0 1000000 = b := ⟨_, rfl⟩
      rw [h1, h2, h3] at HE
      rw [h1] at HA
      rw [h2] at HF
      rw [h3] at HT
      clear h1 h2 h3 hc hx hb hg

      rcases b1 with _ | _
      · go_wp2_with fail
        refine (HA.out _).mono ?_
        rintro e wA ⟨rfl, hb⟩
        replace k0 := Below.cell_some hb k0
        replace k1 := Below.cell_some hb k1
        replace k2 := Below.cell_some hb k2
        replace Hb := Lib.hid (Hb.out.trans (hb.mono Hb.out.size))
        clear hb
        go_wp2_with fail
        go_ret
        exact ⟨ret_bool (by unfold pastOk; rw [HE.out]; rfl), Hb.out⟩
      · skip
        rcases b2 with _ | _
        · go_wp2_with fail
          refine (HA.out _).mono ?_
          rintro e wA ⟨rfl, hb⟩
          replace k0 := Below.cell_some hb k0
          replace k1 := Below.cell_some hb k1
          replace k2 := Below.cell_some hb k2
          replace Hb := Lib.hid (Hb.out.trans (hb.mono Hb.out.size))
          clear hb
          go_wp2_with fail
          refine (HF.out _).mono ?_
          rintro e wF ⟨rfl, hb⟩
          replace k0 := Below.cell_some hb k0
          replace k1 := Below.cell_some hb k1
          replace k2 := Below.cell_some hb k2
          replace Hb := Lib.hid (Hb.out.trans (hb.mono Hb.out.size))
          clear hb
          go_wp2_with fail
          go_ret
          exact ⟨ret_bool (by unfold pastOk; rw [HE.out]; rfl), Hb.out⟩
        · skip
          rcases b3 with _ | _
          · go_wp2_with fail
            refine (HA.out _).mono ?_
            rintro e wA ⟨rfl, hb⟩
            replace k0 := Below.cell_some hb k0
            replace k1 := Below.cell_some hb k1
            replace k2 := Below.cell_some hb k2
            replace Hb := Lib.hid (Hb.out.trans (hb.mono Hb.out.size))
            clear hb
            go_wp2_with fail
            refine (HF.out _).mono ?_
            rintro e wF ⟨rfl, hb⟩
            replace k0 := Below.cell_some hb k0
            replace k1 := Below.cell_some hb k1
            replace k2 := Below.cell_some hb k2
            replace Hb := Lib.hid (Hb.out.trans (hb.mono Hb.out.size))
            clear hb
            go_wp2_with fail
            refine (HT.out _).mono ?_
            rintro e wT ⟨rfl, hb⟩
            replace k0 := Below.cell_some hb k0
            replace k1 := Below.cell_some hb k1
            replace k2 := Below.cell_some hb k2
            replace Hb := Lib.hid (Hb.out.trans (hb.mono Hb.out.size))
            clear hb
            go_wp2_with fail
            go_ret
            exact ⟨ret_bool (by unfold pastOk; rw [HE.out]; rfl), Hb.out⟩
          · skip
            go_wp2_with fail
            refine (HA.out _).mono ?_
            rintro e wA ⟨rfl, hb⟩
            replace k0 := Below.cell_some hb k0
            replace k1 := Below.cell_some hb k1
            replace k2 := Below.cell_some hb k2
            replace Hb := Lib.hid (Hb.out.trans (hb.mono Hb.out.size))
            clear hb
            go_wp2_with fail
            refine (HF.out _).mono ?_
            rintro e wF ⟨rfl, hb⟩
            replace k0 := Below.cell_some hb k0
            replace k1 := Below.cell_some hb k1
            replace k2 := Below.cell_some hb k2
            replace Hb := Lib.hid (Hb.out.trans (hb.mono Hb.out.size))
            clear hb
            go_wp2_with fail
            refine (HT.out _).mono ?_
            rintro e wT ⟨rfl, hb⟩
            replace k0 := Below.cell_some hb k0
            replace k1 := Below.cell_some hb k1
            replace k2 := Below.cell_some hb k2
            replace Hb := Lib.hid (Hb.out.trans (hb.mono Hb.out.size))
            clear hb
            go_wp2_with fail
            go_roundw
            case rel => exact ⟨k + 1, a, by omega, by go_num, rfl, HE.out, Hb.out⟩
            case measure => simp [intOf]; omega
    · have Hb := Lib.hid hb
      have He : Hid (pastFrom 0 xs = true) := by show _ = _; rw [hg.out, List.drop_eq_nil_of_le (by rw [hS.hlen]; omega)]; rfl
      have Hl : Hid (xs.length = la) := hS.hlen
      clear hb hg
      go_wp2
      all_goals
        go_ret
        exact ⟨ret_bool (by unfold pastOk; rw [He.out, Hl.out]; simp; omega), Hb.out⟩

set_option maxRecDepth 100000 in
set_option maxHeartbeats 3200000 in
theorem hpa_any (x : HpaV) (w : World) (h : HpaAt w x) :
    Calls Try.prog 36 #[.agg #[.string x.target, .int .i64 x.min, .int .i64 x.max, .slice x.M.ao x.M.la x.M.ca, .int .i64 x.tol, .int .i64 x.up.win, .int .i64 x.up.pick, .slice x.up.P.ao x.up.P.la x.up.P.ca, .int .i64 x.down.win, .int .i64 x.down.pick, .slice x.down.P.ao x.down.P.la x.down.P.ca, .slice x.past.ao x.past.la x.past.ca]] w fun e w' => e = .returned (.bool (hpaOk x)) ∧ Below w.heap.size w w' := by
  have Hb : Hid (Below w.heap.size w (w.alloc (.cells #[.string x.target, .int .i64 x.min, .int .i64 x.max, .slice x.M.ao x.M.la x.M.ca, .int .i64 x.tol, .int .i64 x.up.win, .int .i64 x.up.pick, .slice x.up.P.ao x.up.P.la x.up.P.ca, .int .i64 x.down.win, .int .i64 x.down.pick, .slice x.down.P.ao x.down.P.la x.down.P.ca, .slice x.past.ao x.past.la x.past.ca] 42))) := (Below.refl w.heap.size w).alloc (Nat.le_refl _) _
  have k0 : (w.alloc (.cells #[.string x.target, .int .i64 x.min, .int .i64 x.max, .slice x.M.ao x.M.la x.M.ca, .int .i64 x.tol, .int .i64 x.up.win, .int .i64 x.up.pick, .slice x.up.P.ao x.up.P.la x.up.P.ca, .int .i64 x.down.win, .int .i64 x.down.pick, .slice x.down.P.ao x.down.P.la x.down.P.ca, .slice x.past.ao x.past.la x.past.ca] 42)).cell? ⟨w.heap.size, 0, none⟩ = some (.string x.target) := cell_new w _ _ 0
  have k1 : (w.alloc (.cells #[.string x.target, .int .i64 x.min, .int .i64 x.max, .slice x.M.ao x.M.la x.M.ca, .int .i64 x.tol, .int .i64 x.up.win, .int .i64 x.up.pick, .slice x.up.P.ao x.up.P.la x.up.P.ca, .int .i64 x.down.win, .int .i64 x.down.pick, .slice x.down.P.ao x.down.P.la x.down.P.ca, .slice x.past.ao x.past.la x.past.ca] 42)).cell? ⟨w.heap.size, 1, none⟩ = some (.int .i64 x.min) := cell_new w _ _ 1
  have k2 : (w.alloc (.cells #[.string x.target, .int .i64 x.min, .int .i64 x.max, .slice x.M.ao x.M.la x.M.ca, .int .i64 x.tol, .int .i64 x.up.win, .int .i64 x.up.pick, .slice x.up.P.ao x.up.P.la x.up.P.ca, .int .i64 x.down.win, .int .i64 x.down.pick, .slice x.down.P.ao x.down.P.la x.down.P.ca, .slice x.past.ao x.past.la x.past.ca] 42)).cell? ⟨w.heap.size, 2, none⟩ = some (.int .i64 x.max) := cell_new w _ _ 2
  have k3 : (w.alloc (.cells #[.string x.target, .int .i64 x.min, .int .i64 x.max, .slice x.M.ao x.M.la x.M.ca, .int .i64 x.tol, .int .i64 x.up.win, .int .i64 x.up.pick, .slice x.up.P.ao x.up.P.la x.up.P.ca, .int .i64 x.down.win, .int .i64 x.down.pick, .slice x.down.P.ao x.down.P.la x.down.P.ca, .slice x.past.ao x.past.la x.past.ca] 42)).cell? ⟨w.heap.size, 3, none⟩ = some (.slice x.M.ao x.M.la x.M.ca) := cell_new w _ _ 3
  have k4 : (w.alloc (.cells #[.string x.target, .int .i64 x.min, .int .i64 x.max, .slice x.M.ao x.M.la x.M.ca, .int .i64 x.tol, .int .i64 x.up.win, .int .i64 x.up.pick, .slice x.up.P.ao x.up.P.la x.up.P.ca, .int .i64 x.down.win, .int .i64 x.down.pick, .slice x.down.P.ao x.down.P.la x.down.P.ca, .slice x.past.ao x.past.la x.past.ca] 42)).cell? ⟨w.heap.size, 4, none⟩ = some (.int .i64 x.tol) := cell_new w _ _ 4
  have k5 : (w.alloc (.cells #[.string x.target, .int .i64 x.min, .int .i64 x.max, .slice x.M.ao x.M.la x.M.ca, .int .i64 x.tol, .int .i64 x.up.win, .int .i64 x.up.pick, .slice x.up.P.ao x.up.P.la x.up.P.ca, .int .i64 x.down.win, .int .i64 x.down.pick, .slice x.down.P.ao x.down.P.la x.down.P.ca, .slice x.past.ao x.past.la x.past.ca] 42)).cell? ⟨w.heap.size, 5, none⟩ = some (.int .i64 x.up.win) := cell_new w _ _ 5
  have k6 : (w.alloc (.cells #[.string x.target, .int .i64 x.min, .int .i64 x.max, .slice x.M.ao x.M.la x.M.ca, .int .i64 x.tol, .int .i64 x.up.win, .int .i64 x.up.pick, .slice x.up.P.ao x.up.P.la x.up.P.ca, .int .i64 x.down.win, .int .i64 x.down.pick, .slice x.down.P.ao x.down.P.la x.down.P.ca, .slice x.past.ao x.past.la x.past.ca] 42)).cell? ⟨w.heap.size, 6, none⟩ = some (.int .i64 x.up.pick) := cell_new w _ _ 6
  have k7 : (w.alloc (.cells #[.string x.target, .int .i64 x.min, .int .i64 x.max, .slice x.M.ao x.M.la x.M.ca, .int .i64 x.tol, .int .i64 x.up.win, .int .i64 x.up.pick, .slice x.up.P.ao x.up.P.la x.up.P.ca, .int .i64 x.down.win, .int .i64 x.down.pick, .slice x.down.P.ao x.down.P.la x.down.P.ca, .slice x.past.ao x.past.la x.past.ca] 42)).cell? ⟨w.heap.size, 7, none⟩ = some (.slice x.up.P.ao x.up.P.la x.up.P.ca) := cell_new w _ _ 7
  have k8 : (w.alloc (.cells #[.string x.target, .int .i64 x.min, .int .i64 x.max, .slice x.M.ao x.M.la x.M.ca, .int .i64 x.tol, .int .i64 x.up.win, .int .i64 x.up.pick, .slice x.up.P.ao x.up.P.la x.up.P.ca, .int .i64 x.down.win, .int .i64 x.down.pick, .slice x.down.P.ao x.down.P.la x.down.P.ca, .slice x.past.ao x.past.la x.past.ca] 42)).cell? ⟨w.heap.size, 8, none⟩ = some (.int .i64 x.down.win) := cell_new w _ _ 8
  have k9 : (w.alloc (.cells #[.string x.target, .int .i64 x.min, .int .i64 x.max, .slice x.M.ao x.M.la x.M.ca, .int .i64 x.tol, .int .i64 x.up.win, .int .i64 x.up.pick, .slice x.up.P.ao x.up.P.la x.up.P.ca, .int .i64 x.down.win, .int .i64 x.down.pick, .slice x.down.P.ao x.down.P.la x.down.P.ca, .slice x.past.ao x.past.la x.past.ca] 42)).cell? ⟨w.heap.size, 9, none⟩ = some (.int .i64 x.down.pick) := cell_new w _ _ 9
  have k10 : (w.alloc (.cells #[.string x.target, .int .i64 x.min, .int .i64 x.max, .slice x.M.ao x.M.la x.M.ca, .int .i64 x.tol, .int .i64 x.up.win, .int .i64 x.up.pick, .slice x.up.P.ao x.up.P.la x.up.P.ca, .int .i64 x.down.win, .int .i64 x.down.pick, .slice x.down.P.ao x.down.P.la x.down.P.ca, .slice x.past.ao x.past.la x.past.ca] 42)).cell? ⟨w.heap.size, 10, none⟩ = some (.slice x.down.P.ao x.down.P.la x.down.P.ca) := cell_new w _ _ 10
  have k11 : (w.alloc (.cells #[.string x.target, .int .i64 x.min, .int .i64 x.max, .slice x.M.ao x.M.la x.M.ca, .int .i64 x.tol, .int .i64 x.up.win, .int .i64 x.up.pick, .slice x.up.P.ao x.up.P.la x.up.P.ca, .int .i64 x.down.win, .int .i64 x.down.pick, .slice x.down.P.ao x.down.P.la x.down.P.ca, .slice x.past.ao x.past.la x.past.ca] 42)).cell? ⟨w.heap.size, 11, none⟩ = some (.slice x.past.ao x.past.la x.past.ca) := cell_new w _ _ 11
  have HE : Hid ((hpaOk x) = (nameOf x.target.data.toList && (decide (1 ≤ x.min) && (decide (x.min ≤ x.max) && (decide (x.max ≤ 1000000) && (btw (x.M.la : Int) 1 4 && (x.M.xs.all metricOk && (btw x.tol 0 1000 && (behOk x.up && (behOk x.down && pastOk x.past.xs)))))))))) := by
    show _ = _
    rfl
  have H_b1 : Hid (∀ w1, Below w.heap.size w w1 → Calls Try.prog 37 #[.string x.target] w1 fun e w' => e = .returned (.bool (nameOf x.target.data.toList)) ∧ Below w1.heap.size w1 w') := fun w1 hb => (name_any x.target w1).mono fun e w' h => ⟨h.1, by rw [← h.2]; exact Below.refl _ _⟩
  have H_b5 : Hid (∀ w1, Below w.heap.size w w1 → Calls Try.prog 65 #[.int .i64 (x.M.la : Int), .int .i64 1, .int .i64 4] w1 fun e w' => e = .returned (.bool (btw (x.M.la : Int) 1 4)) ∧ Below w1.heap.size w1 w') := fun w1 hb => btw_int ((x.M.la : Int)) 1 4 w1
  have H_b6 : Hid (∀ w1, Below w.heap.size w w1 → Calls Try.prog 71 #[.slice x.M.ao x.M.la x.M.ca, .func (.func 72) #[] #[]] w1 fun e w' => e = .returned (.bool (x.M.xs.all metricOk)) ∧ Below w1.heap.size w1 w') := fun w1 hb => all_Metric x.M.xs _ _ _ w1 (h.M.b hb)
  have H_b7 : Hid (∀ w1, Below w.heap.size w w1 → Calls Try.prog 65 #[.int .i64 x.tol, .int .i64 0, .int .i64 1000] w1 fun e w' => e = .returned (.bool (btw x.tol 0 1000)) ∧ Below w1.heap.size w1 w') := fun w1 hb => btw_int (x.tol) 0 1000 w1
  have H_b8 : Hid (∀ w1, Below w.heap.size w w1 → Calls Try.prog 73 #[.agg #[.int .i64 x.up.win, .int .i64 x.up.pick, .slice x.up.P.ao x.up.P.la x.up.P.ca]] w1 fun e w' => e = .returned (.bool (behOk x.up)) ∧ Below w1.heap.size w1 w') := fun w1 hb => behavior_any x.up w1 (h.U.b hb)
  have H_b9 : Hid (∀ w1, Below w.heap.size w w1 → Calls Try.prog 73 #[.agg #[.int .i64 x.down.win, .int .i64 x.down.pick, .slice x.down.P.ao x.down.P.la x.down.P.ca]] w1 fun e w' => e = .returned (.bool (behOk x.down)) ∧ Below w1.heap.size w1 w') := fun w1 hb => behavior_any x.down w1 (h.D.b hb)
  have H_b10 : Hid (∀ w1, Below w.heap.size w w1 → Calls Try.prog 74 #[.slice x.past.ao x.past.la x.past.ca] w1 fun e w' => e = .returned (.bool (pastOk x.past.xs)) ∧ Below w1.heap.size w1 w') := fun w1 hb => past_any x.past.xs _ _ _ w1 (h.P.b hb)
  obtain ⟨b1, h_b1⟩ : ∃ b, (nameOf x.target.data.toList) = b := ⟨_, rfl⟩
  rw [h_b1] at HE H_b1
  obtain ⟨b2, h_b2⟩ : ∃ b, (decide (1 ≤ x.min)) = b := ⟨_, rfl⟩
  rw [h_b2] at HE
  obtain ⟨b3, h_b3⟩ : ∃ b, (decide (x.min ≤ x.max)) = b := ⟨_, rfl⟩
  rw [h_b3] at HE
  obtain ⟨b4, h_b4⟩ : ∃ b, (decide (x.max ≤ 1000000)) = b := ⟨_, rfl⟩
  rw [h_b4] at HE
  obtain ⟨b5, h_b5⟩ : ∃ b, (btw (x.M.la : Int) 1 4) = b := ⟨_, rfl⟩
  rw [h_b5] at HE H_b5
  obtain ⟨b6, h_b6⟩ : ∃ b, (x.M.xs.all metricOk) = b := ⟨_, rfl⟩
  rw [h_b6] at HE H_b6
  obtain ⟨b7, h_b7⟩ : ∃ b, (btw x.tol 0 1000) = b := ⟨_, rfl⟩
  rw [h_b7] at HE H_b7
  obtain ⟨b8, h_b8⟩ : ∃ b, (behOk x.up) = b := ⟨_, rfl⟩
  rw [h_b8] at HE H_b8
  obtain ⟨b9, h_b9⟩ : ∃ b, (behOk x.down) = b := ⟨_, rfl⟩
  rw [h_b9] at HE H_b9
  obtain ⟨b10, h_b10⟩ : ∃ b, (pastOk x.past.xs) = b := ⟨_, rfl⟩
  rw [h_b10] at HE H_b10
  clear h_b1 h_b5 h_b6 h_b7 h_b8 h_b9 h_b10
  rcases b1 with _ | _
  · go_enter Try.func36, Try.ntmps36
    go_wp2_with fail
    refine (H_b1.out _ Hb.out).mono ?_
    rintro e wb1 ⟨rfl, hb⟩
    replace k0 := Below.cell_some hb k0
    replace k1 := Below.cell_some hb k1
    replace k2 := Below.cell_some hb k2
    replace k3 := Below.cell_some hb k3
    replace k4 := Below.cell_some hb k4
    replace k5 := Below.cell_some hb k5
    replace k6 := Below.cell_some hb k6
    replace k7 := Below.cell_some hb k7
    replace k8 := Below.cell_some hb k8
    replace k9 := Below.cell_some hb k9
    replace k10 := Below.cell_some hb k10
    replace k11 := Below.cell_some hb k11
    replace Hb := Lib.hid (Hb.out.trans (hb.mono Hb.out.size))
    clear hb
    go_wp2_with fail
    go_ret
    exact ⟨ret_bool HE.out.symm, Hb.out⟩
  · rcases b2 with _ | _
    · go_enter Try.func36, Try.ntmps36
      go_wp2_with fail
      refine (H_b1.out _ Hb.out).mono ?_
      rintro e wb1 ⟨rfl, hb⟩
      replace k0 := Below.cell_some hb k0
      replace k1 := Below.cell_some hb k1
      replace k2 := Below.cell_some hb k2
      replace k3 := Below.cell_some hb k3
      replace k4 := Below.cell_some hb k4
      replace k5 := Below.cell_some hb k5
      replace k6 := Below.cell_some hb k6
      replace k7 := Below.cell_some hb k7
      replace k8 := Below.cell_some hb k8
      replace k9 := Below.cell_some hb k9
      replace k10 := Below.cell_some hb k10
      replace k11 := Below.cell_some hb k11
      replace Hb := Lib.hid (Hb.out.trans (hb.mono Hb.out.size))
      clear hb
      go_wp2_with fail
      go_ret
      exact ⟨ret_bool HE.out.symm, Hb.out⟩
    · rcases b3 with _ | _
      · go_enter Try.func36, Try.ntmps36
        go_wp2_with fail
        refine (H_b1.out _ Hb.out).mono ?_
        rintro e wb1 ⟨rfl, hb⟩
        replace k0 := Below.cell_some hb k0
        replace k1 := Below.cell_some hb k1
        replace k2 := Below.cell_some hb k2
        replace k3 := Below.cell_some hb k3
        replace k4 := Below.cell_some hb k4
        replace k5 := Below.cell_some hb k5
        replace k6 := Below.cell_some hb k6
        replace k7 := Below.cell_some hb k7
        replace k8 := Below.cell_some hb k8
        replace k9 := Below.cell_some hb k9
        replace k10 := Below.cell_some hb k10
        replace k11 := Below.cell_some hb k11
        replace Hb := Lib.hid (Hb.out.trans (hb.mono Hb.out.size))
        clear hb
        go_wp2_with fail
        go_ret
        exact ⟨ret_bool HE.out.symm, Hb.out⟩
      · rcases b4 with _ | _
        · go_enter Try.func36, Try.ntmps36
          go_wp2_with fail
          refine (H_b1.out _ Hb.out).mono ?_
          rintro e wb1 ⟨rfl, hb⟩
          replace k0 := Below.cell_some hb k0
          replace k1 := Below.cell_some hb k1
          replace k2 := Below.cell_some hb k2
          replace k3 := Below.cell_some hb k3
          replace k4 := Below.cell_some hb k4
          replace k5 := Below.cell_some hb k5
          replace k6 := Below.cell_some hb k6
          replace k7 := Below.cell_some hb k7
          replace k8 := Below.cell_some hb k8
          replace k9 := Below.cell_some hb k9
          replace k10 := Below.cell_some hb k10
          replace k11 := Below.cell_some hb k11
          replace Hb := Lib.hid (Hb.out.trans (hb.mono Hb.out.size))
          clear hb
          go_wp2_with fail
          go_ret
          exact ⟨ret_bool HE.out.symm, Hb.out⟩
        · rcases b5 with _ | _
          · go_enter Try.func36, Try.ntmps36
            go_wp2_with fail
            refine (H_b1.out _ Hb.out).mono ?_
            rintro e wb1 ⟨rfl, hb⟩
            replace k0 := Below.cell_some hb k0
            replace k1 := Below.cell_some hb k1
            replace k2 := Below.cell_some hb k2
            replace k3 := Below.cell_some hb k3
            replace k4 := Below.cell_some hb k4
            replace k5 := Below.cell_some hb k5
            replace k6 := Below.cell_some hb k6
            replace k7 := Below.cell_some hb k7
            replace k8 := Below.cell_some hb k8
            replace k9 := Below.cell_some hb k9
            replace k10 := Below.cell_some hb k10
            replace k11 := Below.cell_some hb k11
            replace Hb := Lib.hid (Hb.out.trans (hb.mono Hb.out.size))
            clear hb
            go_wp2_with fail
            refine (H_b5.out _ Hb.out).mono ?_
            rintro e wb5 ⟨rfl, hb⟩
            replace k0 := Below.cell_some hb k0
            replace k1 := Below.cell_some hb k1
            replace k2 := Below.cell_some hb k2
            replace k3 := Below.cell_some hb k3
            replace k4 := Below.cell_some hb k4
            replace k5 := Below.cell_some hb k5
            replace k6 := Below.cell_some hb k6
            replace k7 := Below.cell_some hb k7
            replace k8 := Below.cell_some hb k8
            replace k9 := Below.cell_some hb k9
            replace k10 := Below.cell_some hb k10
            replace k11 := Below.cell_some hb k11
            replace Hb := Lib.hid (Hb.out.trans (hb.mono Hb.out.size))
            clear hb
            go_wp2_with fail
            go_ret
            exact ⟨ret_bool HE.out.symm, Hb.out⟩
          · rcases b6 with _ | _
            · go_enter Try.func36, Try.ntmps36
              go_wp2_with fail
              refine (H_b1.out _ Hb.out).mono ?_
              rintro e wb1 ⟨rfl, hb⟩
              replace k0 := Below.cell_some hb k0
              replace k1 := Below.cell_some hb k1
              replace k2 := Below.cell_some hb k2
              replace k3 := Below.cell_some hb k3
              replace k4 := Below.cell_some hb k4
              replace k5 := Below.cell_some hb k5
              replace k6 := Below.cell_some hb k6
              replace k7 := Below.cell_some hb k7
              replace k8 := Below.cell_some hb k8
              replace k9 := Below.cell_some hb k9
              replace k10 := Below.cell_some hb k10
              replace k11 := Below.cell_some hb k11
              replace Hb := Lib.hid (Hb.out.trans (hb.mono Hb.out.size))
              clear hb
              go_wp2_with fail
              refine (H_b5.out _ Hb.out).mono ?_
              rintro e wb5 ⟨rfl, hb⟩
              replace k0 := Below.cell_some hb k0
              replace k1 := Below.cell_some hb k1
              replace k2 := Below.cell_some hb k2
              replace k3 := Below.cell_some hb k3
              replace k4 := Below.cell_some hb k4
              replace k5 := Below.cell_some hb k5
              replace k6 := Below.cell_some hb k6
              replace k7 := Below.cell_some hb k7
              replace k8 := Below.cell_some hb k8
              replace k9 := Below.cell_some hb k9
              replace k10 := Below.cell_some hb k10
              replace k11 := Below.cell_some hb k11
              replace Hb := Lib.hid (Hb.out.trans (hb.mono Hb.out.size))
              clear hb
              go_wp2_with fail
              refine (H_b6.out _ Hb.out).mono ?_
              rintro e wb6 ⟨rfl, hb⟩
              replace k0 := Below.cell_some hb k0
              replace k1 := Below.cell_some hb k1
              replace k2 := Below.cell_some hb k2
              replace k3 := Below.cell_some hb k3
              replace k4 := Below.cell_some hb k4
              replace k5 := Below.cell_some hb k5
              replace k6 := Below.cell_some hb k6
              replace k7 := Below.cell_some hb k7
              replace k8 := Below.cell_some hb k8
              replace k9 := Below.cell_some hb k9
              replace k10 := Below.cell_some hb k10
              replace k11 := Below.cell_some hb k11
              replace Hb := Lib.hid (Hb.out.trans (hb.mono Hb.out.size))
              clear hb
              go_wp2_with fail
              go_ret
              exact ⟨ret_bool HE.out.symm, Hb.out⟩
            · rcases b7 with _ | _
              · go_enter Try.func36, Try.ntmps36
                go_wp2_with fail
                refine (H_b1.out _ Hb.out).mono ?_
                rintro e wb1 ⟨rfl, hb⟩
                replace k0 := Below.cell_some hb k0
                replace k1 := Below.cell_some hb k1
                replace k2 := Below.cell_some hb k2
                replace k3 := Below.cell_some hb k3
                replace k4 := Below.cell_some hb k4
                replace k5 := Below.cell_some hb k5
                replace k6 := Below.cell_some hb k6
                replace k7 := Below.cell_some hb k7
                replace k8 := Below.cell_some hb k8
                replace k9 := Below.cell_some hb k9
                replace k10 := Below.cell_some hb k10
                replace k11 := Below.cell_some hb k11
                replace Hb := Lib.hid (Hb.out.trans (hb.mono Hb.out.size))
                clear hb
                go_wp2_with fail
                refine (H_b5.out _ Hb.out).mono ?_
                rintro e wb5 ⟨rfl, hb⟩
                replace k0 := Below.cell_some hb k0
                replace k1 := Below.cell_some hb k1
                replace k2 := Below.cell_some hb k2
                replace k3 := Below.cell_some hb k3
                replace k4 := Below.cell_some hb k4
                replace k5 := Below.cell_some hb k5
                replace k6 := Below.cell_some hb k6
                replace k7 := Below.cell_some hb k7
                replace k8 := Below.cell_some hb k8
                replace k9 := Below.cell_some hb k9
                replace k10 := Below.cell_some hb k10
                replace k11 := Below.cell_some hb k11
                replace Hb := Lib.hid (Hb.out.trans (hb.mono Hb.out.size))
                clear hb
                go_wp2_with fail
                refine (H_b6.out _ Hb.out).mono ?_
                rintro e wb6 ⟨rfl, hb⟩
                replace k0 := Below.cell_some hb k0
                replace k1 := Below.cell_some hb k1
                replace k2 := Below.cell_some hb k2
                replace k3 := Below.cell_some hb k3
                replace k4 := Below.cell_some hb k4
                replace k5 := Below.cell_some hb k5
                replace k6 := Below.cell_some hb k6
                replace k7 := Below.cell_some hb k7
                replace k8 := Below.cell_some hb k8
                replace k9 := Below.cell_some hb k9
                replace k10 := Below.cell_some hb k10
                replace k11 := Below.cell_some hb k11
                replace Hb := Lib.hid (Hb.out.trans (hb.mono Hb.out.size))
                clear hb
                go_wp2_with fail
                refine (H_b7.out _ Hb.out).mono ?_
                rintro e wb7 ⟨rfl, hb⟩
                replace k0 := Below.cell_some hb k0
                replace k1 := Below.cell_some hb k1
                replace k2 := Below.cell_some hb k2
                replace k3 := Below.cell_some hb k3
                replace k4 := Below.cell_some hb k4
                replace k5 := Below.cell_some hb k5
                replace k6 := Below.cell_some hb k6
                replace k7 := Below.cell_some hb k7
                replace k8 := Below.cell_some hb k8
                replace k9 := Below.cell_some hb k9
                replace k10 := Below.cell_some hb k10
                replace k11 := Below.cell_some hb k11
                replace Hb := Lib.hid (Hb.out.trans (hb.mono Hb.out.size))
                clear hb
                go_wp2_with fail
                go_ret
                exact ⟨ret_bool HE.out.symm, Hb.out⟩
              · rcases b8 with _ | _
                · go_enter Try.func36, Try.ntmps36
                  go_wp2_with fail
                  refine (H_b1.out _ Hb.out).mono ?_
                  rintro e wb1 ⟨rfl, hb⟩
                  replace k0 := Below.cell_some hb k0
                  replace k1 := Below.cell_some hb k1
                  replace k2 := Below.cell_some hb k2
                  replace k3 := Below.cell_some hb k3
                  replace k4 := Below.cell_some hb k4
                  replace k5 := Below.cell_some hb k5
                  replace k6 := Below.cell_some hb k6
                  replace k7 := Below.cell_some hb k7
                  replace k8 := Below.cell_some hb k8
                  replace k9 := Below.cell_some hb k9
                  replace k10 := Below.cell_some hb k10
                  replace k11 := Below.cell_some hb k11
                  replace Hb := Lib.hid (Hb.out.trans (hb.mono Hb.out.size))
                  clear hb
                  go_wp2_with fail
                  refine (H_b5.out _ Hb.out).mono ?_
                  rintro e wb5 ⟨rfl, hb⟩
                  replace k0 := Below.cell_some hb k0
                  replace k1 := Below.cell_some hb k1
                  replace k2 := Below.cell_some hb k2
                  replace k3 := Below.cell_some hb k3
                  replace k4 := Below.cell_some hb k4
                  replace k5 := Below.cell_some hb k5
                  replace k6 := Below.cell_some hb k6
                  replace k7 := Below.cell_some hb k7
                  replace k8 := Below.cell_some hb k8
                  replace k9 := Below.cell_some hb k9
                  replace k10 := Below.cell_some hb k10
                  replace k11 := Below.cell_some hb k11
                  replace Hb := Lib.hid (Hb.out.trans (hb.mono Hb.out.size))
                  clear hb
                  go_wp2_with fail
                  refine (H_b6.out _ Hb.out).mono ?_
                  rintro e wb6 ⟨rfl, hb⟩
                  replace k0 := Below.cell_some hb k0
                  replace k1 := Below.cell_some hb k1
                  replace k2 := Below.cell_some hb k2
                  replace k3 := Below.cell_some hb k3
                  replace k4 := Below.cell_some hb k4
                  replace k5 := Below.cell_some hb k5
                  replace k6 := Below.cell_some hb k6
                  replace k7 := Below.cell_some hb k7
                  replace k8 := Below.cell_some hb k8
                  replace k9 := Below.cell_some hb k9
                  replace k10 := Below.cell_some hb k10
                  replace k11 := Below.cell_some hb k11
                  replace Hb := Lib.hid (Hb.out.trans (hb.mono Hb.out.size))
                  clear hb
                  go_wp2_with fail
                  refine (H_b7.out _ Hb.out).mono ?_
                  rintro e wb7 ⟨rfl, hb⟩
                  replace k0 := Below.cell_some hb k0
                  replace k1 := Below.cell_some hb k1
                  replace k2 := Below.cell_some hb k2
                  replace k3 := Below.cell_some hb k3
                  replace k4 := Below.cell_some hb k4
                  replace k5 := Below.cell_some hb k5
                  replace k6 := Below.cell_some hb k6
                  replace k7 := Below.cell_some hb k7
                  replace k8 := Below.cell_some hb k8
                  replace k9 := Below.cell_some hb k9
                  replace k10 := Below.cell_some hb k10
                  replace k11 := Below.cell_some hb k11
                  replace Hb := Lib.hid (Hb.out.trans (hb.mono Hb.out.size))
                  clear hb
                  go_wp2_with fail
                  refine (H_b8.out _ Hb.out).mono ?_
                  rintro e wb8 ⟨rfl, hb⟩
                  replace k0 := Below.cell_some hb k0
                  replace k1 := Below.cell_some hb k1
                  replace k2 := Below.cell_some hb k2
                  replace k3 := Below.cell_some hb k3
                  replace k4 := Below.cell_some hb k4
                  replace k5 := Below.cell_some hb k5
                  replace k6 := Below.cell_some hb k6
                  replace k7 := Below.cell_some hb k7
                  replace k8 := Below.cell_some hb k8
                  replace k9 := Below.cell_some hb k9
                  replace k10 := Below.cell_some hb k10
                  replace k11 := Below.cell_some hb k11
                  replace Hb := Lib.hid (Hb.out.trans (hb.mono Hb.out.size))
                  clear hb
                  go_wp2_with fail
                  go_ret
                  exact ⟨ret_bool HE.out.symm, Hb.out⟩
                · rcases b9 with _ | _
                  · go_enter Try.func36, Try.ntmps36
                    go_wp2_with fail
                    refine (H_b1.out _ Hb.out).mono ?_
                    rintro e wb1 ⟨rfl, hb⟩
                    replace k0 := Below.cell_some hb k0
                    replace k1 := Below.cell_some hb k1
                    replace k2 := Below.cell_some hb k2
                    replace k3 := Below.cell_some hb k3
                    replace k4 := Below.cell_some hb k4
                    replace k5 := Below.cell_some hb k5
                    replace k6 := Below.cell_some hb k6
                    replace k7 := Below.cell_some hb k7
                    replace k8 := Below.cell_some hb k8
                    replace k9 := Below.cell_some hb k9
                    replace k10 := Below.cell_some hb k10
                    replace k11 := Below.cell_some hb k11
                    replace Hb := Lib.hid (Hb.out.trans (hb.mono Hb.out.size))
                    clear hb
                    go_wp2_with fail
                    refine (H_b5.out _ Hb.out).mono ?_
                    rintro e wb5 ⟨rfl, hb⟩
                    replace k0 := Below.cell_some hb k0
                    replace k1 := Below.cell_some hb k1
                    replace k2 := Below.cell_some hb k2
                    replace k3 := Below.cell_some hb k3
                    replace k4 := Below.cell_some hb k4
                    replace k5 := Below.cell_some hb k5
                    replace k6 := Below.cell_some hb k6
                    replace k7 := Below.cell_some hb k7
                    replace k8 := Below.cell_some hb k8
                    replace k9 := Below.cell_some hb k9
                    replace k10 := Below.cell_some hb k10
                    replace k11 := Below.cell_some hb k11
                    replace Hb := Lib.hid (Hb.out.trans (hb.mono Hb.out.size))
                    clear hb
                    go_wp2_with fail
                    refine (H_b6.out _ Hb.out).mono ?_
                    rintro e wb6 ⟨rfl, hb⟩
                    replace k0 := Below.cell_some hb k0
                    replace k1 := Below.cell_some hb k1
                    replace k2 := Below.cell_some hb k2
                    replace k3 := Below.cell_some hb k3
                    replace k4 := Below.cell_some hb k4
                    replace k5 := Below.cell_some hb k5
                    replace k6 := Below.cell_some hb k6
                    replace k7 := Below.cell_some hb k7
                    replace k8 := Below.cell_some hb k8
                    replace k9 := Below.cell_some hb k9
                    replace k10 := Below.cell_some hb k10
                    replace k11 := Below.cell_some hb k11
                    replace Hb := Lib.hid (Hb.out.trans (hb.mono Hb.out.size))
                    clear hb
                    go_wp2_with fail
                    refine (H_b7.out _ Hb.out).mono ?_
                    rintro e wb7 ⟨rfl, hb⟩
                    replace k0 := Below.cell_some hb k0
                    replace k1 := Below.cell_some hb k1
                    replace k2 := Below.cell_some hb k2
                    replace k3 := Below.cell_some hb k3
                    replace k4 := Below.cell_some hb k4
                    replace k5 := Below.cell_some hb k5
                    replace k6 := Below.cell_some hb k6
                    replace k7 := Below.cell_some hb k7
                    replace k8 := Below.cell_some hb k8
                    replace k9 := Below.cell_some hb k9
                    replace k10 := Below.cell_some hb k10
                    replace k11 := Below.cell_some hb k11
                    replace Hb := Lib.hid (Hb.out.trans (hb.mono Hb.out.size))
                    clear hb
                    go_wp2_with fail
                    refine (H_b8.out _ Hb.out).mono ?_
                    rintro e wb8 ⟨rfl, hb⟩
                    replace k0 := Below.cell_some hb k0
                    replace k1 := Below.cell_some hb k1
                    replace k2 := Below.cell_some hb k2
                    replace k3 := Below.cell_some hb k3
                    replace k4 := Below.cell_some hb k4
                    replace k5 := Below.cell_some hb k5
                    replace k6 := Below.cell_some hb k6
                    replace k7 := Below.cell_some hb k7
                    replace k8 := Below.cell_some hb k8
                    replace k9 := Below.cell_some hb k9
                    replace k10 := Below.cell_some hb k10
                    replace k11 := Below.cell_some hb k11
                    replace Hb := Lib.hid (Hb.out.trans (hb.mono Hb.out.size))
                    clear hb
                    go_wp2_with fail
                    refine (H_b9.out _ Hb.out).mono ?_
                    rintro e wb9 ⟨rfl, hb⟩
                    replace k0 := Below.cell_some hb k0
                    replace k1 := Below.cell_some hb k1
                    replace k2 := Below.cell_some hb k2
                    replace k3 := Below.cell_some hb k3
                    replace k4 := Below.cell_some hb k4
                    replace k5 := Below.cell_some hb k5
                    replace k6 := Below.cell_some hb k6
                    replace k7 := Below.cell_some hb k7
                    replace k8 := Below.cell_some hb k8
                    replace k9 := Below.cell_some hb k9
                    replace k10 := Below.cell_some hb k10
                    replace k11 := Below.cell_some hb k11
                    replace Hb := Lib.hid (Hb.out.trans (hb.mono Hb.out.size))
                    clear hb
                    go_wp2_with fail
                    go_ret
                    exact ⟨ret_bool HE.out.symm, Hb.out⟩
                  · go_enter Try.func36, Try.ntmps36
                    go_wp2_with fail
                    refine (H_b1.out _ Hb.out).mono ?_
                    rintro e wb1 ⟨rfl, hb⟩
                    replace k0 := Below.cell_some hb k0
                    replace k1 := Below.cell_some hb k1
                    replace k2 := Below.cell_some hb k2
                    replace k3 := Below.cell_some hb k3
                    replace k4 := Below.cell_some hb k4
                    replace k5 := Below.cell_some hb k5
                    replace k6 := Below.cell_some hb k6
                    replace k7 := Below.cell_some hb k7
                    replace k8 := Below.cell_some hb k8
                    replace k9 := Below.cell_some hb k9
                    replace k10 := Below.cell_some hb k10
                    replace k11 := Below.cell_some hb k11
                    replace Hb := Lib.hid (Hb.out.trans (hb.mono Hb.out.size))
                    clear hb
                    go_wp2_with fail
                    refine (H_b5.out _ Hb.out).mono ?_
                    rintro e wb5 ⟨rfl, hb⟩
                    replace k0 := Below.cell_some hb k0
                    replace k1 := Below.cell_some hb k1
                    replace k2 := Below.cell_some hb k2
                    replace k3 := Below.cell_some hb k3
                    replace k4 := Below.cell_some hb k4
                    replace k5 := Below.cell_some hb k5
                    replace k6 := Below.cell_some hb k6
                    replace k7 := Below.cell_some hb k7
                    replace k8 := Below.cell_some hb k8
                    replace k9 := Below.cell_some hb k9
                    replace k10 := Below.cell_some hb k10
                    replace k11 := Below.cell_some hb k11
                    replace Hb := Lib.hid (Hb.out.trans (hb.mono Hb.out.size))
                    clear hb
                    go_wp2_with fail
                    refine (H_b6.out _ Hb.out).mono ?_
                    rintro e wb6 ⟨rfl, hb⟩
                    replace k0 := Below.cell_some hb k0
                    replace k1 := Below.cell_some hb k1
                    replace k2 := Below.cell_some hb k2
                    replace k3 := Below.cell_some hb k3
                    replace k4 := Below.cell_some hb k4
                    replace k5 := Below.cell_some hb k5
                    replace k6 := Below.cell_some hb k6
                    replace k7 := Below.cell_some hb k7
                    replace k8 := Below.cell_some hb k8
                    replace k9 := Below.cell_some hb k9
                    replace k10 := Below.cell_some hb k10
                    replace k11 := Below.cell_some hb k11
                    replace Hb := Lib.hid (Hb.out.trans (hb.mono Hb.out.size))
                    clear hb
                    go_wp2_with fail
                    refine (H_b7.out _ Hb.out).mono ?_
                    rintro e wb7 ⟨rfl, hb⟩
                    replace k0 := Below.cell_some hb k0
                    replace k1 := Below.cell_some hb k1
                    replace k2 := Below.cell_some hb k2
                    replace k3 := Below.cell_some hb k3
                    replace k4 := Below.cell_some hb k4
                    replace k5 := Below.cell_some hb k5
                    replace k6 := Below.cell_some hb k6
                    replace k7 := Below.cell_some hb k7
                    replace k8 := Below.cell_some hb k8
                    replace k9 := Below.cell_some hb k9
                    replace k10 := Below.cell_some hb k10
                    replace k11 := Below.cell_some hb k11
                    replace Hb := Lib.hid (Hb.out.trans (hb.mono Hb.out.size))
                    clear hb
                    go_wp2_with fail
                    refine (H_b8.out _ Hb.out).mono ?_
                    rintro e wb8 ⟨rfl, hb⟩
                    replace k0 := Below.cell_some hb k0
                    replace k1 := Below.cell_some hb k1
                    replace k2 := Below.cell_some hb k2
                    replace k3 := Below.cell_some hb k3
                    replace k4 := Below.cell_some hb k4
                    replace k5 := Below.cell_some hb k5
                    replace k6 := Below.cell_some hb k6
                    replace k7 := Below.cell_some hb k7
                    replace k8 := Below.cell_some hb k8
                    replace k9 := Below.cell_some hb k9
                    replace k10 := Below.cell_some hb k10
                    replace k11 := Below.cell_some hb k11
                    replace Hb := Lib.hid (Hb.out.trans (hb.mono Hb.out.size))
                    clear hb
                    go_wp2_with fail
                    refine (H_b9.out _ Hb.out).mono ?_
                    rintro e wb9 ⟨rfl, hb⟩
                    replace k0 := Below.cell_some hb k0
                    replace k1 := Below.cell_some hb k1
                    replace k2 := Below.cell_some hb k2
                    replace k3 := Below.cell_some hb k3
                    replace k4 := Below.cell_some hb k4
                    replace k5 := Below.cell_some hb k5
                    replace k6 := Below.cell_some hb k6
                    replace k7 := Below.cell_some hb k7
                    replace k8 := Below.cell_some hb k8
                    replace k9 := Below.cell_some hb k9
                    replace k10 := Below.cell_some hb k10
                    replace k11 := Below.cell_some hb k11
                    replace Hb := Lib.hid (Hb.out.trans (hb.mono Hb.out.size))
                    clear hb
                    go_wp2_with fail
                    refine (H_b10.out _ Hb.out).mono ?_
                    rintro e wb10 ⟨rfl, hb⟩
                    replace k0 := Below.cell_some hb k0
                    replace k1 := Below.cell_some hb k1
                    replace k2 := Below.cell_some hb k2
                    replace k3 := Below.cell_some hb k3
                    replace k4 := Below.cell_some hb k4
                    replace k5 := Below.cell_some hb k5
                    replace k6 := Below.cell_some hb k6
                    replace k7 := Below.cell_some hb k7
                    replace k8 := Below.cell_some hb k8
                    replace k9 := Below.cell_some hb k9
                    replace k10 := Below.cell_some hb k10
                    replace k11 := Below.cell_some hb k11
                    replace Hb := Lib.hid (Hb.out.trans (hb.mono Hb.out.size))
                    clear hb
                    go_wp2_with fail
                    go_ret
                    exact ⟨ret_bool HE.out.symm, Hb.out⟩

end Go.Proofs.Ytpbppgfogepjeaa
