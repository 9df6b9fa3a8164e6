/- The contracts of valid's shapes. Condition: the slices read. -/
import Derived.Test.YtpbppgfogepjeaaValid1
namespace Go.Proofs.Ytpbppgfogepjeaa
open Go.ChangeShapes Go.WideShapes Go.ChangeAt Go.RowKit Go.Deep

noncomputable def wlOk (x : WlV) : Bool := btw x.rep 0 1000000 && wantsOk x.cpu x.mem x.L.xs x.S.xs x.T.xs x.warm
noncomputable def podOk (x : PodV) : Bool := nameOf x.owner.data.toList && (okVal x.node && (btw x.phase 0 3 && (btw x.since 0 4611686018427387904 && (((x.phase == 3) || ((!x.node.toList.isEmpty) == (x.phase != 0))) && wantsOk x.cpu x.mem x.L.xs x.S.xs x.T.xs x.warm))))
noncomputable def nodeOk (x : NodeV) : Bool := okVal x.group && (sizeOk x.cpu x.mem && (labelsOk x.L.xs && (labelsOk x.T.xs && btw x.since 0 4611686018427387904)))
noncomputable def groupOk (x : GroupV) : Bool := decide (0 ≤ x.min) && (decide (x.min ≤ x.max) && (decide (x.max ≤ 64) && (btw x.target x.min x.max && (sizeOk x.cpu x.mem && (labelsOk x.L.xs && (labelsOk x.T.xs && btw x.prio 0 1000))))))
def metricOk (m : Metric) : Bool := btw m.kind 0 3 && (nameOf m.name.data.toList && (wholeOk m.target && (!(m.target == 0) && ((m.kind != 0) || ((m.name.toList == [99, 112, 117]) || (m.name.toList == [109, 101, 109]))))))
def polOk (p : Policy) : Bool := btw p.value 1 1000000 && btw p.period 1 1800
def behOk (b : BehV) : Bool := btw b.win 0 1800 && (btw b.pick 0 2 && (decide ((b.P.la : Int) ≤ 4) && b.P.xs.all polOk))
def pastFrom : Int → List Scaled → Bool
  | _, [] => true
  | last, x :: l => (btw x.at_ last 4611686018427387904 && (btw x.from_ 0 1000000 && btw x.to_ 0 1000000)) && pastFrom x.at_ l
def pastOk (l : List Scaled) : Bool := pastFrom 0 l && decide (l.length ≤ 32)
def hpaOk (x : HpaV) : Bool := nameOf x.target.data.toList && (decide (1 ≤ x.min) && (decide (x.min ≤ x.max) && (decide (x.max ≤ 1000000) && (btw (x.M.la : Int) 1 4 && (x.M.xs.all metricOk && (btw x.tol 0 1000 && (behOk x.up && (behOk x.down && pastOk x.past.xs))))))))
def noBeh (b : BehV) : Bool := (b.win == 0) && ((b.pick == 0) && ((b.P.la : Int) == 0))

set_option maxRecDepth 100000 in
set_option maxHeartbeats 3200000 in
theorem workload_any (x : WlV) (w : World) (h : WlAt w x) :
    Calls Try.prog 32 #[.agg #[.int .i64 x.rep, .int .i64 x.cpu, .int .i64 x.mem, .slice x.L.ao x.L.la x.L.ca, .slice x.S.ao x.S.la x.S.ca, .slice x.T.ao x.T.la x.T.ca, .int .i64 x.warm]] w fun e w' => e = .returned (.bool (wlOk x)) ∧ Below w.heap.size w w' := by
  have Hb : Hid (Below w.heap.size w (w.alloc (.cells #[.int .i64 x.rep, .int .i64 x.cpu, .int .i64 x.mem, .slice x.L.ao x.L.la x.L.ca, .slice x.S.ao x.S.la x.S.ca, .slice x.T.ao x.T.la x.T.ca, .int .i64 x.warm] 29))) := (Below.refl w.heap.size w).alloc (Nat.le_refl _) _
  have k0 : (w.alloc (.cells #[.int .i64 x.rep, .int .i64 x.cpu, .int .i64 x.mem, .slice x.L.ao x.L.la x.L.ca, .slice x.S.ao x.S.la x.S.ca, .slice x.T.ao x.T.la x.T.ca, .int .i64 x.warm] 29)).cell? ⟨w.heap.size, 0, none⟩ = some (.int .i64 x.rep) := cell_new w _ _ 0
  have k1 : (w.alloc (.cells #[.int .i64 x.rep, .int .i64 x.cpu, .int .i64 x.mem, .slice x.L.ao x.L.la x.L.ca, .slice x.S.ao x.S.la x.S.ca, .slice x.T.ao x.T.la x.T.ca, .int .i64 x.warm] 29)).cell? ⟨w.heap.size, 1, none⟩ = some (.int .i64 x.cpu) := cell_new w _ _ 1
  have k2 : (w.alloc (.cells #[.int .i64 x.rep, .int .i64 x.cpu, .int .i64 x.mem, .slice x.L.ao x.L.la x.L.ca, .slice x.S.ao x.S.la x.S.ca, .slice x.T.ao x.T.la x.T.ca, .int .i64 x.warm] 29)).cell? ⟨w.heap.size, 2, none⟩ = some (.int .i64 x.mem) := cell_new w _ _ 2
  have k3 : (w.alloc (.cells #[.int .i64 x.rep, .int .i64 x.cpu, .int .i64 x.mem, .slice x.L.ao x.L.la x.L.ca, .slice x.S.ao x.S.la x.S.ca, .slice x.T.ao x.T.la x.T.ca, .int .i64 x.warm] 29)).cell? ⟨w.heap.size, 3, none⟩ = some (.slice x.L.ao x.L.la x.L.ca) := cell_new w _ _ 3
  have k4 : (w.alloc (.cells #[.int .i64 x.rep, .int .i64 x.cpu, .int .i64 x.mem, .slice x.L.ao x.L.la x.L.ca, .slice x.S.ao x.S.la x.S.ca, .slice x.T.ao x.T.la x.T.ca, .int .i64 x.warm] 29)).cell? ⟨w.heap.size, 4, none⟩ = some (.slice x.S.ao x.S.la x.S.ca) := cell_new w _ _ 4
  have k5 : (w.alloc (.cells #[.int .i64 x.rep, .int .i64 x.cpu, .int .i64 x.mem, .slice x.L.ao x.L.la x.L.ca, .slice x.S.ao x.S.la x.S.ca, .slice x.T.ao x.T.la x.T.ca, .int .i64 x.warm] 29)).cell? ⟨w.heap.size, 5, none⟩ = some (.slice x.T.ao x.T.la x.T.ca) := cell_new w _ _ 5
  have k6 : (w.alloc (.cells #[.int .i64 x.rep, .int .i64 x.cpu, .int .i64 x.mem, .slice x.L.ao x.L.la x.L.ca, .slice x.S.ao x.S.la x.S.ca, .slice x.T.ao x.T.la x.T.ca, .int .i64 x.warm] 29)).cell? ⟨w.heap.size, 6, none⟩ = some (.int .i64 x.warm) := cell_new w _ _ 6
  have HE : Hid ((wlOk x) = (btw x.rep 0 1000000 && wantsOk x.cpu x.mem x.L.xs x.S.xs x.T.xs x.warm)) := by
    show _ = _
    rfl
  have H_b1 : Hid (∀ w1, Below w.heap.size w w1 → Calls Try.prog 65 #[.int .i64 x.rep, .int .i64 0, .int .i64 1000000] w1 fun e w' => e = .returned (.bool (btw x.rep 0 1000000)) ∧ Below w1.heap.size w1 w') := fun w1 hb => btw_int (x.rep) 0 1000000 w1
  have H_b2 : Hid (∀ w1, Below w.heap.size w w1 → Calls Try.prog 66 #[.agg #[.int .i64 x.cpu, .int .i64 x.mem], .slice x.L.ao x.L.la x.L.ca, .slice x.S.ao x.S.la x.S.ca, .slice x.T.ao x.T.la x.T.ca, .int .i64 x.warm] w1 fun e w' => e = .returned (.bool (wantsOk x.cpu x.mem x.L.xs x.S.xs x.T.xs x.warm)) ∧ Below w1.heap.size w1 w') := fun w1 hb => wants_any x.cpu x.mem x.L x.S x.T x.warm w1 (h.L.b hb) (h.S.b hb) (h.T.b hb)
  obtain ⟨b1, h_b1⟩ : ∃ b, (btw x.rep 0 1000000) = b := ⟨_, rfl⟩
  rw [h_b1] at HE H_b1
  obtain ⟨b2, h_b2⟩ : ∃ b, (wantsOk x.cpu x.mem x.L.xs x.S.xs x.T.xs x.warm) = b := ⟨_, rfl⟩
  rw [h_b2] at HE H_b2
  clear h_b1 h_b2
  rcases b1 with _ | _
  · go_enter Try.func32, Try.ntmps32
    go_wp2_with fail
    refine (H_b1.out _ Hb.out).mono ?_
    rintro e wb1 ⟨rfl, hb⟩
    replace k0 := Below.cell_some hb k0
    replace k1 := Below.cell_some hb k1
    replace k2 := Below.cell_some hb k2
    replace k3 := Below.cell_some hb k3
    replace k4 := Below.cell_some hb k4
    replace k5 := Below.cell_some hb k5
    replace k6 := Below.cell_some hb k6
    replace Hb := Lib.hid (Hb.out.trans (hb.mono Hb.out.size))
    clear hb
    go_wp2_with fail
    go_ret
    exact ⟨ret_bool HE.out.symm, Hb.out⟩
  · go_enter Try.func32, Try.ntmps32
    go_wp2_with fail
    refine (H_b1.out _ Hb.out).mono ?_
    rintro e wb1 ⟨rfl, hb⟩
    replace k0 := Below.cell_some hb k0
    replace k1 := Below.cell_some hb k1
    replace k2 := Below.cell_some hb k2
    replace k3 := Below.cell_some hb k3
    replace k4 := Below.cell_some hb k4
    replace k5 := Below.cell_some hb k5
    replace k6 := Below.cell_some hb k6
    replace Hb := Lib.hid (Hb.out.trans (hb.mono Hb.out.size))
    clear hb
    go_wp2_with fail
    refine (H_b2.out _ Hb.out).mono ?_
    rintro e wb2 ⟨rfl, hb⟩
    replace k0 := Below.cell_some hb k0
    replace k1 := Below.cell_some hb k1
    replace k2 := Below.cell_some hb k2
    replace k3 := Below.cell_some hb k3
    replace k4 := Below.cell_some hb k4
    replace k5 := Below.cell_some hb k5
    replace k6 := Below.cell_some hb k6
    replace Hb := Lib.hid (Hb.out.trans (hb.mono Hb.out.size))
    clear hb
    go_wp2_with fail
    go_ret
    exact ⟨ret_bool HE.out.symm, Hb.out⟩

set_option maxRecDepth 100000 in
set_option maxHeartbeats 3200000 in
theorem pod_any (x : PodV) (w : World) (h : PodAt w x) :
    Calls Try.prog 33 #[.agg #[.string x.owner, .string x.node, .int .i64 x.phase, .int .i64 x.since, .int .i64 x.cpu, .int .i64 x.mem, .slice x.L.ao x.L.la x.L.ca, .slice x.S.ao x.S.la x.S.ca, .slice x.T.ao x.T.la x.T.ca, .int .i64 x.warm]] w fun e w' => e = .returned (.bool (podOk x)) ∧ Below w.heap.size w w' := by
  have Hb : Hid (Below w.heap.size w (w.alloc (.cells #[.string x.owner, .string x.node, .int .i64 x.phase, .int .i64 x.since, .int .i64 x.cpu, .int .i64 x.mem, .slice x.L.ao x.L.la x.L.ca, .slice x.S.ao x.S.la x.S.ca, .slice x.T.ao x.T.la x.T.ca, .int .i64 x.warm] 31))) := (Below.refl w.heap.size w).alloc (Nat.le_refl _) _
  have k0 : (w.alloc (.cells #[.string x.owner, .string x.node, .int .i64 x.phase, .int .i64 x.since, .int .i64 x.cpu, .int .i64 x.mem, .slice x.L.ao x.L.la x.L.ca, .slice x.S.ao x.S.la x.S.ca, .slice x.T.ao x.T.la x.T.ca, .int .i64 x.warm] 31)).cell? ⟨w.heap.size, 0, none⟩ = some (.string x.owner) := cell_new w _ _ 0
  have k1 : (w.alloc (.cells #[.string x.owner, .string x.node, .int .i64 x.phase, .int .i64 x.since, .int .i64 x.cpu, .int .i64 x.mem, .slice x.L.ao x.L.la x.L.ca, .slice x.S.ao x.S.la x.S.ca, .slice x.T.ao x.T.la x.T.ca, .int .i64 x.warm] 31)).cell? ⟨w.heap.size, 1, none⟩ = some (.string x.node) := cell_new w _ _ 1
  have k2 : (w.alloc (.cells #[.string x.owner, .string x.node, .int .i64 x.phase, .int .i64 x.since, .int .i64 x.cpu, .int .i64 x.mem, .slice x.L.ao x.L.la x.L.ca, .slice x.S.ao x.S.la x.S.ca, .slice x.T.ao x.T.la x.T.ca, .int .i64 x.warm] 31)).cell? ⟨w.heap.size, 2, none⟩ = some (.int .i64 x.phase) := cell_new w _ _ 2
  have k3 : (w.alloc (.cells #[.string x.owner, .string x.node, .int .i64 x.phase, .int .i64 x.since, .int .i64 x.cpu, .int .i64 x.mem, .slice x.L.ao x.L.la x.L.ca, .slice x.S.ao x.S.la x.S.ca, .slice x.T.ao x.T.la x.T.ca, .int .i64 x.warm] 31)).cell? ⟨w.heap.size, 3, none⟩ = some (.int .i64 x.since) := cell_new w _ _ 3
  have k4 : (w.alloc (.cells #[.string x.owner, .string x.node, .int .i64 x.phase, .int .i64 x.since, .int .i64 x.cpu, .int .i64 x.mem, .slice x.L.ao x.L.la x.L.ca, .slice x.S.ao x.S.la x.S.ca, .slice x.T.ao x.T.la x.T.ca, .int .i64 x.warm] 31)).cell? ⟨w.heap.size, 4, none⟩ = some (.int .i64 x.cpu) := cell_new w _ _ 4
  have k5 : (w.alloc (.cells #[.string x.owner, .string x.node, .int .i64 x.phase, .int .i64 x.since, .int .i64 x.cpu, .int .i64 x.mem, .slice x.L.ao x.L.la x.L.ca, .slice x.S.ao x.S.la x.S.ca, .slice x.T.ao x.T.la x.T.ca, .int .i64 x.warm] 31)).cell? ⟨w.heap.size, 5, none⟩ = some (.int .i64 x.mem) := cell_new w _ _ 5
  have k6 : (w.alloc (.cells #[.string x.owner, .string x.node, .int .i64 x.phase, .int .i64 x.since, .int .i64 x.cpu, .int .i64 x.mem, .slice x.L.ao x.L.la x.L.ca, .slice x.S.ao x.S.la x.S.ca, .slice x.T.ao x.T.la x.T.ca, .int .i64 x.warm] 31)).cell? ⟨w.heap.size, 6, none⟩ = some (.slice x.L.ao x.L.la x.L.ca) := cell_new w _ _ 6
  have k7 : (w.alloc (.cells #[.string x.owner, .string x.node, .int .i64 x.phase, .int .i64 x.since, .int .i64 x.cpu, .int .i64 x.mem, .slice x.L.ao x.L.la x.L.ca, .slice x.S.ao x.S.la x.S.ca, .slice x.T.ao x.T.la x.T.ca, .int .i64 x.warm] 31)).cell? ⟨w.heap.size, 7, none⟩ = some (.slice x.S.ao x.S.la x.S.ca) := cell_new w _ _ 7
  have k8 : (w.alloc (.cells #[.string x.owner, .string x.node, .int .i64 x.phase, .int .i64 x.since, .int .i64 x.cpu, .int .i64 x.mem, .slice x.L.ao x.L.la x.L.ca, .slice x.S.ao x.S.la x.S.ca, .slice x.T.ao x.T.la x.T.ca, .int .i64 x.warm] 31)).cell? ⟨w.heap.size, 8, none⟩ = some (.slice x.T.ao x.T.la x.T.ca) := cell_new w _ _ 8
  have k9 : (w.alloc (.cells #[.string x.owner, .string x.node, .int .i64 x.phase, .int .i64 x.since, .int .i64 x.cpu, .int .i64 x.mem, .slice x.L.ao x.L.la x.L.ca, .slice x.S.ao x.S.la x.S.ca, .slice x.T.ao x.T.la x.T.ca, .int .i64 x.warm] 31)).cell? ⟨w.heap.size, 9, none⟩ = some (.int .i64 x.warm) := cell_new w _ _ 9
  have HE : Hid ((podOk x) = (nameOf x.owner.data.toList && (okVal x.node && (btw x.phase 0 3 && (btw x.since 0 4611686018427387904 && (((x.phase == 3) || ((!x.node.toList.isEmpty) == (x.phase != 0))) && wantsOk x.cpu x.mem x.L.xs x.S.xs x.T.xs x.warm)))))) := by
    show _ = _
    rfl
  have H_b1 : Hid (∀ w1, Below w.heap.size w w1 → Calls Try.prog 37 #[.string x.owner] w1 fun e w' => e = .returned (.bool (nameOf x.owner.data.toList)) ∧ Below w1.heap.size w1 w') := fun w1 hb => (name_any x.owner w1).mono fun e w' h => ⟨h.1, by rw [← h.2]; exact Below.refl _ _⟩
  have H_b2 : Hid (∀ w1, Below w.heap.size w w1 → Calls Try.prog 67 #[.string x.node] w1 fun e w' => e = .returned (.bool (okVal x.node)) ∧ Below w1.heap.size w1 w') := fun w1 hb => named_any x.node w1
  have H_b3 : Hid (∀ w1, Below w.heap.size w w1 → Calls Try.prog 65 #[.int .i64 x.phase, .int .i64 0, .int .i64 3] w1 fun e w' => e = .returned (.bool (btw x.phase 0 3)) ∧ Below w1.heap.size w1 w') := fun w1 hb => btw_int (x.phase) 0 3 w1
  have H_b4 : Hid (∀ w1, Below w.heap.size w w1 → Calls Try.prog 68 #[.int .i64 x.since, .int .i64 0, .int .i64 4611686018427387904] w1 fun e w' => e = .returned (.bool (btw x.since 0 4611686018427387904)) ∧ Below w1.heap.size w1 w') := fun w1 hb => btw_int64 (x.since) 0 4611686018427387904 w1
  have H_b8 : Hid (∀ w1, Below w.heap.size w w1 → Calls Try.prog 66 #[.agg #[.int .i64 x.cpu, .int .i64 x.mem], .slice x.L.ao x.L.la x.L.ca, .slice x.S.ao x.S.la x.S.ca, .slice x.T.ao x.T.la x.T.ca, .int .i64 x.warm] w1 fun e w' => e = .returned (.bool (wantsOk x.cpu x.mem x.L.xs x.S.xs x.T.xs x.warm)) ∧ Below w1.heap.size w1 w') := fun w1 hb => wants_any x.cpu x.mem x.L x.S x.T x.warm w1 (h.L.b hb) (h.S.b hb) (h.T.b hb)
  obtain ⟨b1, h_b1⟩ : ∃ b, (nameOf x.owner.data.toList) = b := ⟨_, rfl⟩
  rw [h_b1] at HE H_b1
  obtain ⟨b2, h_b2⟩ : ∃ b, (okVal x.node) = b := ⟨_, rfl⟩
  rw [h_b2] at HE H_b2
  obtain ⟨b3, h_b3⟩ : ∃ b, (btw x.phase 0 3) = b := ⟨_, rfl⟩
  rw [h_b3] at HE H_b3
  obtain ⟨b4, h_b4⟩ : ∃ b, (btw x.since 0 4611686018427387904) = b := ⟨_, rfl⟩
  rw [h_b4] at HE H_b4
  obtain ⟨b6, h_b6⟩ : ∃ b, (x.node.toList.isEmpty) = b := ⟨_, rfl⟩
  rw [h_b6] at HE
  obtain ⟨b5, h_b5⟩ : ∃ b, (x.phase == 3) = b := ⟨_, rfl⟩
  rw [h_b5] at HE
  obtain ⟨b7, h_b7⟩ : ∃ b, (x.phase != 0) = b := ⟨_, rfl⟩
  rw [h_b7] at HE
  obtain ⟨b8, h_b8⟩ : ∃ b, (wantsOk x.cpu x.mem x.L.xs x.S.xs x.T.xs x.warm) = b := ⟨_, rfl⟩
  rw [h_b8] at HE H_b8
  clear h_b1 h_b2 h_b3 h_b4 h_b8
  rcases b1 with _ | _
  · go_enter Try.func33, Try.ntmps33
    go_wp2_with fail
    refine (H_b1.out _ Hb.out).mono ?_
    rintro e wb1 ⟨rfl, hb⟩
    replace k0 := Below.cell_some hb k0
    replace k1 := Below.cell_some hb k1
    replace k2 := Below.cell_some hb k2
    replace k3 := Below.cell_some hb k3
    replace k4 := Below.cell_some hb k4
    replace k5 := Below.cell_some hb k5
    replace k6 := Below.cell_some hb k6
    replace k7 := Below.cell_some hb k7
    replace k8 := Below.cell_some hb k8
    replace k9 := Below.cell_some hb k9
    replace Hb := Lib.hid (Hb.out.trans (hb.mono Hb.out.size))
    clear hb
    go_wp2_with fail
    go_ret
    exact ⟨ret_bool HE.out.symm, Hb.out⟩
  · rcases b2 with _ | _
    · go_enter Try.func33, Try.ntmps33
      go_wp2_with fail
      refine (H_b1.out _ Hb.out).mono ?_
      rintro e wb1 ⟨rfl, hb⟩
      replace k0 := Below.cell_some hb k0
      replace k1 := Below.cell_some hb k1
      replace k2 := Below.cell_some hb k2
      replace k3 := Below.cell_some hb k3
      replace k4 := Below.cell_some hb k4
      replace k5 := Below.cell_some hb k5
      replace k6 := Below.cell_some hb k6
      replace k7 := Below.cell_some hb k7
      replace k8 := Below.cell_some hb k8
      replace k9 := Below.cell_some hb k9
      replace Hb := Lib.hid (Hb.out.trans (hb.mono Hb.out.size))
      clear hb
      go_wp2_with fail
      refine (H_b2.out _ Hb.out).mono ?_
      rintro e wb2 ⟨rfl, hb⟩
      replace k0 := Below.cell_some hb k0
      replace k1 := Below.cell_some hb k1
      replace k2 := Below.cell_some hb k2
      replace k3 := Below.cell_some hb k3
      replace k4 := Below.cell_some hb k4
      replace k5 := Below.cell_some hb k5
      replace k6 := Below.cell_some hb k6
      replace k7 := Below.cell_some hb k7
      replace k8 := Below.cell_some hb k8
      replace k9 := Below.cell_some hb k9
      replace Hb := Lib.hid (Hb.out.trans (hb.mono Hb.out.size))
      clear hb
      go_wp2_with fail
      go_ret
      exact ⟨ret_bool HE.out.symm, Hb.out⟩
    · rcases b3 with _ | _
      · go_enter Try.func33, Try.ntmps33
        go_wp2_with fail
        refine (H_b1.out _ Hb.out).mono ?_
        rintro e wb1 ⟨rfl, hb⟩
        replace k0 := Below.cell_some hb k0
        replace k1 := Below.cell_some hb k1
        replace k2 := Below.cell_some hb k2
        replace k3 := Below.cell_some hb k3
        replace k4 := Below.cell_some hb k4
        replace k5 := Below.cell_some hb k5
        replace k6 := Below.cell_some hb k6
        replace k7 := Below.cell_some hb k7
        replace k8 := Below.cell_some hb k8
        replace k9 := Below.cell_some hb k9
        replace Hb := Lib.hid (Hb.out.trans (hb.mono Hb.out.size))
        clear hb
        go_wp2_with fail
        refine (H_b2.out _ Hb.out).mono ?_
        rintro e wb2 ⟨rfl, hb⟩
        replace k0 := Below.cell_some hb k0
        replace k1 := Below.cell_some hb k1
        replace k2 := Below.cell_some hb k2
        replace k3 := Below.cell_some hb k3
        replace k4 := Below.cell_some hb k4
        replace k5 := Below.cell_some hb k5
        replace k6 := Below.cell_some hb k6
        replace k7 := Below.cell_some hb k7
        replace k8 := Below.cell_some hb k8
        replace k9 := Below.cell_some hb k9
        replace Hb := Lib.hid (Hb.out.trans (hb.mono Hb.out.size))
        clear hb
        go_wp2_with fail
        refine (H_b3.out _ Hb.out).mono ?_
        rintro e wb3 ⟨rfl, hb⟩
        replace k0 := Below.cell_some hb k0
        replace k1 := Below.cell_some hb k1
        replace k2 := Below.cell_some hb k2
        replace k3 := Below.cell_some hb k3
        replace k4 := Below.cell_some hb k4
        replace k5 := Below.cell_some hb k5
        replace k6 := Below.cell_some hb k6
        replace k7 := Below.cell_some hb k7
        replace k8 := Below.cell_some hb k8
        replace k9 := Below.cell_some hb k9
        replace Hb := Lib.hid (Hb.out.trans (hb.mono Hb.out.size))
        clear hb
        go_wp2_with fail
        go_ret
        exact ⟨ret_bool HE.out.symm, Hb.out⟩
      · rcases b4 with _ | _
        · go_enter Try.func33, Try.ntmps33
          go_wp2_with fail
          refine (H_b1.out _ Hb.out).mono ?_
          rintro e wb1 ⟨rfl, hb⟩
          replace k0 := Below.cell_some hb k0
          replace k1 := Below.cell_some hb k1
          replace k2 := Below.cell_some hb k2
          replace k3 := Below.cell_some hb k3
          replace k4 := Below.cell_some hb k4
          replace k5 := Below.cell_some hb k5
          replace k6 := Below.cell_some hb k6
          replace k7 := Below.cell_some hb k7
          replace k8 := Below.cell_some hb k8
          replace k9 := Below.cell_some hb k9
          replace Hb := Lib.hid (Hb.out.trans (hb.mono Hb.out.size))
          clear hb
          go_wp2_with fail
          refine (H_b2.out _ Hb.out).mono ?_
          rintro e wb2 ⟨rfl, hb⟩
          replace k0 := Below.cell_some hb k0
          replace k1 := Below.cell_some hb k1
          replace k2 := Below.cell_some hb k2
          replace k3 := Below.cell_some hb k3
          replace k4 := Below.cell_some hb k4
          replace k5 := Below.cell_some hb k5
          replace k6 := Below.cell_some hb k6
          replace k7 := Below.cell_some hb k7
          replace k8 := Below.cell_some hb k8
          replace k9 := Below.cell_some hb k9
          replace Hb := Lib.hid (Hb.out.trans (hb.mono Hb.out.size))
          clear hb
          go_wp2_with fail
          refine (H_b3.out _ Hb.out).mono ?_
          rintro e wb3 ⟨rfl, hb⟩
          replace k0 := Below.cell_some hb k0
          replace k1 := Below.cell_some hb k1
          replace k2 := Below.cell_some hb k2
          replace k3 := Below.cell_some hb k3
          replace k4 := Below.cell_some hb k4
          replace k5 := Below.cell_some hb k5
          replace k6 := Below.cell_some hb k6
          replace k7 := Below.cell_some hb k7
          replace k8 := Below.cell_some hb k8
          replace k9 := Below.cell_some hb k9
          replace Hb := Lib.hid (Hb.out.trans (hb.mono Hb.out.size))
          clear hb
          go_wp2_with fail
          refine (H_b4.out _ Hb.out).mono ?_
          rintro e wb4 ⟨rfl, hb⟩
          replace k0 := Below.cell_some hb k0
          replace k1 := Below.cell_some hb k1
          replace k2 := Below.cell_some hb k2
          replace k3 := Below.cell_some hb k3
          replace k4 := Below.cell_some hb k4
          replace k5 := Below.cell_some hb k5
          replace k6 := Below.cell_some hb k6
          replace k7 := Below.cell_some hb k7
          replace k8 := Below.cell_some hb k8
          replace k9 := Below.cell_some hb k9
          replace Hb := Lib.hid (Hb.out.trans (hb.mono Hb.out.size))
          clear hb
          go_wp2_with fail
          go_ret
          exact ⟨ret_bool HE.out.symm, Hb.out⟩
        · rcases b6 with _ | _
          · rcases b5 with _ | _
            · rcases b7 with _ | _
              · go_enter Try.func33, Try.ntmps33
                go_wp2_with fail
                refine (H_b1.out _ Hb.out).mono ?_
                rintro e wb1 ⟨rfl, hb⟩
                replace k0 := Below.cell_some hb k0
                replace k1 := Below.cell_some hb k1
                replace k2 := Below.cell_some hb k2
                replace k3 := Below.cell_some hb k3
                replace k4 := Below.cell_some hb k4
                replace k5 := Below.cell_some hb k5
                replace k6 := Below.cell_some hb k6
                replace k7 := Below.cell_some hb k7
                replace k8 := Below.cell_some hb k8
                replace k9 := Below.cell_some hb k9
                replace Hb := Lib.hid (Hb.out.trans (hb.mono Hb.out.size))
                clear hb
                go_wp2_with fail
                refine (H_b2.out _ Hb.out).mono ?_
                rintro e wb2 ⟨rfl, hb⟩
                replace k0 := Below.cell_some hb k0
                replace k1 := Below.cell_some hb k1
                replace k2 := Below.cell_some hb k2
                replace k3 := Below.cell_some hb k3
                replace k4 := Below.cell_some hb k4
                replace k5 := Below.cell_some hb k5
                replace k6 := Below.cell_some hb k6
                replace k7 := Below.cell_some hb k7
                replace k8 := Below.cell_some hb k8
                replace k9 := Below.cell_some hb k9
                replace Hb := Lib.hid (Hb.out.trans (hb.mono Hb.out.size))
                clear hb
                go_wp2_with fail
                refine (H_b3.out _ Hb.out).mono ?_
                rintro e wb3 ⟨rfl, hb⟩
                replace k0 := Below.cell_some hb k0
                replace k1 := Below.cell_some hb k1
                replace k2 := Below.cell_some hb k2
                replace k3 := Below.cell_some hb k3
                replace k4 := Below.cell_some hb k4
                replace k5 := Below.cell_some hb k5
                replace k6 := Below.cell_some hb k6
                replace k7 := Below.cell_some hb k7
                replace k8 := Below.cell_some hb k8
                replace k9 := Below.cell_some hb k9
                replace Hb := Lib.hid (Hb.out.trans (hb.mono Hb.out.size))
                clear hb
                go_wp2_with fail
                refine (H_b4.out _ Hb.out).mono ?_
                rintro e wb4 ⟨rfl, hb⟩
                replace k0 := Below.cell_some hb k0
                replace k1 := Below.cell_some hb k1
                replace k2 := Below.cell_some hb k2
                replace k3 := Below.cell_some hb k3
                replace k4 := Below.cell_some hb k4
                replace k5 := Below.cell_some hb k5
                replace k6 := Below.cell_some hb k6
                replace k7 := Below.cell_some hb k7
                replace k8 := Below.cell_some hb k8
                replace k9 := Below.cell_some hb k9
                replace Hb := Lib.hid (Hb.out.trans (hb.mono Hb.out.size))
                clear hb
                go_wp2_with fail
                go_ret
                exact ⟨ret_bool HE.out.symm, Hb.out⟩
              · go_enter Try.func33, Try.ntmps33
                go_wp2_with fail
                refine (H_b1.out _ Hb.out).mono ?_
                rintro e wb1 ⟨rfl, hb⟩
                replace k0 := Below.cell_some hb k0
                replace k1 := Below.cell_some hb k1
                replace k2 := Below.cell_some hb k2
                replace k3 := Below.cell_some hb k3
                replace k4 := Below.cell_some hb k4
                replace k5 := Below.cell_some hb k5
                replace k6 := Below.cell_some hb k6
                replace k7 := Below.cell_some hb k7
                replace k8 := Below.cell_some hb k8
                replace k9 := Below.cell_some hb k9
                replace Hb := Lib.hid (Hb.out.trans (hb.mono Hb.out.size))
                clear hb
                go_wp2_with fail
                refine (H_b2.out _ Hb.out).mono ?_
                rintro e wb2 ⟨rfl, hb⟩
                replace k0 := Below.cell_some hb k0
                replace k1 := Below.cell_some hb k1
                replace k2 := Below.cell_some hb k2
                replace k3 := Below.cell_some hb k3
                replace k4 := Below.cell_some hb k4
                replace k5 := Below.cell_some hb k5
                replace k6 := Below.cell_some hb k6
                replace k7 := Below.cell_some hb k7
                replace k8 := Below.cell_some hb k8
                replace k9 := Below.cell_some hb k9
                replace Hb := Lib.hid (Hb.out.trans (hb.mono Hb.out.size))
                clear hb
                go_wp2_with fail
                refine (H_b3.out _ Hb.out).mono ?_
                rintro e wb3 ⟨rfl, hb⟩
                replace k0 := Below.cell_some hb k0
                replace k1 := Below.cell_some hb k1
                replace k2 := Below.cell_some hb k2
                replace k3 := Below.cell_some hb k3
                replace k4 := Below.cell_some hb k4
                replace k5 := Below.cell_some hb k5
                replace k6 := Below.cell_some hb k6
                replace k7 := Below.cell_some hb k7
                replace k8 := Below.cell_some hb k8
                replace k9 := Below.cell_some hb k9
                replace Hb := Lib.hid (Hb.out.trans (hb.mono Hb.out.size))
                clear hb
                go_wp2_with fail
                refine (H_b4.out _ Hb.out).mono ?_
                rintro e wb4 ⟨rfl, hb⟩
                replace k0 := Below.cell_some hb k0
                replace k1 := Below.cell_some hb k1
                replace k2 := Below.cell_some hb k2
                replace k3 := Below.cell_some hb k3
                replace k4 := Below.cell_some hb k4
                replace k5 := Below.cell_some hb k5
                replace k6 := Below.cell_some hb k6
                replace k7 := Below.cell_some hb k7
                replace k8 := Below.cell_some hb k8
                replace k9 := Below.cell_some hb k9
                replace Hb := Lib.hid (Hb.out.trans (hb.mono Hb.out.size))
                clear hb
                go_wp2_with fail
                refine (H_b8.out _ Hb.out).mono ?_
                rintro e wb8 ⟨rfl, hb⟩
                replace k0 := Below.cell_some hb k0
                replace k1 := Below.cell_some hb k1
                replace k2 := Below.cell_some hb k2
                replace k3 := Below.cell_some hb k3
                replace k4 := Below.cell_some hb k4
                replace k5 := Below.cell_some hb k5
                replace k6 := Below.cell_some hb k6
                replace k7 := Below.cell_some hb k7
                replace k8 := Below.cell_some hb k8
                replace k9 := Below.cell_some hb k9
                replace Hb := Lib.hid (Hb.out.trans (hb.mono Hb.out.size))
                clear hb
                go_wp2_with fail
                go_ret
                exact ⟨ret_bool HE.out.symm, Hb.out⟩
            · go_enter Try.func33, Try.ntmps33
              go_wp2_with fail
              refine (H_b1.out _ Hb.out).mono ?_
              rintro e wb1 ⟨rfl, hb⟩
              replace k0 := Below.cell_some hb k0
              replace k1 := Below.cell_some hb k1
              replace k2 := Below.cell_some hb k2
              replace k3 := Below.cell_some hb k3
              replace k4 := Below.cell_some hb k4
              replace k5 := Below.cell_some hb k5
              replace k6 := Below.cell_some hb k6
              replace k7 := Below.cell_some hb k7
              replace k8 := Below.cell_some hb k8
              replace k9 := Below.cell_some hb k9
              replace Hb := Lib.hid (Hb.out.trans (hb.mono Hb.out.size))
              clear hb
              go_wp2_with fail
              refine (H_b2.out _ Hb.out).mono ?_
              rintro e wb2 ⟨rfl, hb⟩
              replace k0 := Below.cell_some hb k0
              replace k1 := Below.cell_some hb k1
              replace k2 := Below.cell_some hb k2
              replace k3 := Below.cell_some hb k3
              replace k4 := Below.cell_some hb k4
              replace k5 := Below.cell_some hb k5
              replace k6 := Below.cell_some hb k6
              replace k7 := Below.cell_some hb k7
              replace k8 := Below.cell_some hb k8
              replace k9 := Below.cell_some hb k9
              replace Hb := Lib.hid (Hb.out.trans (hb.mono Hb.out.size))
              clear hb
              go_wp2_with fail
              refine (H_b3.out _ Hb.out).mono ?_
              rintro e wb3 ⟨rfl, hb⟩
              replace k0 := Below.cell_some hb k0
              replace k1 := Below.cell_some hb k1
              replace k2 := Below.cell_some hb k2
              replace k3 := Below.cell_some hb k3
              replace k4 := Below.cell_some hb k4
              replace k5 := Below.cell_some hb k5
              replace k6 := Below.cell_some hb k6
              replace k7 := Below.cell_some hb k7
              replace k8 := Below.cell_some hb k8
              replace k9 := Below.cell_some hb k9
              replace Hb := Lib.hid (Hb.out.trans (hb.mono Hb.out.size))
              clear hb
              go_wp2_with fail
              refine (H_b4.out _ Hb.out).mono ?_
              rintro e wb4 ⟨rfl, hb⟩
              replace k0 := Below.cell_some hb k0
              replace k1 := Below.cell_some hb k1
              replace k2 := Below.cell_some hb k2
              replace k3 := Below.cell_some hb k3
              replace k4 := Below.cell_some hb k4
              replace k5 := Below.cell_some hb k5
              replace k6 := Below.cell_some hb k6
              replace k7 := Below.cell_some hb k7
              replace k8 := Below.cell_some hb k8
              replace k9 := Below.cell_some hb k9
              replace Hb := Lib.hid (Hb.out.trans (hb.mono Hb.out.size))
              clear hb
              go_wp2_with fail
              refine (H_b8.out _ Hb.out).mono ?_
              rintro e wb8 ⟨rfl, hb⟩
              replace k0 := Below.cell_some hb k0
              replace k1 := Below.cell_some hb k1
              replace k2 := Below.cell_some hb k2
              replace k3 := Below.cell_some hb k3
              replace k4 := Below.cell_some hb k4
              replace k5 := Below.cell_some hb k5
              replace k6 := Below.cell_some hb k6
              replace k7 := Below.cell_some hb k7
              replace k8 := Below.cell_some hb k8
              replace k9 := Below.cell_some hb k9
              replace Hb := Lib.hid (Hb.out.trans (hb.mono Hb.out.size))
              clear hb
              go_wp2_with fail
              go_ret
              exact ⟨ret_bool HE.out.symm, Hb.out⟩
          · rcases b5 with _ | _
            · rcases b7 with _ | _
              · go_enter Try.func33, Try.ntmps33
                go_wp2_with fail
                refine (H_b1.out _ Hb.out).mono ?_
                rintro e wb1 ⟨rfl, hb⟩
                replace k0 := Below.cell_some hb k0
                replace k1 := Below.cell_some hb k1
                replace k2 := Below.cell_some hb k2
                replace k3 := Below.cell_some hb k3
                replace k4 := Below.cell_some hb k4
                replace k5 := Below.cell_some hb k5
                replace k6 := Below.cell_some hb k6
                replace k7 := Below.cell_some hb k7
                replace k8 := Below.cell_some hb k8
                replace k9 := Below.cell_some hb k9
                replace Hb := Lib.hid (Hb.out.trans (hb.mono Hb.out.size))
                clear hb
                go_wp2_with fail
                refine (H_b2.out _ Hb.out).mono ?_
                rintro e wb2 ⟨rfl, hb⟩
                replace k0 := Below.cell_some hb k0
                replace k1 := Below.cell_some hb k1
                replace k2 := Below.cell_some hb k2
                replace k3 := Below.cell_some hb k3
                replace k4 := Below.cell_some hb k4
                replace k5 := Below.cell_some hb k5
                replace k6 := Below.cell_some hb k6
                replace k7 := Below.cell_some hb k7
                replace k8 := Below.cell_some hb k8
                replace k9 := Below.cell_some hb k9
                replace Hb := Lib.hid (Hb.out.trans (hb.mono Hb.out.size))
                clear hb
                go_wp2_with fail
                refine (H_b3.out _ Hb.out).mono ?_
                rintro e wb3 ⟨rfl, hb⟩
                replace k0 := Below.cell_some hb k0
                replace k1 := Below.cell_some hb k1
                replace k2 := Below.cell_some hb k2
                replace k3 := Below.cell_some hb k3
                replace k4 := Below.cell_some hb k4
                replace k5 := Below.cell_some hb k5
                replace k6 := Below.cell_some hb k6
                replace k7 := Below.cell_some hb k7
                replace k8 := Below.cell_some hb k8
                replace k9 := Below.cell_some hb k9
                replace Hb := Lib.hid (Hb.out.trans (hb.mono Hb.out.size))
                clear hb
                go_wp2_with fail
                refine (H_b4.out _ Hb.out).mono ?_
                rintro e wb4 ⟨rfl, hb⟩
                replace k0 := Below.cell_some hb k0
                replace k1 := Below.cell_some hb k1
                replace k2 := Below.cell_some hb k2
                replace k3 := Below.cell_some hb k3
                replace k4 := Below.cell_some hb k4
                replace k5 := Below.cell_some hb k5
                replace k6 := Below.cell_some hb k6
                replace k7 := Below.cell_some hb k7
                replace k8 := Below.cell_some hb k8
                replace k9 := Below.cell_some hb k9
                replace Hb := Lib.hid (Hb.out.trans (hb.mono Hb.out.size))
                clear hb
                go_wp2_with fail
                refine (H_b8.out _ Hb.out).mono ?_
                rintro e wb8 ⟨rfl, hb⟩
                replace k0 := Below.cell_some hb k0
                replace k1 := Below.cell_some hb k1
                replace k2 := Below.cell_some hb k2
                replace k3 := Below.cell_some hb k3
                replace k4 := Below.cell_some hb k4
                replace k5 := Below.cell_some hb k5
                replace k6 := Below.cell_some hb k6
                replace k7 := Below.cell_some hb k7
                replace k8 := Below.cell_some hb k8
                replace k9 := Below.cell_some hb k9
                replace Hb := Lib.hid (Hb.out.trans (hb.mono Hb.out.size))
                clear hb
                go_wp2_with fail
                go_ret
                exact ⟨ret_bool HE.out.symm, Hb.out⟩
              · go_enter Try.func33, Try.ntmps33
                go_wp2_with fail
                refine (H_b1.out _ Hb.out).mono ?_
                rintro e wb1 ⟨rfl, hb⟩
                replace k0 := Below.cell_some hb k0
                replace k1 := Below.cell_some hb k1
                replace k2 := Below.cell_some hb k2
                replace k3 := Below.cell_some hb k3
                replace k4 := Below.cell_some hb k4
                replace k5 := Below.cell_some hb k5
                replace k6 := Below.cell_some hb k6
                replace k7 := Below.cell_some hb k7
                replace k8 := Below.cell_some hb k8
                replace k9 := Below.cell_some hb k9
                replace Hb := Lib.hid (Hb.out.trans (hb.mono Hb.out.size))
                clear hb
                go_wp2_with fail
                refine (H_b2.out _ Hb.out).mono ?_
                rintro e wb2 ⟨rfl, hb⟩
                replace k0 := Below.cell_some hb k0
                replace k1 := Below.cell_some hb k1
                replace k2 := Below.cell_some hb k2
                replace k3 := Below.cell_some hb k3
                replace k4 := Below.cell_some hb k4
                replace k5 := Below.cell_some hb k5
                replace k6 := Below.cell_some hb k6
                replace k7 := Below.cell_some hb k7
                replace k8 := Below.cell_some hb k8
                replace k9 := Below.cell_some hb k9
                replace Hb := Lib.hid (Hb.out.trans (hb.mono Hb.out.size))
                clear hb
                go_wp2_with fail
                refine (H_b3.out _ Hb.out).mono ?_
                rintro e wb3 ⟨rfl, hb⟩
                replace k0 := Below.cell_some hb k0
                replace k1 := Below.cell_some hb k1
                replace k2 := Below.cell_some hb k2
                replace k3 := Below.cell_some hb k3
                replace k4 := Below.cell_some hb k4
                replace k5 := Below.cell_some hb k5
                replace k6 := Below.cell_some hb k6
                replace k7 := Below.cell_some hb k7
                replace k8 := Below.cell_some hb k8
                replace k9 := Below.cell_some hb k9
                replace Hb := Lib.hid (Hb.out.trans (hb.mono Hb.out.size))
                clear hb
                go_wp2_with fail
                refine (H_b4.out _ Hb.out).mono ?_
                rintro e wb4 ⟨rfl, hb⟩
                replace k0 := Below.cell_some hb k0
                replace k1 := Below.cell_some hb k1
                replace k2 := Below.cell_some hb k2
                replace k3 := Below.cell_some hb k3
                replace k4 := Below.cell_some hb k4
                replace k5 := Below.cell_some hb k5
                replace k6 := Below.cell_some hb k6
                replace k7 := Below.cell_some hb k7
                replace k8 := Below.cell_some hb k8
                replace k9 := Below.cell_some hb k9
                replace Hb := Lib.hid (Hb.out.trans (hb.mono Hb.out.size))
                clear hb
                go_wp2_with fail
                go_ret
                exact ⟨ret_bool HE.out.symm, Hb.out⟩
            · go_enter Try.func33, Try.ntmps33
              go_wp2_with fail
              refine (H_b1.out _ Hb.out).mono ?_
              rintro e wb1 ⟨rfl, hb⟩
              replace k0 := Below.cell_some hb k0
              replace k1 := Below.cell_some hb k1
              replace k2 := Below.cell_some hb k2
              replace k3 := Below.cell_some hb k3
              replace k4 := Below.cell_some hb k4
              replace k5 := Below.cell_some hb k5
              replace k6 := Below.cell_some hb k6
              replace k7 := Below.cell_some hb k7
              replace k8 := Below.cell_some hb k8
              replace k9 := Below.cell_some hb k9
              replace Hb := Lib.hid (Hb.out.trans (hb.mono Hb.out.size))
              clear hb
              go_wp2_with fail
              refine (H_b2.out _ Hb.out).mono ?_
              rintro e wb2 ⟨rfl, hb⟩
              replace k0 := Below.cell_some hb k0
              replace k1 := Below.cell_some hb k1
              replace k2 := Below.cell_some hb k2
              replace k3 := Below.cell_some hb k3
              replace k4 := Below.cell_some hb k4
              replace k5 := Below.cell_some hb k5
              replace k6 := Below.cell_some hb k6
              replace k7 := Below.cell_some hb k7
              replace k8 := Below.cell_some hb k8
              replace k9 := Below.cell_some hb k9
              replace Hb := Lib.hid (Hb.out.trans (hb.mono Hb.out.size))
              clear hb
              go_wp2_with fail
              refine (H_b3.out _ Hb.out).mono ?_
              rintro e wb3 ⟨rfl, hb⟩
              replace k0 := Below.cell_some hb k0
              replace k1 := Below.cell_some hb k1
              replace k2 := Below.cell_some hb k2
              replace k3 := Below.cell_some hb k3
              replace k4 := Below.cell_some hb k4
              replace k5 := Below.cell_some hb k5
              replace k6 := Below.cell_some hb k6
              replace k7 := Below.cell_some hb k7
              replace k8 := Below.cell_some hb k8
              replace k9 := Below.cell_some hb k9
              replace Hb := Lib.hid (Hb.out.trans (hb.mono Hb.out.size))
              clear hb
              go_wp2_with fail
              refine (H_b4.out _ Hb.out).mono ?_
              rintro e wb4 ⟨rfl, hb⟩
              replace k0 := Below.cell_some hb k0
              replace k1 := Below.cell_some hb k1
              replace k2 := Below.cell_some hb k2
              replace k3 := Below.cell_some hb k3
              replace k4 := Below.cell_some hb k4
              replace k5 := Below.cell_some hb k5
              replace k6 := Below.cell_some hb k6
              replace k7 := Below.cell_some hb k7
              replace k8 := Below.cell_some hb k8
              replace k9 := Below.cell_some hb k9
              replace Hb := Lib.hid (Hb.out.trans (hb.mono Hb.out.size))
              clear hb
              go_wp2_with fail
              refine (H_b8.out _ Hb.out).mono ?_
              rintro e wb8 ⟨rfl, hb⟩
              replace k0 := Below.cell_some hb k0
              replace k1 := Below.cell_some hb k1
              replace k2 := Below.cell_some hb k2
              replace k3 := Below.cell_some hb k3
              replace k4 := Below.cell_some hb k4
              replace k5 := Below.cell_some hb k5
              replace k6 := Below.cell_some hb k6
              replace k7 := Below.cell_some hb k7
              replace k8 := Below.cell_some hb k8
              replace k9 := Below.cell_some hb k9
              replace Hb := Lib.hid (Hb.out.trans (hb.mono Hb.out.size))
              clear hb
              go_wp2_with fail
              go_ret
              exact ⟨ret_bool HE.out.symm, Hb.out⟩

set_option maxRecDepth 100000 in
set_option maxHeartbeats 3200000 in
theorem node_any (x : NodeV) (w : World) (h : NodeAt w x) :
    Calls Try.prog 34 #[.agg #[.string x.group, .int .i64 x.cpu, .int .i64 x.mem, .slice x.L.ao x.L.la x.L.ca, .slice x.T.ao x.T.la x.T.ca, .int .i64 x.since, .bool x.closed]] w fun e w' => e = .returned (.bool (nodeOk x)) ∧ Below w.heap.size w w' := by
  have Hb : Hid (Below w.heap.size w (w.alloc (.cells #[.string x.group, .int .i64 x.cpu, .int .i64 x.mem, .slice x.L.ao x.L.la x.L.ca, .slice x.T.ao x.T.la x.T.ca, .int .i64 x.since, .bool x.closed] 33))) := (Below.refl w.heap.size w).alloc (Nat.le_refl _) _
  have k0 : (w.alloc (.cells #[.string x.group, .int .i64 x.cpu, .int .i64 x.mem, .slice x.L.ao x.L.la x.L.ca, .slice x.T.ao x.T.la x.T.ca, .int .i64 x.since, .bool x.closed] 33)).cell? ⟨w.heap.size, 0, none⟩ = some (.string x.group) := cell_new w _ _ 0
  have k1 : (w.alloc (.cells #[.string x.group, .int .i64 x.cpu, .int .i64 x.mem, .slice x.L.ao x.L.la x.L.ca, .slice x.T.ao x.T.la x.T.ca, .int .i64 x.since, .bool x.closed] 33)).cell? ⟨w.heap.size, 1, none⟩ = some (.int .i64 x.cpu) := cell_new w _ _ 1
  have k2 : (w.alloc (.cells #[.string x.group, .int .i64 x.cpu, .int .i64 x.mem, .slice x.L.ao x.L.la x.L.ca, .slice x.T.ao x.T.la x.T.ca, .int .i64 x.since, .bool x.closed] 33)).cell? ⟨w.heap.size, 2, none⟩ = some (.int .i64 x.mem) := cell_new w _ _ 2
  have k3 : (w.alloc (.cells #[.string x.group, .int .i64 x.cpu, .int .i64 x.mem, .slice x.L.ao x.L.la x.L.ca, .slice x.T.ao x.T.la x.T.ca, .int .i64 x.since, .bool x.closed] 33)).cell? ⟨w.heap.size, 3, none⟩ = some (.slice x.L.ao x.L.la x.L.ca) := cell_new w _ _ 3
  have k4 : (w.alloc (.cells #[.string x.group, .int .i64 x.cpu, .int .i64 x.mem, .slice x.L.ao x.L.la x.L.ca, .slice x.T.ao x.T.la x.T.ca, .int .i64 x.since, .bool x.closed] 33)).cell? ⟨w.heap.size, 4, none⟩ = some (.slice x.T.ao x.T.la x.T.ca) := cell_new w _ _ 4
  have k5 : (w.alloc (.cells #[.string x.group, .int .i64 x.cpu, .int .i64 x.mem, .slice x.L.ao x.L.la x.L.ca, .slice x.T.ao x.T.la x.T.ca, .int .i64 x.since, .bool x.closed] 33)).cell? ⟨w.heap.size, 5, none⟩ = some (.int .i64 x.since) := cell_new w _ _ 5
  have k6 : (w.alloc (.cells #[.string x.group, .int .i64 x.cpu, .int .i64 x.mem, .slice x.L.ao x.L.la x.L.ca, .slice x.T.ao x.T.la x.T.ca, .int .i64 x.since, .bool x.closed] 33)).cell? ⟨w.heap.size, 6, none⟩ = some (.bool x.closed) := cell_new w _ _ 6
  have HE : Hid ((nodeOk x) = (okVal x.group && (sizeOk x.cpu x.mem && (labelsOk x.L.xs && (labelsOk x.T.xs && btw x.since 0 4611686018427387904))))) := by
    show _ = _
    rfl
  have H_b1 : Hid (∀ w1, Below w.heap.size w w1 → Calls Try.prog 67 #[.string x.group] w1 fun e w' => e = .returned (.bool (okVal x.group)) ∧ Below w1.heap.size w1 w') := fun w1 hb => named_any x.group w1
  have H_b2 : Hid (∀ w1, Below w.heap.size w w1 → Calls Try.prog 69 #[.agg #[.int .i64 x.cpu, .int .i64 x.mem]] w1 fun e w' => e = .returned (.bool (sizeOk x.cpu x.mem)) ∧ Below w1.heap.size w1 w') := fun w1 hb => size_any x.cpu x.mem w1
  have H_b3 : Hid (∀ w1, Below w.heap.size w w1 → Calls Try.prog 70 #[.slice x.L.ao x.L.la x.L.ca] w1 fun e w' => e = .returned (.bool (labelsOk x.L.xs)) ∧ Below w1.heap.size w1 w') := fun w1 hb => right_any x.L.xs _ _ _ w1 (h.L.b hb)
  have H_b4 : Hid (∀ w1, Below w.heap.size w w1 → Calls Try.prog 70 #[.slice x.T.ao x.T.la x.T.ca] w1 fun e w' => e = .returned (.bool (labelsOk x.T.xs)) ∧ Below w1.heap.size w1 w') := fun w1 hb => right_any x.T.xs _ _ _ w1 (h.T.b hb)
  have H_b5 : Hid (∀ w1, Below w.heap.size w w1 → Calls Try.prog 68 #[.int .i64 x.since, .int .i64 0, .int .i64 4611686018427387904] w1 fun e w' => e = .returned (.bool (btw x.since 0 4611686018427387904)) ∧ Below w1.heap.size w1 w') := fun w1 hb => btw_int64 (x.since) 0 4611686018427387904 w1
  obtain ⟨b1, h_b1⟩ : ∃ b, (okVal x.group) = b := ⟨_, rfl⟩
  rw [h_b1] at HE H_b1
  obtain ⟨b2, h_b2⟩ : ∃ b, (sizeOk x.cpu x.mem) = b := ⟨_, rfl⟩
  rw [h_b2] at HE H_b2
  obtain ⟨b3, h_b3⟩ : ∃ b, (labelsOk x.L.xs) = b := ⟨_, rfl⟩
  rw [h_b3] at HE H_b3
  obtain ⟨b4, h_b4⟩ : ∃ b, (labelsOk x.T.xs) = b := ⟨_, rfl⟩
  rw [h_b4] at HE H_b4
  obtain ⟨b5, h_b5⟩ : ∃ b, (btw x.since 0 4611686018427387904) = b := ⟨_, rfl⟩
  rw [h_b5] at HE H_b5
  clear h_b1 h_b2 h_b3 h_b4 h_b5
  rcases b1 with _ | _
  · go_enter Try.func34, Try.ntmps34
    go_wp2_with fail
    refine (H_b1.out _ Hb.out).mono ?_
    rintro e wb1 ⟨rfl, hb⟩
    replace k0 := Below.cell_some hb k0
    replace k1 := Below.cell_some hb k1
    replace k2 := Below.cell_some hb k2
    replace k3 := Below.cell_some hb k3
    replace k4 := Below.cell_some hb k4
    replace k5 := Below.cell_some hb k5
    replace k6 := Below.cell_some hb k6
    replace Hb := Lib.hid (Hb.out.trans (hb.mono Hb.out.size))
    clear hb
    go_wp2_with fail
    go_ret
    exact ⟨ret_bool HE.out.symm, Hb.out⟩
  · rcases b2 with _ | _
    · go_enter Try.func34, Try.ntmps34
      go_wp2_with fail
      refine (H_b1.out _ Hb.out).mono ?_
      rintro e wb1 ⟨rfl, hb⟩
      replace k0 := Below.cell_some hb k0
      replace k1 := Below.cell_some hb k1
      replace k2 := Below.cell_some hb k2
      replace k3 := Below.cell_some hb k3
      replace k4 := Below.cell_some hb k4
      replace k5 := Below.cell_some hb k5
      replace k6 := Below.cell_some hb k6
      replace Hb := Lib.hid (Hb.out.trans (hb.mono Hb.out.size))
      clear hb
      go_wp2_with fail
      refine (H_b2.out _ Hb.out).mono ?_
      rintro e wb2 ⟨rfl, hb⟩
      replace k0 := Below.cell_some hb k0
      replace k1 := Below.cell_some hb k1
      replace k2 := Below.cell_some hb k2
      replace k3 := Below.cell_some hb k3
      replace k4 := Below.cell_some hb k4
      replace k5 := Below.cell_some hb k5
      replace k6 := Below.cell_some hb k6
      replace Hb := Lib.hid (Hb.out.trans (hb.mono Hb.out.size))
      clear hb
      go_wp2_with fail
      go_ret
      exact ⟨ret_bool HE.out.symm, Hb.out⟩
    · rcases b3 with _ | _
      · go_enter Try.func34, Try.ntmps34
        go_wp2_with fail
        refine (H_b1.out _ Hb.out).mono ?_
        rintro e wb1 ⟨rfl, hb⟩
        replace k0 := Below.cell_some hb k0
        replace k1 := Below.cell_some hb k1
        replace k2 := Below.cell_some hb k2
        replace k3 := Below.cell_some hb k3
        replace k4 := Below.cell_some hb k4
        replace k5 := Below.cell_some hb k5
        replace k6 := Below.cell_some hb k6
        replace Hb := Lib.hid (Hb.out.trans (hb.mono Hb.out.size))
        clear hb
        go_wp2_with fail
        refine (H_b2.out _ Hb.out).mono ?_
        rintro e wb2 ⟨rfl, hb⟩
        replace k0 := Below.cell_some hb k0
        replace k1 := Below.cell_some hb k1
        replace k2 := Below.cell_some hb k2
        replace k3 := Below.cell_some hb k3
        replace k4 := Below.cell_some hb k4
        replace k5 := Below.cell_some hb k5
        replace k6 := Below.cell_some hb k6
        replace Hb := Lib.hid (Hb.out.trans (hb.mono Hb.out.size))
        clear hb
        go_wp2_with fail
        refine (H_b3.out _ Hb.out).mono ?_
        rintro e wb3 ⟨rfl, hb⟩
        replace k0 := Below.cell_some hb k0
        replace k1 := Below.cell_some hb k1
        replace k2 := Below.cell_some hb k2
        replace k3 := Below.cell_some hb k3
        replace k4 := Below.cell_some hb k4
        replace k5 := Below.cell_some hb k5
        replace k6 := Below.cell_some hb k6
        replace Hb := Lib.hid (Hb.out.trans (hb.mono Hb.out.size))
        clear hb
        go_wp2_with fail
        go_ret
        exact ⟨ret_bool HE.out.symm, Hb.out⟩
      · rcases b4 with _ | _
        · go_enter Try.func34, Try.ntmps34
          go_wp2_with fail
          refine (H_b1.out _ Hb.out).mono ?_
          rintro e wb1 ⟨rfl, hb⟩
          replace k0 := Below.cell_some hb k0
          replace k1 := Below.cell_some hb k1
          replace k2 := Below.cell_some hb k2
          replace k3 := Below.cell_some hb k3
          replace k4 := Below.cell_some hb k4
          replace k5 := Below.cell_some hb k5
          replace k6 := Below.cell_some hb k6
          replace Hb := Lib.hid (Hb.out.trans (hb.mono Hb.out.size))
          clear hb
          go_wp2_with fail
          refine (H_b2.out _ Hb.out).mono ?_
          rintro e wb2 ⟨rfl, hb⟩
          replace k0 := Below.cell_some hb k0
          replace k1 := Below.cell_some hb k1
          replace k2 := Below.cell_some hb k2
          replace k3 := Below.cell_some hb k3
          replace k4 := Below.cell_some hb k4
          replace k5 := Below.cell_some hb k5
          replace k6 := Below.cell_some hb k6
          replace Hb := Lib.hid (Hb.out.trans (hb.mono Hb.out.size))
          clear hb
          go_wp2_with fail
          refine (H_b3.out _ Hb.out).mono ?_
          rintro e wb3 ⟨rfl, hb⟩
          replace k0 := Below.cell_some hb k0
          replace k1 := Below.cell_some hb k1
          replace k2 := Below.cell_some hb k2
          replace k3 := Below.cell_some hb k3
          replace k4 := Below.cell_some hb k4
          replace k5 := Below.cell_some hb k5
          replace k6 := Below.cell_some hb k6
          replace Hb := Lib.hid (Hb.out.trans (hb.mono Hb.out.size))
          clear hb
          go_wp2_with fail
          refine (H_b4.out _ Hb.out).mono ?_
          rintro e wb4 ⟨rfl, hb⟩
          replace k0 := Below.cell_some hb k0
          replace k1 := Below.cell_some hb k1
          replace k2 := Below.cell_some hb k2
          replace k3 := Below.cell_some hb k3
          replace k4 := Below.cell_some hb k4
          replace k5 := Below.cell_some hb k5
          replace k6 := Below.cell_some hb k6
          replace Hb := Lib.hid (Hb.out.trans (hb.mono Hb.out.size))
          clear hb
          go_wp2_with fail
          go_ret
          exact ⟨ret_bool HE.out.symm, Hb.out⟩
        · go_enter Try.func34, Try.ntmps34
          go_wp2_with fail
          refine (H_b1.out _ Hb.out).mono ?_
          rintro e wb1 ⟨rfl, hb⟩
          replace k0 := Below.cell_some hb k0
          replace k1 := Below.cell_some hb k1
          replace k2 := Below.cell_some hb k2
          replace k3 := Below.cell_some hb k3
          replace k4 := Below.cell_some hb k4
          replace k5 := Below.cell_some hb k5
          replace k6 := Below.cell_some hb k6
          replace Hb := Lib.hid (Hb.out.trans (hb.mono Hb.out.size))
          clear hb
          go_wp2_with fail
          refine (H_b2.out _ Hb.out).mono ?_
          rintro e wb2 ⟨rfl, hb⟩
          replace k0 := Below.cell_some hb k0
          replace k1 := Below.cell_some hb k1
          replace k2 := Below.cell_some hb k2
          replace k3 := Below.cell_some hb k3
          replace k4 := Below.cell_some hb k4
          replace k5 := Below.cell_some hb k5
          replace k6 := Below.cell_some hb k6
          replace Hb := Lib.hid (Hb.out.trans (hb.mono Hb.out.size))
          clear hb
          go_wp2_with fail
          refine (H_b3.out _ Hb.out).mono ?_
          rintro e wb3 ⟨rfl, hb⟩
          replace k0 := Below.cell_some hb k0
          replace k1 := Below.cell_some hb k1
          replace k2 := Below.cell_some hb k2
          replace k3 := Below.cell_some hb k3
          replace k4 := Below.cell_some hb k4
          replace k5 := Below.cell_some hb k5
          replace k6 := Below.cell_some hb k6
          replace Hb := Lib.hid (Hb.out.trans (hb.mono Hb.out.size))
          clear hb
          go_wp2_with fail
          refine (H_b4.out _ Hb.out).mono ?_
          rintro e wb4 ⟨rfl, hb⟩
          replace k0 := Below.cell_some hb k0
          replace k1 := Below.cell_some hb k1
          replace k2 := Below.cell_some hb k2
          replace k3 := Below.cell_some hb k3
          replace k4 := Below.cell_some hb k4
          replace k5 := Below.cell_some hb k5
          replace k6 := Below.cell_some hb k6
          replace Hb := Lib.hid (Hb.out.trans (hb.mono Hb.out.size))
          clear hb
          go_wp2_with fail
          refine (H_b5.out _ Hb.out).mono ?_
          rintro e wb5 ⟨rfl, hb⟩
          replace k0 := Below.cell_some hb k0
          replace k1 := Below.cell_some hb k1
          replace k2 := Below.cell_some hb k2
          replace k3 := Below.cell_some hb k3
          replace k4 := Below.cell_some hb k4
          replace k5 := Below.cell_some hb k5
          replace k6 := Below.cell_some hb k6
          replace Hb := Lib.hid (Hb.out.trans (hb.mono Hb.out.size))
          clear hb
          go_wp2_with fail
          go_ret
          exact ⟨ret_bool HE.out.symm, Hb.out⟩

set_option maxRecDepth 100000 in
set_option maxHeartbeats 3200000 in
theorem group_any (x : GroupV) (w : World) (h : GroupAt w x) :
    Calls Try.prog 35 #[.agg #[.int .i64 x.min, .int .i64 x.max, .int .i64 x.target, .int .i64 x.cpu, .int .i64 x.mem, .slice x.L.ao x.L.la x.L.ca, .slice x.T.ao x.T.la x.T.ca, .int .i64 x.prio]] w fun e w' => e = .returned (.bool (groupOk x)) ∧ Below w.heap.size w w' := by
  have Hb : Hid (Below w.heap.size w (w.alloc (.cells #[.int .i64 x.min, .int .i64 x.max, .int .i64 x.target, .int .i64 x.cpu, .int .i64 x.mem, .slice x.L.ao x.L.la x.L.ca, .slice x.T.ao x.T.la x.T.ca, .int .i64 x.prio] 35))) := (Below.refl w.heap.size w).alloc (Nat.le_refl _) _
  have k0 : (w.alloc (.cells #[.int .i64 x.min, .int .i64 x.max, .int .i64 x.target, .int .i64 x.cpu, .int .i64 x.mem, .slice x.L.ao x.L.la x.L.ca, .slice x.T.ao x.T.la x.T.ca, .int .i64 x.prio] 35)).cell? ⟨w.heap.size, 0, none⟩ = some (.int .i64 x.min) := cell_new w _ _ 0
  have k1 : (w.alloc (.cells #[.int .i64 x.min, .int .i64 x.max, .int .i64 x.target, .int .i64 x.cpu, .int .i64 x.mem, .slice x.L.ao x.L.la x.L.ca, .slice x.T.ao x.T.la x.T.ca, .int .i64 x.prio] 35)).cell? ⟨w.heap.size, 1, none⟩ = some (.int .i64 x.max) := cell_new w _ _ 1
  have k2 : (w.alloc (.cells #[.int .i64 x.min, .int .i64 x.max, .int .i64 x.target, .int .i64 x.cpu, .int .i64 x.mem, .slice x.L.ao x.L.la x.L.ca, .slice x.T.ao x.T.la x.T.ca, .int .i64 x.prio] 35)).cell? ⟨w.heap.size, 2, none⟩ = some (.int .i64 x.target) := cell_new w _ _ 2
  have k3 : (w.alloc (.cells #[.int .i64 x.min, .int .i64 x.max, .int .i64 x.target, .int .i64 x.cpu, .int .i64 x.mem, .slice x.L.ao x.L.la x.L.ca, .slice x.T.ao x.T.la x.T.ca, .int .i64 x.prio] 35)).cell? ⟨w.heap.size, 3, none⟩ = some (.int .i64 x.cpu) := cell_new w _ _ 3
  have k4 : (w.alloc (.cells #[.int .i64 x.min, .int .i64 x.max, .int .i64 x.target, .int .i64 x.cpu, .int .i64 x.mem, .slice x.L.ao x.L.la x.L.ca, .slice x.T.ao x.T.la x.T.ca, .int .i64 x.prio] 35)).cell? ⟨w.heap.size, 4, none⟩ = some (.int .i64 x.mem) := cell_new w _ _ 4
  have k5 : (w.alloc (.cells #[.int .i64 x.min, .int .i64 x.max, .int .i64 x.target, .int .i64 x.cpu, .int .i64 x.mem, .slice x.L.ao x.L.la x.L.ca, .slice x.T.ao x.T.la x.T.ca, .int .i64 x.prio] 35)).cell? ⟨w.heap.size, 5, none⟩ = some (.slice x.L.ao x.L.la x.L.ca) := cell_new w _ _ 5
  have k6 : (w.alloc (.cells #[.int .i64 x.min, .int .i64 x.max, .int .i64 x.target, .int .i64 x.cpu, .int .i64 x.mem, .slice x.L.ao x.L.la x.L.ca, .slice x.T.ao x.T.la x.T.ca, .int .i64 x.prio] 35)).cell? ⟨w.heap.size, 6, none⟩ = some (.slice x.T.ao x.T.la x.T.ca) := cell_new w _ _ 6
  have k7 : (w.alloc (.cells #[.int .i64 x.min, .int .i64 x.max, .int .i64 x.target, .int .i64 x.cpu, .int .i64 x.mem, .slice x.L.ao x.L.la x.L.ca, .slice x.T.ao x.T.la x.T.ca, .int .i64 x.prio] 35)).cell? ⟨w.heap.size, 7, none⟩ = some (.int .i64 x.prio) := cell_new w _ _ 7
  have HE : Hid ((groupOk x) = (decide (0 ≤ x.min) && (decide (x.min ≤ x.max) && (decide (x.max ≤ 64) && (btw x.target x.min x.max && (sizeOk x.cpu x.mem && (labelsOk x.L.xs && (labelsOk x.T.xs && btw x.prio 0 1000)))))))) := by
    show _ = _
    rfl
  have H_b4 : Hid (∀ w1, Below w.heap.size w w1 → Calls Try.prog 65 #[.int .i64 x.target, .int .i64 x.min, .int .i64 x.max] w1 fun e w' => e = .returned (.bool (btw x.target x.min x.max)) ∧ Below w1.heap.size w1 w') := fun w1 hb => btw_int (x.target) x.min x.max w1
  have H_b5 : Hid (∀ w1, Below w.heap.size w w1 → Calls Try.prog 69 #[.agg #[.int .i64 x.cpu, .int .i64 x.mem]] w1 fun e w' => e = .returned (.bool (sizeOk x.cpu x.mem)) ∧ Below w1.heap.size w1 w') := fun w1 hb => size_any x.cpu x.mem w1
  have H_b6 : Hid (∀ w1, Below w.heap.size w w1 → Calls Try.prog 70 #[.slice x.L.ao x.L.la x.L.ca] w1 fun e w' => e = .returned (.bool (labelsOk x.L.xs)) ∧ Below w1.heap.size w1 w') := fun w1 hb => right_any x.L.xs _ _ _ w1 (h.L.b hb)
  have H_b7 : Hid (∀ w1, Below w.heap.size w w1 → Calls Try.prog 70 #[.slice x.T.ao x.T.la x.T.ca] w1 fun e w' => e = .returned (.bool (labelsOk x.T.xs)) ∧ Below w1.heap.size w1 w') := fun w1 hb => right_any x.T.xs _ _ _ w1 (h.T.b hb)
  have H_b8 : Hid (∀ w1, Below w.heap.size w w1 → Calls Try.prog 65 #[.int .i64 x.prio, .int .i64 0, .int .i64 1000] w1 fun e w' => e = .returned (.bool (btw x.prio 0 1000)) ∧ Below w1.heap.size w1 w') := fun w1 hb => btw_int (x.prio) 0 1000 w1
  obtain ⟨b1, h_b1⟩ : ∃ b, (decide (0 ≤ x.min)) = b := ⟨_, rfl⟩
  rw [h_b1] at HE
  obtain ⟨b2, h_b2⟩ : ∃ b, (decide (x.min ≤ x.max)) = b := ⟨_, rfl⟩
  rw [h_b2] at HE
  obtain ⟨b3, h_b3⟩ : ∃ b, (decide (x.max ≤ 64)) = b := ⟨_, rfl⟩
  rw [h_b3] at HE
  obtain ⟨b4, h_b4⟩ : ∃ b, (btw x.target x.min x.max) = b := ⟨_, rfl⟩
  rw [h_b4] at HE H_b4
  obtain ⟨b5, h_b5⟩ : ∃ b, (sizeOk x.cpu x.mem) = b := ⟨_, rfl⟩
  rw [h_b5] at HE H_b5
  obtain ⟨b6, h_b6⟩ : ∃ b, (labelsOk x.L.xs) = b := ⟨_, rfl⟩
  rw [h_b6] at HE H_b6
  obtain ⟨b7, h_b7⟩ : ∃ b, (labelsOk x.T.xs) = b := ⟨_, rfl⟩
  rw [h_b7] at HE H_b7
  obtain ⟨b8, h_b8⟩ : ∃ b, (btw x.prio 0 1000) = b := ⟨_, rfl⟩
  rw [h_b8] at HE H_b8
  clear h_b4 h_b5 h_b6 h_b7 h_b8
  rcases b1 with _ | _
  · go_enter Try.func35, Try.ntmps35
    go_wp2_with fail
    go_ret
    exact ⟨ret_bool HE.out.symm, Hb.out⟩
  · rcases b2 with _ | _
    · go_enter Try.func35, Try.ntmps35
      go_wp2_with fail
      go_ret
      exact ⟨ret_bool HE.out.symm, Hb.out⟩
    · rcases b3 with _ | _
      · go_enter Try.func35, Try.ntmps35
        go_wp2_with fail
        go_ret
        exact ⟨ret_bool HE.out.symm, Hb.out⟩
      · rcases b4 with _ | _
        · go_enter Try.func35, Try.ntmps35
          go_wp2_with fail
          refine (H_b4.out _ Hb.out).mono ?_
          rintro e wb4 ⟨rfl, hb⟩
          replace k0 := Below.cell_some hb k0
          replace k1 := Below.cell_some hb k1
          replace k2 := Below.cell_some hb k2
          replace k3 := Below.cell_some hb k3
          replace k4 := Below.cell_some hb k4
          replace k5 := Below.cell_some hb k5
          replace k6 := Below.cell_some hb k6
          replace k7 := Below.cell_some hb k7
          replace Hb := Lib.hid (Hb.out.trans (hb.mono Hb.out.size))
          clear hb
          go_wp2_with fail
          go_ret
          exact ⟨ret_bool HE.out.symm, Hb.out⟩
        · rcases b5 with _ | _
          · go_enter Try.func35, Try.ntmps35
            go_wp2_with fail
            refine (H_b4.out _ Hb.out).mono ?_
            rintro e wb4 ⟨rfl, hb⟩
            replace k0 := Below.cell_some hb k0
            replace k1 := Below.cell_some hb k1
            replace k2 := Below.cell_some hb k2
            replace k3 := Below.cell_some hb k3
            replace k4 := Below.cell_some hb k4
            replace k5 := Below.cell_some hb k5
            replace k6 := Below.cell_some hb k6
            replace k7 := Below.cell_some hb k7
            replace Hb := Lib.hid (Hb.out.trans (hb.mono Hb.out.size))
            clear hb
            go_wp2_with fail
            refine (H_b5.out _ Hb.out).mono ?_
            rintro e wb5 ⟨rfl, hb⟩
            replace k0 := Below.cell_some hb k0
            replace k1 := Below.cell_some hb k1
            replace k2 := Below.cell_some hb k2
            replace k3 := Below.cell_some hb k3
            replace k4 := Below.cell_some hb k4
            replace k5 := Below.cell_some hb k5
            replace k6 := Below.cell_some hb k6
            replace k7 := Below.cell_some hb k7
            replace Hb := Lib.hid (Hb.out.trans (hb.mono Hb.out.size))
            clear hb
            go_wp2_with fail
            go_ret
            exact ⟨ret_bool HE.out.symm, Hb.out⟩
          · rcases b6 with _ | _
            · go_enter Try.func35, Try.ntmps35
              go_wp2_with fail
              refine (H_b4.out _ Hb.out).mono ?_
              rintro e wb4 ⟨rfl, hb⟩
              replace k0 := Below.cell_some hb k0
              replace k1 := Below.cell_some hb k1
              replace k2 := Below.cell_some hb k2
              replace k3 := Below.cell_some hb k3
              replace k4 := Below.cell_some hb k4
              replace k5 := Below.cell_some hb k5
              replace k6 := Below.cell_some hb k6
              replace k7 := Below.cell_some hb k7
              replace Hb := Lib.hid (Hb.out.trans (hb.mono Hb.out.size))
              clear hb
              go_wp2_with fail
              refine (H_b5.out _ Hb.out).mono ?_
              rintro e wb5 ⟨rfl, hb⟩
              replace k0 := Below.cell_some hb k0
              replace k1 := Below.cell_some hb k1
              replace k2 := Below.cell_some hb k2
              replace k3 := Below.cell_some hb k3
              replace k4 := Below.cell_some hb k4
              replace k5 := Below.cell_some hb k5
              replace k6 := Below.cell_some hb k6
              replace k7 := Below.cell_some hb k7
              replace Hb := Lib.hid (Hb.out.trans (hb.mono Hb.out.size))
              clear hb
              go_wp2_with fail
              refine (H_b6.out _ Hb.out).mono ?_
              rintro e wb6 ⟨rfl, hb⟩
              replace k0 := Below.cell_some hb k0
              replace k1 := Below.cell_some hb k1
              replace k2 := Below.cell_some hb k2
              replace k3 := Below.cell_some hb k3
              replace k4 := Below.cell_some hb k4
              replace k5 := Below.cell_some hb k5
              replace k6 := Below.cell_some hb k6
              replace k7 := Below.cell_some hb k7
              replace Hb := Lib.hid (Hb.out.trans (hb.mono Hb.out.size))
              clear hb
              go_wp2_with fail
              go_ret
              exact ⟨ret_bool HE.out.symm, Hb.out⟩
            · rcases b7 with _ | _
              · go_enter Try.func35, Try.ntmps35
                go_wp2_with fail
                refine (H_b4.out _ Hb.out).mono ?_
                rintro e wb4 ⟨rfl, hb⟩
                replace k0 := Below.cell_some hb k0
                replace k1 := Below.cell_some hb k1
                replace k2 := Below.cell_some hb k2
                replace k3 := Below.cell_some hb k3
                replace k4 := Below.cell_some hb k4
                replace k5 := Below.cell_some hb k5
                replace k6 := Below.cell_some hb k6
                replace k7 := Below.cell_some hb k7
                replace Hb := Lib.hid (Hb.out.trans (hb.mono Hb.out.size))
                clear hb
                go_wp2_with fail
                refine (H_b5.out _ Hb.out).mono ?_
                rintro e wb5 ⟨rfl, hb⟩
                replace k0 := Below.cell_some hb k0
                replace k1 := Below.cell_some hb k1
                replace k2 := Below.cell_some hb k2
                replace k3 := Below.cell_some hb k3
                replace k4 := Below.cell_some hb k4
                replace k5 := Below.cell_some hb k5
                replace k6 := Below.cell_some hb k6
                replace k7 := Below.cell_some hb k7
                replace Hb := Lib.hid (Hb.out.trans (hb.mono Hb.out.size))
                clear hb
                go_wp2_with fail
                refine (H_b6.out _ Hb.out).mono ?_
                rintro e wb6 ⟨rfl, hb⟩
                replace k0 := Below.cell_some hb k0
                replace k1 := Below.cell_some hb k1
                replace k2 := Below.cell_some hb k2
                replace k3 := Below.cell_some hb k3
                replace k4 := Below.cell_some hb k4
                replace k5 := Below.cell_some hb k5
                replace k6 := Below.cell_some hb k6
                replace k7 := Below.cell_some hb k7
                replace Hb := Lib.hid (Hb.out.trans (hb.mono Hb.out.size))
                clear hb
                go_wp2_with fail
                refine (H_b7.out _ Hb.out).mono ?_
                rintro e wb7 ⟨rfl, hb⟩
                replace k0 := Below.cell_some hb k0
                replace k1 := Below.cell_some hb k1
                replace k2 := Below.cell_some hb k2
                replace k3 := Below.cell_some hb k3
                replace k4 := Below.cell_some hb k4
                replace k5 := Below.cell_some hb k5
                replace k6 := Below.cell_some hb k6
                replace k7 := Below.cell_some hb k7
                replace Hb := Lib.hid (Hb.out.trans (hb.mono Hb.out.size))
                clear hb
                go_wp2_with fail
                go_ret
                exact ⟨ret_bool HE.out.symm, Hb.out⟩
              · go_enter Try.func35, Try.ntmps35
                go_wp2_with fail
                refine (H_b4.out _ Hb.out).mono ?_
                rintro e wb4 ⟨rfl, hb⟩
                replace k0 := Below.cell_some hb k0
                replace k1 := Below.cell_some hb k1
                replace k2 := Below.cell_some hb k2
                replace k3 := Below.cell_some hb k3
                replace k4 := Below.cell_some hb k4
                replace k5 := Below.cell_some hb k5
                replace k6 := Below.cell_some hb k6
                replace k7 := Below.cell_some hb k7
                replace Hb := Lib.hid (Hb.out.trans (hb.mono Hb.out.size))
                clear hb
                go_wp2_with fail
                refine (H_b5.out _ Hb.out).mono ?_
                rintro e wb5 ⟨rfl, hb⟩
                replace k0 := Below.cell_some hb k0
                replace k1 := Below.cell_some hb k1
                replace k2 := Below.cell_some hb k2
                replace k3 := Below.cell_some hb k3
                replace k4 := Below.cell_some hb k4
                replace k5 := Below.cell_some hb k5
                replace k6 := Below.cell_some hb k6
                replace k7 := Below.cell_some hb k7
                replace Hb := Lib.hid (Hb.out.trans (hb.mono Hb.out.size))
                clear hb
                go_wp2_with fail
                refine (H_b6.out _ Hb.out).mono ?_
                rintro e wb6 ⟨rfl, hb⟩
                replace k0 := Below.cell_some hb k0
                replace k1 := Below.cell_some hb k1
                replace k2 := Below.cell_some hb k2
                replace k3 := Below.cell_some hb k3
                replace k4 := Below.cell_some hb k4
                replace k5 := Below.cell_some hb k5
                replace k6 := Below.cell_some hb k6
                replace k7 := Below.cell_some hb k7
                replace Hb := Lib.hid (Hb.out.trans (hb.mono Hb.out.size))
                clear hb
                go_wp2_with fail
                refine (H_b7.out _ Hb.out).mono ?_
                rintro e wb7 ⟨rfl, hb⟩
                replace k0 := Below.cell_some hb k0
                replace k1 := Below.cell_some hb k1
                replace k2 := Below.cell_some hb k2
                replace k3 := Below.cell_some hb k3
                replace k4 := Below.cell_some hb k4
                replace k5 := Below.cell_some hb k5
                replace k6 := Below.cell_some hb k6
                replace k7 := Below.cell_some hb k7
                replace Hb := Lib.hid (Hb.out.trans (hb.mono Hb.out.size))
                clear hb
                go_wp2_with fail
                refine (H_b8.out _ Hb.out).mono ?_
                rintro e wb8 ⟨rfl, hb⟩
                replace k0 := Below.cell_some hb k0
                replace k1 := Below.cell_some hb k1
                replace k2 := Below.cell_some hb k2
                replace k3 := Below.cell_some hb k3
                replace k4 := Below.cell_some hb k4
                replace k5 := Below.cell_some hb k5
                replace k6 := Below.cell_some hb k6
                replace k7 := Below.cell_some hb k7
                replace Hb := Lib.hid (Hb.out.trans (hb.mono Hb.out.size))
                clear hb
                go_wp2_with fail
                go_ret
                exact ⟨ret_bool HE.out.symm, Hb.out⟩

set_option maxRecDepth 100000 in
set_option maxHeartbeats 3200000 in
theorem metric_any (x : Metric) (w : World)  :
    Calls Try.prog 72 #[.agg #[.int .i64 x.kind, .string x.name, .int .i64 x.target]] w fun e w' => e = .returned (.bool (metricOk x)) ∧ Below w.heap.size w w' := by
  have Hb : Hid (Below w.heap.size w (w.alloc (.cells #[.int .i64 x.kind, .string x.name, .int .i64 x.target] 83))) := (Below.refl w.heap.size w).alloc (Nat.le_refl _) _
  have k0 : (w.alloc (.cells #[.int .i64 x.kind, .string x.name, .int .i64 x.target] 83)).cell? ⟨w.heap.size, 0, none⟩ = some (.int .i64 x.kind) := cell_new w _ _ 0
  have k1 : (w.alloc (.cells #[.int .i64 x.kind, .string x.name, .int .i64 x.target] 83)).cell? ⟨w.heap.size, 1, none⟩ = some (.string x.name) := cell_new w _ _ 1
  have k2 : (w.alloc (.cells #[.int .i64 x.kind, .string x.name, .int .i64 x.target] 83)).cell? ⟨w.heap.size, 2, none⟩ = some (.int .i64 x.target) := cell_new w _ _ 2
  have HE : Hid ((metricOk x) = (btw x.kind 0 3 && (nameOf x.name.data.toList && (wholeOk x.target && (!(x.target == 0) && ((x.kind != 0) || ((x.name.toList == [99, 112, 117]) || (x.name.toList == [109, 101, 109])))))))) := by
    show _ = _
    rfl
  have H_b1 : Hid (∀ w1, Below w.heap.size w w1 → Calls Try.prog 65 #[.int .i64 x.kind, .int .i64 0, .int .i64 3] w1 fun e w' => e = .returned (.bool (btw x.kind 0 3)) ∧ Below w1.heap.size w1 w') := fun w1 hb => btw_int (x.kind) 0 3 w1
  have H_b2 : Hid (∀ w1, Below w.heap.size w w1 → Calls Try.prog 37 #[.string x.name] w1 fun e w' => e = .returned (.bool (nameOf x.name.data.toList)) ∧ Below w1.heap.size w1 w') := fun w1 hb => (name_any x.name w1).mono fun e w' h => ⟨h.1, by rw [← h.2]; exact Below.refl _ _⟩
  have H_b3 : Hid (∀ w1, Below w.heap.size w w1 → Calls Try.prog 93 #[.int .i64 x.target] w1 fun e w' => e = .returned (.bool (wholeOk x.target)) ∧ Below w1.heap.size w1 w') := fun w1 hb => qright_any x.target w1
  obtain ⟨b1, h_b1⟩ : ∃ b, (btw x.kind 0 3) = b := ⟨_, rfl⟩
  rw [h_b1] at HE H_b1
  obtain ⟨b2, h_b2⟩ : ∃ b, (nameOf x.name.data.toList) = b := ⟨_, rfl⟩
  rw [h_b2] at HE H_b2
  obtain ⟨b3, h_b3⟩ : ∃ b, (wholeOk x.target) = b := ⟨_, rfl⟩
  rw [h_b3] at HE H_b3
  obtain ⟨b4, h_b4⟩ : ∃ b, (x.target == 0) = b := ⟨_, rfl⟩
  rw [h_b4] at HE
  obtain ⟨b5, h_b5⟩ : ∃ b, (x.kind != 0) = b := ⟨_, rfl⟩
  rw [h_b5] at HE
  obtain ⟨b6, h_b6⟩ : ∃ b, (x.name.toList == [99, 112, 117]) = b := ⟨_, rfl⟩
  rw [h_b6] at HE
  obtain ⟨b7, h_b7⟩ : ∃ b, (x.name.toList == [109, 101, 109]) = b := ⟨_, rfl⟩
  rw [h_b7] at HE
  clear h_b1 h_b2 h_b3
  rcases b1 with _ | _
  · go_enter Try.func72, Try.ntmps72
    go_wp2_with fail
    refine (H_b1.out _ Hb.out).mono ?_
    rintro e wb1 ⟨rfl, hb⟩
    replace k0 := Below.cell_some hb k0
    replace k1 := Below.cell_some hb k1
    replace k2 := Below.cell_some hb k2
    replace Hb := Lib.hid (Hb.out.trans (hb.mono Hb.out.size))
    clear hb
    go_wp2_with fail
    go_ret
    exact ⟨ret_bool HE.out.symm, Hb.out⟩
  · rcases b2 with _ | _
    · go_enter Try.func72, Try.ntmps72
      go_wp2_with fail
      refine (H_b1.out _ Hb.out).mono ?_
      rintro e wb1 ⟨rfl, hb⟩
      replace k0 := Below.cell_some hb k0
      replace k1 := Below.cell_some hb k1
      replace k2 := Below.cell_some hb k2
      replace Hb := Lib.hid (Hb.out.trans (hb.mono Hb.out.size))
      clear hb
      go_wp2_with fail
      refine (H_b2.out _ Hb.out).mono ?_
      rintro e wb2 ⟨rfl, hb⟩
      replace k0 := Below.cell_some hb k0
      replace k1 := Below.cell_some hb k1
      replace k2 := Below.cell_some hb k2
      replace Hb := Lib.hid (Hb.out.trans (hb.mono Hb.out.size))
      clear hb
      go_wp2_with fail
      go_ret
      exact ⟨ret_bool HE.out.symm, Hb.out⟩
    · rcases b3 with _ | _
      · go_enter Try.func72, Try.ntmps72
        go_wp2_with fail
        refine (H_b1.out _ Hb.out).mono ?_
        rintro e wb1 ⟨rfl, hb⟩
        replace k0 := Below.cell_some hb k0
        replace k1 := Below.cell_some hb k1
        replace k2 := Below.cell_some hb k2
        replace Hb := Lib.hid (Hb.out.trans (hb.mono Hb.out.size))
        clear hb
        go_wp2_with fail
        refine (H_b2.out _ Hb.out).mono ?_
        rintro e wb2 ⟨rfl, hb⟩
        replace k0 := Below.cell_some hb k0
        replace k1 := Below.cell_some hb k1
        replace k2 := Below.cell_some hb k2
        replace Hb := Lib.hid (Hb.out.trans (hb.mono Hb.out.size))
        clear hb
        go_wp2_with fail
        refine (H_b3.out _ Hb.out).mono ?_
        rintro e wb3 ⟨rfl, hb⟩
        replace k0 := Below.cell_some hb k0
        replace k1 := Below.cell_some hb k1
        replace k2 := Below.cell_some hb k2
        replace Hb := Lib.hid (Hb.out.trans (hb.mono Hb.out.size))
        clear hb
        go_wp2_with fail
        go_ret
        exact ⟨ret_bool HE.out.symm, Hb.out⟩
      · rcases b4 with _ | _
        · rcases b5 with _ | _
          · rcases b6 with _ | _
            · go_enter Try.func72, Try.ntmps72
              go_wp2_with fail
              refine (H_b1.out _ Hb.out).mono ?_
              rintro e wb1 ⟨rfl, hb⟩
              replace k0 := Below.cell_some hb k0
              replace k1 := Below.cell_some hb k1
              replace k2 := Below.cell_some hb k2
              replace Hb := Lib.hid (Hb.out.trans (hb.mono Hb.out.size))
              clear hb
              go_wp2_with fail
              refine (H_b2.out _ Hb.out).mono ?_
              rintro e wb2 ⟨rfl, hb⟩
              replace k0 := Below.cell_some hb k0
              replace k1 := Below.cell_some hb k1
              replace k2 := Below.cell_some hb k2
              replace Hb := Lib.hid (Hb.out.trans (hb.mono Hb.out.size))
              clear hb
              go_wp2_with fail
              refine (H_b3.out _ Hb.out).mono ?_
              rintro e wb3 ⟨rfl, hb⟩
              replace k0 := Below.cell_some hb k0
              replace k1 := Below.cell_some hb k1
              replace k2 := Below.cell_some hb k2
              replace Hb := Lib.hid (Hb.out.trans (hb.mono Hb.out.size))
              clear hb
              go_wp2_with fail
              go_ret
              exact ⟨ret_bool HE.out.symm, Hb.out⟩
            · go_enter Try.func72, Try.ntmps72
              go_wp2_with fail
              refine (H_b1.out _ Hb.out).mono ?_
              rintro e wb1 ⟨rfl, hb⟩
              replace k0 := Below.cell_some hb k0
              replace k1 := Below.cell_some hb k1
              replace k2 := Below.cell_some hb k2
              replace Hb := Lib.hid (Hb.out.trans (hb.mono Hb.out.size))
              clear hb
              go_wp2_with fail
              refine (H_b2.out _ Hb.out).mono ?_
              rintro e wb2 ⟨rfl, hb⟩
              replace k0 := Below.cell_some hb k0
              replace k1 := Below.cell_some hb k1
              replace k2 := Below.cell_some hb k2
              replace Hb := Lib.hid (Hb.out.trans (hb.mono Hb.out.size))
              clear hb
              go_wp2_with fail
              refine (H_b3.out _ Hb.out).mono ?_
              rintro e wb3 ⟨rfl, hb⟩
              replace k0 := Below.cell_some hb k0
              replace k1 := Below.cell_some hb k1
              replace k2 := Below.cell_some hb k2
              replace Hb := Lib.hid (Hb.out.trans (hb.mono Hb.out.size))
              clear hb
              go_wp2_with fail
              go_ret
              exact ⟨ret_bool HE.out.symm, Hb.out⟩
          · go_enter Try.func72, Try.ntmps72
            go_wp2_with fail
            refine (H_b1.out _ Hb.out).mono ?_
            rintro e wb1 ⟨rfl, hb⟩
            replace k0 := Below.cell_some hb k0
            replace k1 := Below.cell_some hb k1
            replace k2 := Below.cell_some hb k2
            replace Hb := Lib.hid (Hb.out.trans (hb.mono Hb.out.size))
            clear hb
            go_wp2_with fail
            refine (H_b2.out _ Hb.out).mono ?_
            rintro e wb2 ⟨rfl, hb⟩
            replace k0 := Below.cell_some hb k0
            replace k1 := Below.cell_some hb k1
            replace k2 := Below.cell_some hb k2
            replace Hb := Lib.hid (Hb.out.trans (hb.mono Hb.out.size))
            clear hb
            go_wp2_with fail
            refine (H_b3.out _ Hb.out).mono ?_
            rintro e wb3 ⟨rfl, hb⟩
            replace k0 := Below.cell_some hb k0
            replace k1 := Below.cell_some hb k1
            replace k2 := Below.cell_some hb k2
            replace Hb := Lib.hid (Hb.out.trans (hb.mono Hb.out.size))
            clear hb
            go_wp2_with fail
            go_ret
            exact ⟨ret_bool HE.out.symm, Hb.out⟩
        · go_enter Try.func72, Try.ntmps72
          go_wp2_with fail
          refine (H_b1.out _ Hb.out).mono ?_
          rintro e wb1 ⟨rfl, hb⟩
          replace k0 := Below.cell_some hb k0
          replace k1 := Below.cell_some hb k1
          replace k2 := Below.cell_some hb k2
          replace Hb := Lib.hid (Hb.out.trans (hb.mono Hb.out.size))
          clear hb
          go_wp2_with fail
          refine (H_b2.out _ Hb.out).mono ?_
          rintro e wb2 ⟨rfl, hb⟩
          replace k0 := Below.cell_some hb k0
          replace k1 := Below.cell_some hb k1
          replace k2 := Below.cell_some hb k2
          replace Hb := Lib.hid (Hb.out.trans (hb.mono Hb.out.size))
          clear hb
          go_wp2_with fail
          refine (H_b3.out _ Hb.out).mono ?_
          rintro e wb3 ⟨rfl, hb⟩
          replace k0 := Below.cell_some hb k0
          replace k1 := Below.cell_some hb k1
          replace k2 := Below.cell_some hb k2
          replace Hb := Lib.hid (Hb.out.trans (hb.mono Hb.out.size))
          clear hb
          go_wp2_with fail
          go_ret
          exact ⟨ret_bool HE.out.symm, Hb.out⟩

set_option maxRecDepth 100000 in
set_option maxHeartbeats 3200000 in
theorem policy_any (x : Policy) (w : World)  :
    Calls Try.prog 98 #[.agg #[.bool x.percent, .int .i64 x.value, .int .i64 x.period]] w fun e w' => e = .returned (.bool (polOk x)) ∧ Below w.heap.size w w' := by
  have Hb : Hid (Below w.heap.size w (w.alloc (.cells #[.bool x.percent, .int .i64 x.value, .int .i64 x.period] 49))) := (Below.refl w.heap.size w).alloc (Nat.le_refl _) _
  have k0 : (w.alloc (.cells #[.bool x.percent, .int .i64 x.value, .int .i64 x.period] 49)).cell? ⟨w.heap.size, 0, none⟩ = some (.bool x.percent) := cell_new w _ _ 0
  have k1 : (w.alloc (.cells #[.bool x.percent, .int .i64 x.value, .int .i64 x.period] 49)).cell? ⟨w.heap.size, 1, none⟩ = some (.int .i64 x.value) := cell_new w _ _ 1
  have k2 : (w.alloc (.cells #[.bool x.percent, .int .i64 x.value, .int .i64 x.period] 49)).cell? ⟨w.heap.size, 2, none⟩ = some (.int .i64 x.period) := cell_new w _ _ 2
  have HE : Hid ((polOk x) = (btw x.value 1 1000000 && btw x.period 1 1800)) := by
    show _ = _
    rfl
  have H_b1 : Hid (∀ w1, Below w.heap.size w w1 → Calls Try.prog 65 #[.int .i64 x.value, .int .i64 1, .int .i64 1000000] w1 fun e w' => e = .returned (.bool (btw x.value 1 1000000)) ∧ Below w1.heap.size w1 w') := fun w1 hb => btw_int (x.value) 1 1000000 w1
  have H_b2 : Hid (∀ w1, Below w.heap.size w w1 → Calls Try.prog 65 #[.int .i64 x.period, .int .i64 1, .int .i64 1800] w1 fun e w' => e = .returned (.bool (btw x.period 1 1800)) ∧ Below w1.heap.size w1 w') := fun w1 hb => btw_int (x.period) 1 1800 w1
  obtain ⟨b1, h_b1⟩ : ∃ b, (btw x.value 1 1000000) = b := ⟨_, rfl⟩
  rw [h_b1] at HE H_b1
  obtain ⟨b2, h_b2⟩ : ∃ b, (btw x.period 1 1800) = b := ⟨_, rfl⟩
  rw [h_b2] at HE H_b2
  clear h_b1 h_b2
  rcases b1 with _ | _
  · go_enter Try.func98, Try.ntmps98
    go_wp2_with fail
    refine (H_b1.out _ Hb.out).mono ?_
    rintro e wb1 ⟨rfl, hb⟩
    replace k0 := Below.cell_some hb k0
    replace k1 := Below.cell_some hb k1
    replace k2 := Below.cell_some hb k2
    replace Hb := Lib.hid (Hb.out.trans (hb.mono Hb.out.size))
    clear hb
    go_wp2_with fail
    go_ret
    exact ⟨ret_bool HE.out.symm, Hb.out⟩
  · go_enter Try.func98, Try.ntmps98
    go_wp2_with fail
    refine (H_b1.out _ Hb.out).mono ?_
    rintro e wb1 ⟨rfl, hb⟩
    replace k0 := Below.cell_some hb k0
    replace k1 := Below.cell_some hb k1
    replace k2 := Below.cell_some hb k2
    replace Hb := Lib.hid (Hb.out.trans (hb.mono Hb.out.size))
    clear hb
    go_wp2_with fail
    refine (H_b2.out _ Hb.out).mono ?_
    rintro e wb2 ⟨rfl, hb⟩
    replace k0 := Below.cell_some hb k0
    replace k1 := Below.cell_some hb k1
    replace k2 := Below.cell_some hb k2
    replace Hb := Lib.hid (Hb.out.trans (hb.mono Hb.out.size))
    clear hb
    go_wp2_with fail
    go_ret
    exact ⟨ret_bool HE.out.symm, Hb.out⟩


set_option maxHeartbeats 1000000 in
theorem indexFunc_Metric (p : Metric → Bool) (g : FuncId) (hE : Enters Try.prog g) (caps : Array Value) (xs : List Metric) (ao : Option Addr) (la ca : Nat) (w : World) (hS : SlR (Flat Metric.cells) 3 w ao la ca xs)
    (hp : ∀ (x : Metric) (w1 : World), Below w.heap.size w w1 → Calls Try.prog g (#[.agg x.cells.toArray] ++ caps) w1 fun e w2 => e = .returned (.bool (p x)) ∧ Below w1.heap.size w1 w2) :
    Calls Try.prog 112 #[.slice ao la ca, .func (.func g) #[] caps] w fun e w' => e = .returned (.int .i64 (idxOf p xs 0)) ∧ Below w.heap.size w w' := by
  have ha := hS.hmax; have hac := hS.hcap
  unfold maxLen at ha
  have Hp := Lib.hid hp
  clear hp
  go_enter Try.func112, Try.ntmps112
  go_wp2_with fail
  go_loopw [8] (fun i wr => ∃ k : Nat, k ≤ la ∧ i = .int .i64 k ∧ Hid (idxOf p xs 0 = idxOf p (xs.drop k) k) ∧ Below w.heap.size w wr) (fun i _ => la - (intOf i).toNat)
  case atStart => exact ⟨0, Nat.zero_le _, rfl, rfl, Below.refl _ _⟩
  case round =>
    obtain ⟨k, hk, rfl, hf, hb⟩ := hrel
    by_cases hlt : k < la
    · obtain ⟨b, off, rfl⟩ := hS.ptr (by decide) (by omega)
      have kx : k < xs.length := by have := hS.hlen; omega
      have hc := (hS.flatKeeps (Keeps.below hb)).flat kx
      have Hc := Lib.hid hc
      have Hb := Lib.hid hb
      have Hd := Lib.hid (idxOf_drop p kx)
      clear hc hb
      have hB := Hb.out.size
      go_wp2_with ((with_reducible refine at_slot 15 ?_); go_must (refine wpList_load_at aggMetric rfl _ rfl ⟨b, off + k * 3, none⟩ rfl xs[k].cells rfl (fun j u hu => by rw [Addr.add_lit]; exact Hc.out j u hu) ?_; refine wpList_callv rfl _ _ _ rfl g caps rfl hE [.agg xs[k].cells.toArray] rfl (fun v w2 => v = .bool (p xs[k]) ∧ Below wr.heap.size wr w2) ((Hp.out xs[k] wr Hb.out).mono fun e w2 ⟨h1, h2⟩ => ⟨_, h1, rfl, h2⟩) ?_; intro v w2; rintro ⟨rfl, hb2⟩))
      all_goals have Hb2 := Lib.hid (Hb.out.trans (hb2.mono hB))
      all_goals clear hb2
      · have hp1 : p xs[k] = true := by assumption
        go_ret
        exact ⟨ret_int (by rw [hf.out, Hd.out, if_pos hp1]), Hb2.out⟩
      · have hp1 : p xs[k] = false := by assumption
        go_roundw
        case rel => exact ⟨k + 1, by omega, by go_num, hf.out.trans (by rw [Hd.out, if_neg (by rw [hp1]; decide)]), Hb2.out⟩
        case measure => simp [intOf]; omega
    · have He := Lib.hid (idxOf_end p (xs := xs) (k := k) (by rw [hS.hlen]; omega))
      have Hb := Lib.hid hb
      clear hb
      go_wp2
      go_ret
      exact ⟨ret_int (by rw [hf.out, He.out]), Hb.out⟩

theorem containsFunc_Metric (p : Metric → Bool) (g : FuncId) (hE : Enters Try.prog g) (caps : Array Value) (xs : List Metric) (ao : Option Addr) (la ca : Nat) (w : World) (hS : SlR (Flat Metric.cells) 3 w ao la ca xs)
    (hp : ∀ (x : Metric) (w1 : World), Below w.heap.size w w1 → Calls Try.prog g (#[.agg x.cells.toArray] ++ caps) w1 fun e w2 => e = .returned (.bool (p x)) ∧ Below w1.heap.size w1 w2) :
    Calls Try.prog 95 #[.slice ao la ca, .func (.func g) #[] caps] w fun e w' => e = .returned (.bool (xs.any p)) ∧ Below w.heap.size w w' := by
  have H := Lib.hid (indexFunc_Metric p g hE caps xs ao la ca w hS hp)
  obtain ⟨i, hi⟩ : ∃ i, idxOf p xs 0 = i := ⟨_, rfl⟩
  rw [hi] at H
  have Hi : Hid (decide (0 ≤ i) = xs.any p) := by rw [← hi]; exact idxOf_any p xs 0
  clear hi hp
  go_enter Try.func95, Try.ntmps95
  go_wp2_with fail
  refine H.out.mono ?_
  rintro e w1 ⟨rfl, hb⟩
  have Hb := Lib.hid hb
  clear hb
  go_wp2_with fail
  go_ret
  exact ⟨ret_bool Hi.out, Hb.out⟩


theorem all1_Metric (x : Metric) (kb : Nat) (w : World) (hk : w.cell? ⟨kb, 0, none⟩ = some (.func (.func 72) #[] #[])) :
    Calls Try.prog 96 #[.agg x.cells.toArray, .pointer (some ⟨kb, 0, none⟩)] w fun e w' => e = .returned (.bool (!metricOk x)) ∧ Below w.heap.size w w' := by
  show Calls Try.prog 96 #[.agg #[.int .i64 x.kind, .string x.name, .int .i64 x.target], .pointer (some ⟨kb, 0, none⟩)] w _
  have hne := blk hk
  have Hb : Hid (Below w.heap.size w (w.alloc (.cells #[.int .i64 x.kind, .string x.name, .int .i64 x.target] 83))) := (Below.refl w.heap.size w).alloc (Nat.le_refl _) _
  have H : Hid (∀ w1, Calls Try.prog 72 #[.agg #[.int .i64 x.kind, .string x.name, .int .i64 x.target]] w1 fun e w' => e = .returned (.bool (metricOk x)) ∧ Below w1.heap.size w1 w') := fun w1 => metric_any x w1
  go_enter Try.func96, Try.ntmps96
  go_wp2_with fail
  refine (H.out _).mono ?_
  rintro e w1 ⟨rfl, hb⟩
  replace Hb := Lib.hid (Hb.out.trans (hb.mono Hb.out.size))
  clear hb
  go_wp2_with fail
  go_ret
  exact ⟨rfl, Hb.out⟩
theorem enters_all1_Metric : Enters Try.prog 96 := fun args w => by kernel_rfl
theorem all_Metric (xs : List Metric) (ao : Option Addr) (la ca : Nat) (w : World) (hS : SlR (Flat Metric.cells) 3 w ao la ca xs) :
    Calls Try.prog 71 #[.slice ao la ca, .func (.func 72) #[] #[]] w fun e w' => e = .returned (.bool (xs.all metricOk)) ∧ Below w.heap.size w w' := by
  have hb := (Below.refl w.heap.size w).alloc (Nat.le_refl _) (.cells #[.func (.func 72) #[] #[]] 137)
  have hk : (w.alloc (.cells #[.func (.func 72) #[] #[]] 137)).cell? ⟨w.heap.size, 0, none⟩ = some (.func (.func 72) #[] #[]) := cell_new w _ _ 0
  have H := Lib.hid (containsFunc_Metric (fun x => !metricOk x) _ enters_all1_Metric #[.pointer (some ⟨w.heap.size, 0, none⟩)] xs ao la ca _ (hS.flatKeeps (Keeps.below hb)) (fun x w1 hb1 => all1_Metric x _ w1 (Below.cell_some hb1 hk)))
  have Hb := Lib.hid hb
  have HE : Hid (xs.all metricOk = !xs.any fun x => !metricOk x) := by show _ = _; rw [List.not_any_eq_all_not]; simp
  clear hb hk
  go_enter Try.func71, Try.ntmps71
  go_wp2_with fail
  refine H.out.mono ?_
  rintro e w1 ⟨rfl, hb⟩
  replace Hb := Lib.hid (Hb.out.trans (hb.mono Hb.out.size))
  clear hb
  go_wp2_with fail
  go_ret
  exact ⟨ret_bool HE.out.symm, Hb.out⟩


set_option maxHeartbeats 1000000 in
theorem indexFunc_Policy (p : Policy → Bool) (g : FuncId) (hE : Enters Try.prog g) (caps : Array Value) (xs : List Policy) (ao : Option Addr) (la ca : Nat) (w : World) (hS : SlR (Flat Policy.cells) 3 w ao la ca xs)
    (hp : ∀ (x : Policy) (w1 : World), Below w.heap.size w w1 → Calls Try.prog g (#[.agg x.cells.toArray] ++ caps) w1 fun e w2 => e = .returned (.bool (p x)) ∧ Below w1.heap.size w1 w2) :
    Calls Try.prog 125 #[.slice ao la ca, .func (.func g) #[] caps] w fun e w' => e = .returned (.int .i64 (idxOf p xs 0)) ∧ Below w.heap.size w w' := by
  have ha := hS.hmax; have hac := hS.hcap
  unfold maxLen at ha
  have Hp := Lib.hid hp
  clear hp
  go_enter Try.func125, Try.ntmps125
  go_wp2_with fail
  go_loopw [8] (fun i wr => ∃ k : Nat, k ≤ la ∧ i = .int .i64 k ∧ Hid (idxOf p xs 0 = idxOf p (xs.drop k) k) ∧ Below w.heap.size w wr) (fun i _ => la - (intOf i).toNat)
  case atStart => exact ⟨0, Nat.zero_le _, rfl, rfl, Below.refl _ _⟩
  case round =>
    obtain ⟨k, hk, rfl, hf, hb⟩ := hrel
    by_cases hlt : k < la
    · obtain ⟨b, off, rfl⟩ := hS.ptr (by decide) (by omega)
      have kx : k < xs.length := by have := hS.hlen; omega
      have hc := (hS.flatKeeps (Keeps.below hb)).flat kx
      have Hc := Lib.hid hc
      have Hb := Lib.hid hb
      have Hd := Lib.hid (idxOf_drop p kx)
      clear hc hb
      have hB := Hb.out.size
      go_wp2_with ((with_reducible refine at_slot 15 ?_); go_must (refine wpList_load_at aggPolicy rfl _ rfl ⟨b, off + k * 3, none⟩ rfl xs[k].cells rfl (fun j u hu => by rw [Addr.add_lit]; exact Hc.out j u hu) ?_; refine wpList_callv rfl _ _ _ rfl g caps rfl hE [.agg xs[k].cells.toArray] rfl (fun v w2 => v = .bool (p xs[k]) ∧ Below wr.heap.size wr w2) ((Hp.out xs[k] wr Hb.out).mono fun e w2 ⟨h1, h2⟩ => ⟨_, h1, rfl, h2⟩) ?_; intro v w2; rintro ⟨rfl, hb2⟩))
      all_goals have Hb2 := Lib.hid (Hb.out.trans (hb2.mono hB))
      all_goals clear hb2
      · have hp1 : p xs[k] = true := by assumption
        go_ret
        exact ⟨ret_int (by rw [hf.out, Hd.out, if_pos hp1]), Hb2.out⟩
      · have hp1 : p xs[k] = false := by assumption
        go_roundw
        case rel => exact ⟨k + 1, by omega, by go_num, hf.out.trans (by rw [Hd.out, if_neg (by rw [hp1]; decide)]), Hb2.out⟩
        case measure => simp [intOf]; omega
    · have He := Lib.hid (idxOf_end p (xs := xs) (k := k) (by rw [hS.hlen]; omega))
      have Hb := Lib.hid hb
      clear hb
      go_wp2
      go_ret
      exact ⟨ret_int (by rw [hf.out, He.out]), Hb.out⟩

theorem containsFunc_Policy (p : Policy → Bool) (g : FuncId) (hE : Enters Try.prog g) (caps : Array Value) (xs : List Policy) (ao : Option Addr) (la ca : Nat) (w : World) (hS : SlR (Flat Policy.cells) 3 w ao la ca xs)
    (hp : ∀ (x : Policy) (w1 : World), Below w.heap.size w w1 → Calls Try.prog g (#[.agg x.cells.toArray] ++ caps) w1 fun e w2 => e = .returned (.bool (p x)) ∧ Below w1.heap.size w1 w2) :
    Calls Try.prog 113 #[.slice ao la ca, .func (.func g) #[] caps] w fun e w' => e = .returned (.bool (xs.any p)) ∧ Below w.heap.size w w' := by
  have H := Lib.hid (indexFunc_Policy p g hE caps xs ao la ca w hS hp)
  obtain ⟨i, hi⟩ : ∃ i, idxOf p xs 0 = i := ⟨_, rfl⟩
  rw [hi] at H
  have Hi : Hid (decide (0 ≤ i) = xs.any p) := by rw [← hi]; exact idxOf_any p xs 0
  clear hi hp
  go_enter Try.func113, Try.ntmps113
  go_wp2_with fail
  refine H.out.mono ?_
  rintro e w1 ⟨rfl, hb⟩
  have Hb := Lib.hid hb
  clear hb
  go_wp2_with fail
  go_ret
  exact ⟨ret_bool Hi.out, Hb.out⟩


theorem all1_Policy (x : Policy) (kb : Nat) (w : World) (hk : w.cell? ⟨kb, 0, none⟩ = some (.func (.func 98) #[] #[])) :
    Calls Try.prog 114 #[.agg x.cells.toArray, .pointer (some ⟨kb, 0, none⟩)] w fun e w' => e = .returned (.bool (!polOk x)) ∧ Below w.heap.size w w' := by
  show Calls Try.prog 114 #[.agg #[.bool x.percent, .int .i64 x.value, .int .i64 x.period], .pointer (some ⟨kb, 0, none⟩)] w _
  have hne := blk hk
  have Hb : Hid (Below w.heap.size w (w.alloc (.cells #[.bool x.percent, .int .i64 x.value, .int .i64 x.period] 49))) := (Below.refl w.heap.size w).alloc (Nat.le_refl _) _
  have H : Hid (∀ w1, Calls Try.prog 98 #[.agg #[.bool x.percent, .int .i64 x.value, .int .i64 x.period]] w1 fun e w' => e = .returned (.bool (polOk x)) ∧ Below w1.heap.size w1 w') := fun w1 => policy_any x w1
  go_enter Try.func114, Try.ntmps114
  go_wp2_with fail
  refine (H.out _).mono ?_
  rintro e w1 ⟨rfl, hb⟩
  replace Hb := Lib.hid (Hb.out.trans (hb.mono Hb.out.size))
  clear hb
  go_wp2_with fail
  go_ret
  exact ⟨rfl, Hb.out⟩
theorem enters_all1_Policy : Enters Try.prog 114 := fun args w => by kernel_rfl
theorem all_Policy (xs : List Policy) (ao : Option Addr) (la ca : Nat) (w : World) (hS : SlR (Flat Policy.cells) 3 w ao la ca xs) :
    Calls Try.prog 97 #[.slice ao la ca, .func (.func 98) #[] #[]] w fun e w' => e = .returned (.bool (xs.all polOk)) ∧ Below w.heap.size w w' := by
  have hb := (Below.refl w.heap.size w).alloc (Nat.le_refl _) (.cells #[.func (.func 98) #[] #[]] 152)
  have hk : (w.alloc (.cells #[.func (.func 98) #[] #[]] 152)).cell? ⟨w.heap.size, 0, none⟩ = some (.func (.func 98) #[] #[]) := cell_new w _ _ 0
  have H := Lib.hid (containsFunc_Policy (fun x => !polOk x) _ enters_all1_Policy #[.pointer (some ⟨w.heap.size, 0, none⟩)] xs ao la ca _ (hS.flatKeeps (Keeps.below hb)) (fun x w1 hb1 => all1_Policy x _ w1 (Below.cell_some hb1 hk)))
  have Hb := Lib.hid hb
  have HE : Hid (xs.all polOk = !xs.any fun x => !polOk x) := by show _ = _; rw [List.not_any_eq_all_not]; simp
  clear hb hk
  go_enter Try.func97, Try.ntmps97
  go_wp2_with fail
  refine H.out.mono ?_
  rintro e w1 ⟨rfl, hb⟩
  replace Hb := Lib.hid (Hb.out.trans (hb.mono Hb.out.size))
  clear hb
  go_wp2_with fail
  go_ret
  exact ⟨ret_bool HE.out.symm, Hb.out⟩

set_option maxRecDepth 100000 in
set_option maxHeartbeats 3200000 in
theorem behavior_any (x : BehV) (w : World) (h : RowP w x.P) :
    Calls Try.prog 73 #[.agg #[.int .i64 x.win, .int .i64 x.pick, .slice x.P.ao x.P.la x.P.ca]] w fun e w' => e = .returned (.bool (behOk x)) ∧ Below w.heap.size w w' := by
  have Hb : Hid (Below w.heap.size w (w.alloc (.cells #[.int .i64 x.win, .int .i64 x.pick, .slice x.P.ao x.P.la x.P.ca] 39))) := (Below.refl w.heap.size w).alloc (Nat.le_refl _) _
  have k0 : (w.alloc (.cells #[.int .i64 x.win, .int .i64 x.pick, .slice x.P.ao x.P.la x.P.ca] 39)).cell? ⟨w.heap.size, 0, none⟩ = some (.int .i64 x.win) := cell_new w _ _ 0
  have k1 : (w.alloc (.cells #[.int .i64 x.win, .int .i64 x.pick, .slice x.P.ao x.P.la x.P.ca] 39)).cell? ⟨w.heap.size, 1, none⟩ = some (.int .i64 x.pick) := cell_new w _ _ 1
  have k2 : (w.alloc (.cells #[.int .i64 x.win, .int .i64 x.pick, .slice x.P.ao x.P.la x.P.ca] 39)).cell? ⟨w.heap.size, 2, none⟩ = some (.slice x.P.ao x.P.la x.P.ca) := cell_new w _ _ 2
  have HE : Hid ((behOk x) = (btw x.win 0 1800 && (btw x.pick 0 2 && (decide ((x.P.la : Int) ≤ 4) && x.P.xs.all polOk)))) := by
    show _ = _
    rfl
  have H_b1 : Hid (∀ w1, Below w.heap.size w w1 → Calls Try.prog 65 #[.int .i64 x.win, .int .i64 0, .int .i64 1800] w1 fun e w' => e = .returned (.bool (btw x.win 0 1800)) ∧ Below w1.heap.size w1 w') := fun w1 hb => btw_int (x.win) 0 1800 w1
  have H_b2 : Hid (∀ w1, Below w.heap.size w w1 → Calls Try.prog 65 #[.int .i64 x.pick, .int .i64 0, .int .i64 2] w1 fun e w' => e = .returned (.bool (btw x.pick 0 2)) ∧ Below w1.heap.size w1 w') := fun w1 hb => btw_int (x.pick) 0 2 w1
  have H_b4 : Hid (∀ w1, Below w.heap.size w w1 → Calls Try.prog 97 #[.slice x.P.ao x.P.la x.P.ca, .func (.func 98) #[] #[]] w1 fun e w' => e = .returned (.bool (x.P.xs.all polOk)) ∧ Below w1.heap.size w1 w') := fun w1 hb => all_Policy x.P.xs _ _ _ w1 (h.b hb)
  obtain ⟨b1, h_b1⟩ : ∃ b, (btw x.win 0 1800) = b := ⟨_, rfl⟩
  rw [h_b1] at HE H_b1
  obtain ⟨b2, h_b2⟩ : ∃ b, (btw x.pick 0 2) = b := ⟨_, rfl⟩
  rw [h_b2] at HE H_b2
  obtain ⟨b3, h_b3⟩ : ∃ b, (decide ((x.P.la : Int) ≤ 4)) = b := ⟨_, rfl⟩
  rw [h_b3] at HE
  obtain ⟨b4, h_b4⟩ : ∃ b, (x.P.xs.all polOk) = b := ⟨_, rfl⟩
  rw [h_b4] at HE H_b4
  clear h_b1 h_b2 h_b4
  rcases b1 with _ | _
  · go_enter Try.func73, Try.ntmps73
    go_wp2_with fail
    refine (H_b1.out _ Hb.out).mono ?_
    rintro e wb1 ⟨rfl, hb⟩
    replace k0 := Below.cell_some hb k0
    replace k1 := Below.cell_some hb k1
    replace k2 := Below.cell_some hb k2
    replace Hb := Lib.hid (Hb.out.trans (hb.mono Hb.out.size))
    clear hb
    go_wp2_with fail
    go_ret
    exact ⟨ret_bool HE.out.symm, Hb.out⟩
  · rcases b2 with _ | _
    · go_enter Try.func73, Try.ntmps73
      go_wp2_with fail
      refine (H_b1.out _ Hb.out).mono ?_
      rintro e wb1 ⟨rfl, hb⟩
      replace k0 := Below.cell_some hb k0
      replace k1 := Below.cell_some hb k1
      replace k2 := Below.cell_some hb k2
      replace Hb := Lib.hid (Hb.out.trans (hb.mono Hb.out.size))
      clear hb
      go_wp2_with fail
      refine (H_b2.out _ Hb.out).mono ?_
      rintro e wb2 ⟨rfl, hb⟩
      replace k0 := Below.cell_some hb k0
      replace k1 := Below.cell_some hb k1
      replace k2 := Below.cell_some hb k2
      replace Hb := Lib.hid (Hb.out.trans (hb.mono Hb.out.size))
      clear hb
      go_wp2_with fail
      go_ret
      exact ⟨ret_bool HE.out.symm, Hb.out⟩
    · rcases b3 with _ | _
      · go_enter Try.func73, Try.ntmps73
        go_wp2_with fail
        refine (H_b1.out _ Hb.out).mono ?_
        rintro e wb1 ⟨rfl, hb⟩
        replace k0 := Below.cell_some hb k0
        replace k1 := Below.cell_some hb k1
        replace k2 := Below.cell_some hb k2
        replace Hb := Lib.hid (Hb.out.trans (hb.mono Hb.out.size))
        clear hb
        go_wp2_with fail
        refine (H_b2.out _ Hb.out).mono ?_
        rintro e wb2 ⟨rfl, hb⟩
        replace k0 := Below.cell_some hb k0
        replace k1 := Below.cell_some hb k1
        replace k2 := Below.cell_some hb k2
        replace Hb := Lib.hid (Hb.out.trans (hb.mono Hb.out.size))
        clear hb
        go_wp2_with fail
        go_ret
        exact ⟨ret_bool HE.out.symm, Hb.out⟩
      · go_enter Try.func73, Try.ntmps73
        go_wp2_with fail
        refine (H_b1.out _ Hb.out).mono ?_
        rintro e wb1 ⟨rfl, hb⟩
        replace k0 := Below.cell_some hb k0
        replace k1 := Below.cell_some hb k1
        replace k2 := Below.cell_some hb k2
        replace Hb := Lib.hid (Hb.out.trans (hb.mono Hb.out.size))
        clear hb
        go_wp2_with fail
        refine (H_b2.out _ Hb.out).mono ?_
        rintro e wb2 ⟨rfl, hb⟩
        replace k0 := Below.cell_some hb k0
        replace k1 := Below.cell_some hb k1
        replace k2 := Below.cell_some hb k2
        replace Hb := Lib.hid (Hb.out.trans (hb.mono Hb.out.size))
        clear hb
        go_wp2_with fail
        refine (H_b4.out _ Hb.out).mono ?_
        rintro e wb4 ⟨rfl, hb⟩
        replace k0 := Below.cell_some hb k0
        replace k1 := Below.cell_some hb k1
        replace k2 := Below.cell_some hb k2
        replace Hb := Lib.hid (Hb.out.trans (hb.mono Hb.out.size))
        clear hb
        go_wp2_with fail
        go_ret
        exact ⟨ret_bool HE.out.symm, Hb.out⟩

set_option maxRecDepth 100000 in
set_option maxHeartbeats 3200000 in
theorem nothing_any (x : BehV) (w : World)  :
    Calls Try.prog 76 #[.agg #[.int .i64 x.win, .int .i64 x.pick, .slice x.P.ao x.P.la x.P.ca]] w fun e w' => e = .returned (.bool (noBeh x)) ∧ Below w.heap.size w w' := by
  have Hb : Hid (Below w.heap.size w (w.alloc (.cells #[.int .i64 x.win, .int .i64 x.pick, .slice x.P.ao x.P.la x.P.ca] 39))) := (Below.refl w.heap.size w).alloc (Nat.le_refl _) _
  have k0 : (w.alloc (.cells #[.int .i64 x.win, .int .i64 x.pick, .slice x.P.ao x.P.la x.P.ca] 39)).cell? ⟨w.heap.size, 0, none⟩ = some (.int .i64 x.win) := cell_new w _ _ 0
  have k1 : (w.alloc (.cells #[.int .i64 x.win, .int .i64 x.pick, .slice x.P.ao x.P.la x.P.ca] 39)).cell? ⟨w.heap.size, 1, none⟩ = some (.int .i64 x.pick) := cell_new w _ _ 1
  have k2 : (w.alloc (.cells #[.int .i64 x.win, .int .i64 x.pick, .slice x.P.ao x.P.la x.P.ca] 39)).cell? ⟨w.heap.size, 2, none⟩ = some (.slice x.P.ao x.P.la x.P.ca) := cell_new w _ _ 2
  have HE : Hid ((noBeh x) = ((x.win == 0) && ((x.pick == 0) && ((x.P.la : Int) == 0)))) := by
    show _ = _
    rfl
  obtain ⟨b1, h_b1⟩ : ∃ b, (x.win == 0) = b := ⟨_, rfl⟩
  rw [h_b1] at HE
  obtain ⟨b2, h_b2⟩ : ∃ b, (x.pick == 0) = b := ⟨_, rfl⟩
  rw [h_b2] at HE
  obtain ⟨b3, h_b3⟩ : ∃ b, ((x.P.la : Int) == 0) = b := ⟨_, rfl⟩
  rw [h_b3] at HE
  rcases b1 with _ | _
  · go_enter Try.func76, Try.ntmps76
    go_wp2_with fail
    go_ret
    exact ⟨ret_bool HE.out.symm, Hb.out⟩
  · rcases b2 with _ | _
    · go_enter Try.func76, Try.ntmps76
      go_wp2_with fail
      go_ret
      exact ⟨ret_bool HE.out.symm, Hb.out⟩
    · go_enter Try.func76, Try.ntmps76
      go_wp2_with fail
      go_ret
      exact ⟨ret_bool HE.out.symm, Hb.out⟩

end Go.Proofs.Ytpbppgfogepjeaa
