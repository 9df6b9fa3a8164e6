/- The contract of Few: it answers. Condition: none. || The contracts of valid's small functions. Condition: the slices read. || The contracts of valid's shapes. Condition: the slices read. || The contracts of valid's past and hpa. Condition: the slices read. || Which shapes are empty. No condition. || What the types of objects are. No condition. || What an object's check tells. No condition. -/
import Derived.Test.YtjncoloedakpoaaDoorFive
import Derived.Deep.Cut
import Derived.Test.YtjncoloedakpoaaDoorRefLabelM
import Derived.Test.YtjncoloedakpoaaDoorHeadM
import Derived.Deep.CutRange
import Derived.Test.YtjncoloedakpoaaDoorChain4
import Derived.Test.YtjncoloedakpoaaDoorBase
import Derived.Test.YtjncoloedakpoaaDoorRows
import Derived.Laws.StructEq
import Derived.Test.YtjncoloedakpoaaDoorMixed2M
import Derived.Laws.Rows
namespace Go.Proofs.YtjncoloedakpoaaDoor
open Go.ChangeShapes Go.WideShapes Go.ChangeAt Go.RowKit Go.Deep

def IsBool (e : Ending) : Prop := ∃ b, e = .returned (.bool b)

set_option maxRecDepth 100000 in
set_option maxHeartbeats 3200000 in
theorem few_any (kd : Int) (nm : ByteArray) (ver : Int) (o : ShapesV) (w : World) :
    Calls Tryd.prog 5 #[.agg #[.int .i64 kd, .string nm, .int .u64 ver, .int .i64 o.w.rep, .int .i64 o.w.cpu, .int .i64 o.w.mem, .slice o.w.L.ao o.w.L.la o.w.L.ca, .slice o.w.S.ao o.w.S.la o.w.S.ca, .slice o.w.T.ao o.w.T.la o.w.T.ca, .int .i64 o.w.warm, .string o.p.owner, .string o.p.node, .int .i64 o.p.phase, .int .i64 o.p.since, .int .i64 o.p.cpu, .int .i64 o.p.mem, .slice o.p.L.ao o.p.L.la o.p.L.ca, .slice o.p.S.ao o.p.S.la o.p.S.ca, .slice o.p.T.ao o.p.T.la o.p.T.ca, .int .i64 o.p.warm, .string o.n.group, .int .i64 o.n.cpu, .int .i64 o.n.mem, .slice o.n.L.ao o.n.L.la o.n.L.ca, .slice o.n.T.ao o.n.T.la o.n.T.ca, .int .i64 o.n.since, .bool o.n.closed, .int .i64 o.g.min, .int .i64 o.g.max, .int .i64 o.g.target, .int .i64 o.g.cpu, .int .i64 o.g.mem, .slice o.g.L.ao o.g.L.la o.g.L.ca, .slice o.g.T.ao o.g.T.la o.g.T.ca, .int .i64 o.g.prio, .string o.h.target, .int .i64 o.h.min, .int .i64 o.h.max, .slice o.h.M.ao o.h.M.la o.h.M.ca, .int .i64 o.h.tol, .int .i64 o.h.up.win, .int .i64 o.h.up.pick, .slice o.h.up.P.ao o.h.up.P.la o.h.up.P.ca, .int .i64 o.h.down.win, .int .i64 o.h.down.pick, .slice o.h.down.P.ao o.h.down.P.la o.h.down.P.ca, .slice o.h.past.ao o.h.past.la o.h.past.ca]] w fun e w' => IsBool e ∧ Below w.heap.size w w' := by
  go_enter Tryd.func5, Tryd.ntmps5
  go_upto_region 1 with fail
  refine wp_five (objFive o w.heap.size) (sl := fun i => if i < 10 then 10 + i else i - 7) (by kernel_rfl) (objFive_ok o _)
    ⟨rfl, ord_of (by kernel_rfl), five5 ⟨_, rfl, rfl, rfl, rfl⟩ ⟨_, rfl, rfl, rfl, rfl⟩ ⟨_, rfl, rfl, rfl, rfl⟩ ⟨_, rfl, rfl, rfl, rfl⟩ ⟨_, rfl, rfl, rfl, rfl⟩,
      five5 ⟨_, rfl, rfl, rfl, rfl, by kernel_rfl⟩ ⟨_, rfl, rfl, rfl, rfl, by kernel_rfl⟩ ⟨_, rfl, rfl, rfl, rfl, by kernel_rfl⟩ ⟨_, rfl, rfl, rfl, rfl, by kernel_rfl⟩ ⟨_, rfl, rfl, rfl, rfl, by kernel_rfl⟩,
      five5 ⟨_, rfl, rfl, rfl, rfl⟩ ⟨_, rfl, rfl, rfl, rfl⟩ ⟨_, rfl, rfl, rfl, rfl⟩ ⟨_, rfl, rfl, rfl, rfl⟩ ⟨_, rfl, rfl, rfl, rfl⟩,
      five5 ⟨_, rfl, rfl, rfl, rfl, by kernel_rfl, by kernel_rfl⟩ ⟨_, rfl, rfl, rfl, rfl, by kernel_rfl, by kernel_rfl⟩ ⟨_, rfl, rfl, rfl, rfl, by kernel_rfl, by kernel_rfl⟩ ⟨_, rfl, rfl, rfl, rfl, by kernel_rfl, by kernel_rfl⟩ ⟨_, rfl, rfl, rfl, rfl, by kernel_rfl, by kernel_rfl⟩⟩
    (fun i hi => by show (if i < 10 then 10 + i else i - 7) < 72; split <;> omega)
    (fun i j hi hj e => by split at e <;> split at e <;> omega)
    (fun i hi => by split <;> omega) rfl (objFive_cells o w kd nm ver) ?_
  intro B w1 hb hblk
  refine put_to (L := ⟨#[.agg #[.int .i64 kd, .string nm, .int .u64 ver, .int .i64 o.w.rep, .int .i64 o.w.cpu, .int .i64 o.w.mem, .slice o.w.L.ao o.w.L.la o.w.L.ca, .slice o.w.S.ao o.w.S.la o.w.S.ca, .slice o.w.T.ao o.w.T.la o.w.T.ca, .int .i64 o.w.warm, .string o.p.owner, .string o.p.node, .int .i64 o.p.phase, .int .i64 o.p.since, .int .i64 o.p.cpu, .int .i64 o.p.mem, .slice o.p.L.ao o.p.L.la o.p.L.ca, .slice o.p.S.ao o.p.S.la o.p.S.ca, .slice o.p.T.ao o.p.T.la o.p.T.ca, .int .i64 o.p.warm, .string o.n.group, .int .i64 o.n.cpu, .int .i64 o.n.mem, .slice o.n.L.ao o.n.L.la o.n.L.ca, .slice o.n.T.ao o.n.T.la o.n.T.ca, .int .i64 o.n.since, .bool o.n.closed, .int .i64 o.g.min, .int .i64 o.g.max, .int .i64 o.g.target, .int .i64 o.g.cpu, .int .i64 o.g.mem, .slice o.g.L.ao o.g.L.la o.g.L.ca, .slice o.g.T.ao o.g.T.la o.g.T.ca, .int .i64 o.g.prio, .string o.h.target, .int .i64 o.h.min, .int .i64 o.h.max, .slice o.h.M.ao o.h.M.la o.h.M.ca, .int .i64 o.h.tol, .int .i64 o.h.up.win, .int .i64 o.h.up.pick, .slice o.h.up.P.ao o.h.up.P.la o.h.up.P.ca, .int .i64 o.h.down.win, .int .i64 o.h.down.pick, .slice o.h.down.P.ao o.h.down.P.la o.h.down.P.ca, .slice o.h.past.ao o.h.past.la o.h.past.ca], .pointer (some ⟨w.heap.size, 0, none⟩), .bool false, .pointer (some ⟨B 0, 0, none⟩), .pointer (some ⟨B 1, 0, none⟩), .pointer (some ⟨B 2, 0, none⟩), .pointer (some ⟨B 3, 0, none⟩), .pointer (some ⟨B 4, 0, none⟩), undef, undef, .pointer (some ⟨w.heap.size, 3, none⟩), .agg #[.int .i64 o.w.rep, .int .i64 o.w.cpu, .int .i64 o.w.mem, .slice o.w.L.ao o.w.L.la o.w.L.ca, .slice o.w.S.ao o.w.S.la o.w.S.ca, .slice o.w.T.ao o.w.T.la o.w.T.ca, .int .i64 o.w.warm], .pointer (some ⟨w.heap.size, 10, none⟩), .agg #[.string o.p.owner, .string o.p.node, .int .i64 o.p.phase, .int .i64 o.p.since, .int .i64 o.p.cpu, .int .i64 o.p.mem, .slice o.p.L.ao o.p.L.la o.p.L.ca, .slice o.p.S.ao o.p.S.la o.p.S.ca, .slice o.p.T.ao o.p.T.la o.p.T.ca, .int .i64 o.p.warm], .pointer (some ⟨w.heap.size, 20, none⟩), .agg #[.string o.n.group, .int .i64 o.n.cpu, .int .i64 o.n.mem, .slice o.n.L.ao o.n.L.la o.n.L.ca, .slice o.n.T.ao o.n.T.la o.n.T.ca, .int .i64 o.n.since, .bool o.n.closed], .pointer (some ⟨w.heap.size, 27, none⟩), .agg #[.int .i64 o.g.min, .int .i64 o.g.max, .int .i64 o.g.target, .int .i64 o.g.cpu, .int .i64 o.g.mem, .slice o.g.L.ao o.g.L.la o.g.L.ca, .slice o.g.T.ao o.g.T.la o.g.T.ca, .int .i64 o.g.prio], .pointer (some ⟨w.heap.size, 35, none⟩), .agg #[.string o.h.target, .int .i64 o.h.min, .int .i64 o.h.max, .slice o.h.M.ao o.h.M.la o.h.M.ca, .int .i64 o.h.tol, .int .i64 o.h.up.win, .int .i64 o.h.up.pick, .slice o.h.up.P.ao o.h.up.P.la o.h.up.P.ca, .int .i64 o.h.down.win, .int .i64 o.h.down.pick, .slice o.h.down.P.ao o.h.down.P.la o.h.down.P.ca, .slice o.h.past.ao o.h.past.la o.h.past.ca], undef, undef, undef, undef, undef, undef, undef, undef, undef, undef, undef, undef, undef, undef, undef, undef, undef, undef, undef, undef, undef, undef, undef, undef, undef, undef, undef, undef, undef, undef, undef, undef, undef, undef, undef, undef, undef, undef, undef, undef, undef, undef, undef, undef, undef, undef, undef, undef, undef, undef, undef, undef], []⟩) (by kernel_rfl) ?_
  have r0 := (hblk 0 (by decide)).2
  have r1 := (hblk 1 (by decide)).2
  have r2 := (hblk 2 (by decide)).2
  have r3 := (hblk 3 (by decide)).2
  have r4 := (hblk 4 (by decide)).2
  have c0_3 : w1.cell? ⟨B 0, 3, none⟩ = some (.slice o.w.L.ao o.w.L.la o.w.L.ca) := cell_of_row _ _ _ _ _ _ r0
  have c0_4 : w1.cell? ⟨B 0, 4, none⟩ = some (.slice o.w.S.ao o.w.S.la o.w.S.ca) := cell_of_row _ _ _ _ _ _ r0
  have c0_5 : w1.cell? ⟨B 0, 5, none⟩ = some (.slice o.w.T.ao o.w.T.la o.w.T.ca) := cell_of_row _ _ _ _ _ _ r0
  have c1_6 : w1.cell? ⟨B 1, 6, none⟩ = some (.slice o.p.L.ao o.p.L.la o.p.L.ca) := cell_of_row _ _ _ _ _ _ r1
  have c1_7 : w1.cell? ⟨B 1, 7, none⟩ = some (.slice o.p.S.ao o.p.S.la o.p.S.ca) := cell_of_row _ _ _ _ _ _ r1
  have c1_8 : w1.cell? ⟨B 1, 8, none⟩ = some (.slice o.p.T.ao o.p.T.la o.p.T.ca) := cell_of_row _ _ _ _ _ _ r1
  have c2_3 : w1.cell? ⟨B 2, 3, none⟩ = some (.slice o.n.L.ao o.n.L.la o.n.L.ca) := cell_of_row _ _ _ _ _ _ r2
  have c2_4 : w1.cell? ⟨B 2, 4, none⟩ = some (.slice o.n.T.ao o.n.T.la o.n.T.ca) := cell_of_row _ _ _ _ _ _ r2
  have c3_5 : w1.cell? ⟨B 3, 5, none⟩ = some (.slice o.g.L.ao o.g.L.la o.g.L.ca) := cell_of_row _ _ _ _ _ _ r3
  have c3_6 : w1.cell? ⟨B 3, 6, none⟩ = some (.slice o.g.T.ao o.g.T.la o.g.T.ca) := cell_of_row _ _ _ _ _ _ r3
  have c4_3 : w1.cell? ⟨B 4, 3, none⟩ = some (.slice o.h.M.ao o.h.M.la o.h.M.ca) := cell_of_row _ _ _ _ _ _ r4
  have c4_7 : w1.cell? ⟨B 4, 7, none⟩ = some (.slice o.h.up.P.ao o.h.up.P.la o.h.up.P.ca) := cell_of_row _ _ _ _ _ _ r4
  have c4_10 : w1.cell? ⟨B 4, 10, none⟩ = some (.slice o.h.down.P.ao o.h.down.P.la o.h.down.P.ca) := cell_of_row _ _ _ _ _ _ r4
  have c4_11 : w1.cell? ⟨B 4, 11, none⟩ = some (.slice o.h.past.ao o.h.past.la o.h.past.ca) := cell_of_row _ _ _ _ _ _ r4
  have n0 := blk c0_4
  have n1 := blk c1_7
  have n4 := blk c4_3
  have hb0 := Below.refl w.heap.size w
  have Hb : Hid (Below w.heap.size w w1) := (hb0.alloc (Nat.le_refl _) _).trans (hb.mono (by simp))
  clear hb0 hb hblk r0 r1 r2 r3 r4
  go_wp2_with fail
  go_loop [38] (fun i => ∃ k : Nat, k ≤ 8 ∧ i = .int .i64 k) (fun i => 8 - (intOf i).toNat)
  case atStart => exact ⟨0, by omega, rfl⟩
  case round =>
    obtain ⟨k, hk, rfl⟩ := hrel
    rcases (show k = 0 ∨ k = 1 ∨ k = 2 ∨ k = 3 ∨ k = 4 ∨ k = 5 ∨ k = 6 ∨ k = 7 ∨ k = 8 by omega) with rfl | rfl | rfl | rfl | rfl | rfl | rfl | rfl | rfl
    · go_wp2_with fail
      · go_ret
        exact ⟨⟨_, rfl⟩, Hb.out.alloc Hb.out.size _⟩
      · go_round
        case rel => exact ⟨1, by omega, rfl⟩
        case measure => simp [intOf]
    · go_wp2_with fail
      · go_ret
        exact ⟨⟨_, rfl⟩, Hb.out.alloc Hb.out.size _⟩
      · go_round
        case rel => exact ⟨2, by omega, rfl⟩
        case measure => simp [intOf]
    · go_wp2_with fail
      · go_ret
        exact ⟨⟨_, rfl⟩, Hb.out.alloc Hb.out.size _⟩
      · go_round
        case rel => exact ⟨3, by omega, rfl⟩
        case measure => simp [intOf]
    · go_wp2_with fail
      · go_ret
        exact ⟨⟨_, rfl⟩, Hb.out.alloc Hb.out.size _⟩
      · go_round
        case rel => exact ⟨4, by omega, rfl⟩
        case measure => simp [intOf]
    · go_wp2_with fail
      · go_ret
        exact ⟨⟨_, rfl⟩, Hb.out.alloc Hb.out.size _⟩
      · go_round
        case rel => exact ⟨5, by omega, rfl⟩
        case measure => simp [intOf]
    · go_wp2_with fail
      · go_ret
        exact ⟨⟨_, rfl⟩, Hb.out.alloc Hb.out.size _⟩
      · go_round
        case rel => exact ⟨6, by omega, rfl⟩
        case measure => simp [intOf]
    · go_wp2_with fail
      · go_ret
        exact ⟨⟨_, rfl⟩, Hb.out.alloc Hb.out.size _⟩
      · go_round
        case rel => exact ⟨7, by omega, rfl⟩
        case measure => simp [intOf]
    · go_wp2_with fail
      · go_ret
        exact ⟨⟨_, rfl⟩, Hb.out.alloc Hb.out.size _⟩
      · go_round
        case rel => exact ⟨8, by omega, rfl⟩
        case measure => simp [intOf]
    · go_wp2_with fail
      go_ret
      exact ⟨⟨_, rfl⟩, Hb.out.alloc Hb.out.size _⟩
end Go.Proofs.YtjncoloedakpoaaDoor
namespace Go.Proofs.YtjncoloedakpoaaDoor
open Go.ChangeShapes Go.WideShapes Go.ChangeAt Go.RowKit Go.Deep

end Go.Proofs.YtjncoloedakpoaaDoor
namespace Go.Proofs.YtjncoloedakpoaaDoor
open Go.ChangeShapes Go.WideShapes Go.ChangeAt Go.RowKit Go.Deep

noncomputable def wlOk (x : WlV) : Bool := btw x.rep 0 1000000 && wantsOk x.cpu x.mem x.L.xs x.S.xs x.T.xs x.warm
noncomputable def podOk (x : PodV) : Bool := nameOf x.owner.data.toList && (okVal x.node && (btw x.phase 0 3 && (btw x.since 0 4611686018427387904 && (((x.phase == 3) || ((!x.node.toList.isEmpty) == (x.phase != 0))) && wantsOk x.cpu x.mem x.L.xs x.S.xs x.T.xs x.warm))))
noncomputable def nodeOk (x : NodeV) : Bool := okVal x.group && (sizeOk x.cpu x.mem && (labelsOk x.L.xs && (labelsOk x.T.xs && btw x.since 0 4611686018427387904)))
noncomputable def groupOk (x : GroupV) : Bool := decide (0 ≤ x.min) && (decide (x.min ≤ x.max) && (decide (x.max ≤ 64) && (btw x.target x.min x.max && (sizeOk x.cpu x.mem && (labelsOk x.L.xs && (labelsOk x.T.xs && btw x.prio 0 1000))))))
def metricOk (m : Metric) : Bool := btw m.kind 0 3 && (nameOf m.name.data.toList && (wholeOk m.target && (!(m.target == 0) && ((m.kind != 0) || ((m.name.toList == [99, 112, 117]) || (m.name.toList == [109, 101, 109]))))))
def polOk (p : Policy) : Bool := btw p.value 1 1000000 && btw p.period 1 1800
def behOk (b : BehV) : Bool := btw b.win 0 1800 && (btw b.pick 0 2 && (decide ((b.P.la : Int) ≤ 4) && b.P.xs.all polOk))
def pastFrom : Int → List Scaled → Bool
  | _, [] => true
  | last, x :: l => (btw x.at_ last 4611686018427387904 && (btw x.from_ 0 1000000 && btw x.to_ 0 1000000)) && pastFrom x.at_ l
def pastOk (l : List Scaled) : Bool := pastFrom 0 l && decide (l.length ≤ 32)
def hpaOk (x : HpaV) : Bool := nameOf x.target.data.toList && (decide (1 ≤ x.min) && (decide (x.min ≤ x.max) && (decide (x.max ≤ 1000000) && (btw (x.M.la : Int) 1 4 && (x.M.xs.all metricOk && (btw x.tol 0 1000 && (behOk x.up && (behOk x.down && pastOk x.past.xs))))))))
end Go.Proofs.YtjncoloedakpoaaDoor
namespace Go.Proofs.YtjncoloedakpoaaDoor
open Go.ChangeShapes Go.WideShapes Go.ChangeAt Go.RowKit Go.Deep

end Go.Proofs.YtjncoloedakpoaaDoor
namespace Go.Proofs.YtjncoloedakpoaaDoor
open Go.ChangeShapes Go.WideShapes Go.ChangeAt Go.RowKit Go.Deep

def wlNo (x : WlV) : Bool := ((((x.rep == 0) && ((x.cpu == 0) && (x.mem == 0))) && (wrap64 (wrap64 ((x.L.la : Int) + (x.S.la : Int)) + (x.T.la : Int)) == 0)) && (x.warm == 0))
def podNo (x : PodV) : Bool := ((((((x.owner.toList.isEmpty && x.node.toList.isEmpty) && (x.phase == 0)) && (x.since == 0)) && ((x.cpu == 0) && (x.mem == 0))) && (wrap64 (wrap64 ((x.L.la : Int) + (x.S.la : Int)) + (x.T.la : Int)) == 0)) && (x.warm == 0))
def nodeNo (x : NodeV) : Bool := ((((x.group.toList.isEmpty && ((x.cpu == 0) && (x.mem == 0))) && (wrap64 ((x.L.la : Int) + (x.T.la : Int)) == 0)) && (x.since == 0)) && (!x.closed))
def groupNo (x : GroupV) : Bool := ((((((x.min == 0) && (x.max == 0)) && (x.target == 0)) && ((x.cpu == 0) && (x.mem == 0))) && (wrap64 ((x.L.la : Int) + (x.T.la : Int)) == 0)) && (x.prio == 0))
def hpaNo (x : HpaV) : Bool := ((((((((((x.target.toList.isEmpty && (x.min == 0)) && (x.max == 0)) && (wrap64 ((x.M.la : Int) + (x.past.la : Int)) == 0)) && (x.tol == 0)) && (x.up.win == 0)) && (x.up.pick == 0)) && ((x.up.P.la : Int) == 0)) && (x.down.win == 0)) && (x.down.pick == 0)) && ((x.down.P.la : Int) == 0))
def emptiesOk (kd : Int) (o : ShapesV) : Bool := ((((wlNo o.w || (kd == 0)) && (podNo o.p || (kd == 1))) && (nodeNo o.n || (kd == 2))) && (groupNo o.g || (kd == 3))) && (hpaNo o.h || (kd == 4))

end Go.Proofs.YtjncoloedakpoaaDoor
namespace Go.Proofs.YtjncoloedakpoaaDoor
open Go.ChangeShapes Go.WideShapes Go.ChangeAt Go.RowKit Go.Deep

def objSta : Sta where
  fld := [(44, 0, 0), (44, 1, 1), (44, 2, 2), (44, 3, 3), (44, 4, 10), (44, 5, 20), (44, 6, 27), (44, 7, 35),
    (29, 0, 0), (29, 1, 1), (29, 2, 3), (29, 3, 4), (29, 4, 5), (29, 5, 6),
    (31, 0, 0), (31, 1, 1), (31, 2, 2), (31, 3, 3), (31, 4, 4), (31, 5, 6), (31, 6, 7), (31, 7, 8), (31, 8, 9),
    (33, 0, 0), (33, 1, 1), (33, 2, 3), (33, 3, 4), (33, 4, 5), (33, 5, 6),
    (35, 0, 0), (35, 1, 1), (35, 2, 2), (35, 3, 3), (35, 4, 5), (35, 5, 6), (35, 6, 7),
    (42, 0, 0), (42, 1, 1), (42, 2, 2), (42, 3, 3), (42, 4, 4), (42, 5, 5), (42, 6, 8), (42, 7, 11),
    (25, 0, 0), (25, 1, 1), (39, 0, 0), (39, 1, 1), (39, 2, 2),
    (65, 0, 0), (65, 1, 1), (65, 2, 2), (63, 0, 0), (63, 1, 1), (63, 2, 2), (78, 0, 0), (78, 1, 1), (90, 0, 0), (90, 1, 1), (90, 2, 2), (80, 0, 0), (80, 1, 1), (80, 2, 2)]
  one := [3, 2, 4, 9, 26, 27, 36, 40, 37, 23, 22]
  many := [(25, 2), (39, 3), (44, 47), (29, 7), (31, 10), (33, 7), (35, 8), (42, 12), (65, 3), (63, 3)]
  two := [25]
  bT := [4]
  cv := [(3, 22), (2, 22)]
  stT := [9]
  slT := [26, 27, 36, 40, 37]

theorem objSta_ok : objSta.Ok Tryd.prog where
  fld := fun a o w => by kernel_rfl
  one := fun w => by kernel_rfl
  many := fun w => by kernel_rfl
  size := fun w => by kernel_rfl
  two := fun t ht a b c d w x y => by
    have : t = 25 := by simpa [objSta] using ht
    subst this
    by_cases h1 : a = c <;> by_cases h2 : b = d <;> simp [go_sem, h1, h2]
  slT := by kernel_rfl
  stT := by kernel_rfl
  bT := by kernel_rfl
  cv := fun n w => by kernel_rfl
end Go.Proofs.YtjncoloedakpoaaDoor
namespace Go.Proofs.YtjncoloedakpoaaDoor
open Go.ChangeShapes Go.WideShapes Go.ChangeAt Go.RowKit Go.Deep

noncomputable def mayOk (kd : Int) (o : ShapesV) : Bool := if kd = 0 then wlOk o.w else if kd = 1 then podOk o.p else if kd = 2 then nodeOk o.n else if kd = 3 then groupOk o.g else hpaOk o.h
noncomputable def checkOf (kd : Int) (nm : ByteArray) (o : ShapesV) : Int := if kd < 0 ∨ 4 < kd then 17 else if nameOf nm.data.toList = false then 6 else if (mayOk kd o && emptiesOk kd o) = true then 0 else 2
end Go.Proofs.YtjncoloedakpoaaDoor
