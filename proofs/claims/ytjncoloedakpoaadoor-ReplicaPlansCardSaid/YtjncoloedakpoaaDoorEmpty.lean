/- The contract of the reference's Empty. No condition. -/
import Derived.Test.YtjncoloedakpoaaDoorCheckSpecM
namespace Go.Proofs.YtjncoloedakpoaaDoor
open Go.ChangeShapes Go.WideShapes Go.ChangeAt Go.RowKit Go.Deep

set_option maxRecDepth 100000 in
set_option maxHeartbeats 12800000 in
theorem refEmpty_any (kd : Int) (nm : ByteArray) (ver : Int) (o : ShapesV) (w : World) :
    Calls Tryd.prog 11 #[.agg #[.int .i64 kd, .string nm, .int .u64 ver, .int .i64 o.w.rep, .int .i64 o.w.cpu, .int .i64 o.w.mem, .slice o.w.L.ao o.w.L.la o.w.L.ca, .slice o.w.S.ao o.w.S.la o.w.S.ca, .slice o.w.T.ao o.w.T.la o.w.T.ca, .int .i64 o.w.warm, .string o.p.owner, .string o.p.node, .int .i64 o.p.phase, .int .i64 o.p.since, .int .i64 o.p.cpu, .int .i64 o.p.mem, .slice o.p.L.ao o.p.L.la o.p.L.ca, .slice o.p.S.ao o.p.S.la o.p.S.ca, .slice o.p.T.ao o.p.T.la o.p.T.ca, .int .i64 o.p.warm, .string o.n.group, .int .i64 o.n.cpu, .int .i64 o.n.mem, .slice o.n.L.ao o.n.L.la o.n.L.ca, .slice o.n.T.ao o.n.T.la o.n.T.ca, .int .i64 o.n.since, .bool o.n.closed, .int .i64 o.g.min, .int .i64 o.g.max, .int .i64 o.g.target, .int .i64 o.g.cpu, .int .i64 o.g.mem, .slice o.g.L.ao o.g.L.la o.g.L.ca, .slice o.g.T.ao o.g.T.la o.g.T.ca, .int .i64 o.g.prio, .string o.h.target, .int .i64 o.h.min, .int .i64 o.h.max, .slice o.h.M.ao o.h.M.la o.h.M.ca, .int .i64 o.h.tol, .int .i64 o.h.up.win, .int .i64 o.h.up.pick, .slice o.h.up.P.ao o.h.up.P.la o.h.up.P.ca, .int .i64 o.h.down.win, .int .i64 o.h.down.pick, .slice o.h.down.P.ao o.h.down.P.la o.h.down.P.ca, .slice o.h.past.ao o.h.past.la o.h.past.ca]] w fun e w' => e = .returned (.bool (emptiesOk kd o)) ∧ Below w.heap.size w w' := by
  go_enter Tryd.func11, Tryd.ntmps11
  go_upto_region 1 with fail
  refine wp_five (objFive o w.heap.size) (sl := fun i => if i < 10 then 13 + i else i - 7) (by kernel_rfl) (objFive_ok o _)
    ⟨rfl, ord_of (by kernel_rfl), five5 ⟨_, rfl, rfl, rfl, rfl⟩ ⟨_, rfl, rfl, rfl, rfl⟩ ⟨_, rfl, rfl, rfl, rfl⟩ ⟨_, rfl, rfl, rfl, rfl⟩ ⟨_, rfl, rfl, rfl, rfl⟩,
      five5 ⟨_, rfl, rfl, rfl, rfl, by kernel_rfl⟩ ⟨_, rfl, rfl, rfl, rfl, by kernel_rfl⟩ ⟨_, rfl, rfl, rfl, rfl, by kernel_rfl⟩ ⟨_, rfl, rfl, rfl, rfl, by kernel_rfl⟩ ⟨_, rfl, rfl, rfl, rfl, by kernel_rfl⟩,
      five5 ⟨_, rfl, rfl, rfl, rfl⟩ ⟨_, rfl, rfl, rfl, rfl⟩ ⟨_, rfl, rfl, rfl, rfl⟩ ⟨_, rfl, rfl, rfl, rfl⟩ ⟨_, rfl, rfl, rfl, rfl⟩,
      five5 ⟨_, rfl, rfl, rfl, rfl, by kernel_rfl, by kernel_rfl⟩ ⟨_, rfl, rfl, rfl, rfl, by kernel_rfl, by kernel_rfl⟩ ⟨_, rfl, rfl, rfl, rfl, by kernel_rfl, by kernel_rfl⟩ ⟨_, rfl, rfl, rfl, rfl, by kernel_rfl, by kernel_rfl⟩ ⟨_, rfl, rfl, rfl, rfl, by kernel_rfl, by kernel_rfl⟩⟩
    (fun i hi => by show (if i < 10 then 13 + i else i - 7) < 261; split <;> omega)
    (fun i j hi hj e => by split at e <;> split at e <;> omega)
    (fun i hi => by split <;> omega) rfl (objFive_cells o w kd nm ver) ?_
  intro B w1 hb hblk
  refine put_to (L := ⟨#[.agg #[.int .i64 kd, .string nm, .int .u64 ver, .int .i64 o.w.rep, .int .i64 o.w.cpu, .int .i64 o.w.mem, .slice o.w.L.ao o.w.L.la o.w.L.ca, .slice o.w.S.ao o.w.S.la o.w.S.ca, .slice o.w.T.ao o.w.T.la o.w.T.ca, .int .i64 o.w.warm, .string o.p.owner, .string o.p.node, .int .i64 o.p.phase, .int .i64 o.p.since, .int .i64 o.p.cpu, .int .i64 o.p.mem, .slice o.p.L.ao o.p.L.la o.p.L.ca, .slice o.p.S.ao o.p.S.la o.p.S.ca, .slice o.p.T.ao o.p.T.la o.p.T.ca, .int .i64 o.p.warm, .string o.n.group, .int .i64 o.n.cpu, .int .i64 o.n.mem, .slice o.n.L.ao o.n.L.la o.n.L.ca, .slice o.n.T.ao o.n.T.la o.n.T.ca, .int .i64 o.n.since, .bool o.n.closed, .int .i64 o.g.min, .int .i64 o.g.max, .int .i64 o.g.target, .int .i64 o.g.cpu, .int .i64 o.g.mem, .slice o.g.L.ao o.g.L.la o.g.L.ca, .slice o.g.T.ao o.g.T.la o.g.T.ca, .int .i64 o.g.prio, .string o.h.target, .int .i64 o.h.min, .int .i64 o.h.max, .slice o.h.M.ao o.h.M.la o.h.M.ca, .int .i64 o.h.tol, .int .i64 o.h.up.win, .int .i64 o.h.up.pick, .slice o.h.up.P.ao o.h.up.P.la o.h.up.P.ca, .int .i64 o.h.down.win, .int .i64 o.h.down.pick, .slice o.h.down.P.ao o.h.down.P.la o.h.down.P.ca, .slice o.h.past.ao o.h.past.la o.h.past.ca], .pointer (some ⟨w.heap.size, 0, none⟩), .bool false, .pointer (some ⟨B 0, 0, none⟩), .pointer (some ⟨B 1, 0, none⟩), .pointer (some ⟨B 2, 0, none⟩), .pointer (some ⟨B 3, 0, none⟩), .pointer (some ⟨B 4, 0, none⟩), undef, undef, undef, undef, undef, .pointer (some ⟨w.heap.size, 3, none⟩), .agg #[.int .i64 o.w.rep, .int .i64 o.w.cpu, .int .i64 o.w.mem, .slice o.w.L.ao o.w.L.la o.w.L.ca, .slice o.w.S.ao o.w.S.la o.w.S.ca, .slice o.w.T.ao o.w.T.la o.w.T.ca, .int .i64 o.w.warm], .pointer (some ⟨w.heap.size, 10, none⟩), .agg #[.string o.p.owner, .string o.p.node, .int .i64 o.p.phase, .int .i64 o.p.since, .int .i64 o.p.cpu, .int .i64 o.p.mem, .slice o.p.L.ao o.p.L.la o.p.L.ca, .slice o.p.S.ao o.p.S.la o.p.S.ca, .slice o.p.T.ao o.p.T.la o.p.T.ca, .int .i64 o.p.warm], .pointer (some ⟨w.heap.size, 20, none⟩), .agg #[.string o.n.group, .int .i64 o.n.cpu, .int .i64 o.n.mem, .slice o.n.L.ao o.n.L.la o.n.L.ca, .slice o.n.T.ao o.n.T.la o.n.T.ca, .int .i64 o.n.since, .bool o.n.closed], .pointer (some ⟨w.heap.size, 27, none⟩), .agg #[.int .i64 o.g.min, .int .i64 o.g.max, .int .i64 o.g.target, .int .i64 o.g.cpu, .int .i64 o.g.mem, .slice o.g.L.ao o.g.L.la o.g.L.ca, .slice o.g.T.ao o.g.T.la o.g.T.ca, .int .i64 o.g.prio], .pointer (some ⟨w.heap.size, 35, none⟩), .agg #[.string o.h.target, .int .i64 o.h.min, .int .i64 o.h.max, .slice o.h.M.ao o.h.M.la o.h.M.ca, .int .i64 o.h.tol, .int .i64 o.h.up.win, .int .i64 o.h.up.pick, .slice o.h.up.P.ao o.h.up.P.la o.h.up.P.ca, .int .i64 o.h.down.win, .int .i64 o.h.down.pick, .slice o.h.down.P.ao o.h.down.P.la o.h.down.P.ca, .slice o.h.past.ao o.h.past.la o.h.past.ca], undef, undef, undef, undef, undef, undef, undef, undef, undef, undef, undef, undef, undef, undef, undef, undef, undef, undef, undef, undef, undef, undef, undef, undef, undef, undef, undef, undef, undef, undef, undef, undef, undef, undef, undef, undef, undef, undef, undef, undef, undef, undef, undef, undef, undef, undef, undef, undef, undef, undef, undef, undef, undef, undef, undef, undef, undef, undef, undef, undef, undef, undef, undef, undef, undef, undef, undef, undef, undef, undef, undef, undef, undef, undef, undef, undef, undef, undef, undef, undef, undef, undef, undef, undef, undef, undef, undef, undef, undef, undef, undef, undef, undef, undef, undef, undef, undef, undef, undef, undef, undef, undef, undef, undef, undef, undef, undef, undef, undef, undef, undef, undef, undef, undef, undef, undef, undef, undef, undef, undef, undef, undef, undef, undef, undef, undef, undef, undef, undef, undef, undef, undef, undef, undef, undef, undef, undef, undef, undef, undef, undef, undef, undef, undef, undef, undef, undef, undef, undef, undef, undef, undef, undef, undef, undef, undef, undef, undef, undef, undef, undef, undef, undef, undef, undef, undef, undef, undef, undef, undef, undef, undef, undef, undef, undef, undef, undef, undef, undef, undef, undef, undef, undef, undef, undef, undef, undef, undef, undef, undef, undef, undef, undef, undef, undef, undef, undef, undef, undef, undef, undef, undef, undef, undef, undef, undef, undef, undef, undef, undef, undef, undef, undef, undef, undef, undef, undef, undef, undef, undef, undef, undef, undef, undef, undef, undef, undef, undef, undef, undef, undef, undef, undef, undef, undef, undef, undef, undef], []⟩) (by kernel_rfl) ?_
  have r0 := (hblk 0 (by decide)).2
  have r1 := (hblk 1 (by decide)).2
  have r2 := (hblk 2 (by decide)).2
  have r3 := (hblk 3 (by decide)).2
  have r4 := (hblk 4 (by decide)).2
  generalize Value.agg #[.int .i64 kd, .string nm, .int .u64 ver, .int .i64 o.w.rep, .int .i64 o.w.cpu, .int .i64 o.w.mem, .slice o.w.L.ao o.w.L.la o.w.L.ca, .slice o.w.S.ao o.w.S.la o.w.S.ca, .slice o.w.T.ao o.w.T.la o.w.T.ca, .int .i64 o.w.warm, .string o.p.owner, .string o.p.node, .int .i64 o.p.phase, .int .i64 o.p.since, .int .i64 o.p.cpu, .int .i64 o.p.mem, .slice o.p.L.ao o.p.L.la o.p.L.ca, .slice o.p.S.ao o.p.S.la o.p.S.ca, .slice o.p.T.ao o.p.T.la o.p.T.ca, .int .i64 o.p.warm, .string o.n.group, .int .i64 o.n.cpu, .int .i64 o.n.mem, .slice o.n.L.ao o.n.L.la o.n.L.ca, .slice o.n.T.ao o.n.T.la o.n.T.ca, .int .i64 o.n.since, .bool o.n.closed, .int .i64 o.g.min, .int .i64 o.g.max, .int .i64 o.g.target, .int .i64 o.g.cpu, .int .i64 o.g.mem, .slice o.g.L.ao o.g.L.la o.g.L.ca, .slice o.g.T.ao o.g.T.la o.g.T.ca, .int .i64 o.g.prio, .string o.h.target, .int .i64 o.h.min, .int .i64 o.h.max, .slice o.h.M.ao o.h.M.la o.h.M.ca, .int .i64 o.h.tol, .int .i64 o.h.up.win, .int .i64 o.h.up.pick, .slice o.h.up.P.ao o.h.up.P.la o.h.up.P.ca, .int .i64 o.h.down.win, .int .i64 o.h.down.pick, .slice o.h.down.P.ao o.h.down.P.la o.h.down.P.ca, .slice o.h.past.ao o.h.past.la o.h.past.ca] = v0
  generalize Value.agg #[.int .i64 o.w.rep, .int .i64 o.w.cpu, .int .i64 o.w.mem, .slice o.w.L.ao o.w.L.la o.w.L.ca, .slice o.w.S.ao o.w.S.la o.w.S.ca, .slice o.w.T.ao o.w.T.la o.w.T.ca, .int .i64 o.w.warm] = v1
  generalize Value.agg #[.string o.p.owner, .string o.p.node, .int .i64 o.p.phase, .int .i64 o.p.since, .int .i64 o.p.cpu, .int .i64 o.p.mem, .slice o.p.L.ao o.p.L.la o.p.L.ca, .slice o.p.S.ao o.p.S.la o.p.S.ca, .slice o.p.T.ao o.p.T.la o.p.T.ca, .int .i64 o.p.warm] = v2
  generalize Value.agg #[.string o.n.group, .int .i64 o.n.cpu, .int .i64 o.n.mem, .slice o.n.L.ao o.n.L.la o.n.L.ca, .slice o.n.T.ao o.n.T.la o.n.T.ca, .int .i64 o.n.since, .bool o.n.closed] = v3
  generalize Value.agg #[.int .i64 o.g.min, .int .i64 o.g.max, .int .i64 o.g.target, .int .i64 o.g.cpu, .int .i64 o.g.mem, .slice o.g.L.ao o.g.L.la o.g.L.ca, .slice o.g.T.ao o.g.T.la o.g.T.ca, .int .i64 o.g.prio] = v4
  generalize Value.agg #[.string o.h.target, .int .i64 o.h.min, .int .i64 o.h.max, .slice o.h.M.ao o.h.M.la o.h.M.ca, .int .i64 o.h.tol, .int .i64 o.h.up.win, .int .i64 o.h.up.pick, .slice o.h.up.P.ao o.h.up.P.la o.h.up.P.ca, .int .i64 o.h.down.win, .int .i64 o.h.down.pick, .slice o.h.down.P.ao o.h.down.P.la o.h.down.P.ca, .slice o.h.past.ao o.h.past.la o.h.past.ca] = v5
  have c0_0 : w1.cell? ⟨B 0, 0, none⟩ = some (.int .i64 o.w.rep) := cell_of_row _ _ _ _ _ _ r0
  have c0_1 : w1.cell? ⟨B 0, 1, none⟩ = some (.int .i64 o.w.cpu) := cell_of_row _ _ _ _ _ _ r0
  have c0_2 : w1.cell? ⟨B 0, 2, none⟩ = some (.int .i64 o.w.mem) := cell_of_row _ _ _ _ _ _ r0
  have c0_3 : w1.cell? ⟨B 0, 3, none⟩ = some (.slice o.w.L.ao o.w.L.la o.w.L.ca) := cell_of_row _ _ _ _ _ _ r0
  have c0_4 : w1.cell? ⟨B 0, 4, none⟩ = some (.slice o.w.S.ao o.w.S.la o.w.S.ca) := cell_of_row _ _ _ _ _ _ r0
  have c0_5 : w1.cell? ⟨B 0, 5, none⟩ = some (.slice o.w.T.ao o.w.T.la o.w.T.ca) := cell_of_row _ _ _ _ _ _ r0
  have c0_6 : w1.cell? ⟨B 0, 6, none⟩ = some (.int .i64 o.w.warm) := cell_of_row _ _ _ _ _ _ r0
  have c1_0 : w1.cell? ⟨B 1, 0, none⟩ = some (.string o.p.owner) := cell_of_row _ _ _ _ _ _ r1
  have c1_1 : w1.cell? ⟨B 1, 1, none⟩ = some (.string o.p.node) := cell_of_row _ _ _ _ _ _ r1
  have c1_2 : w1.cell? ⟨B 1, 2, none⟩ = some (.int .i64 o.p.phase) := cell_of_row _ _ _ _ _ _ r1
  have c1_3 : w1.cell? ⟨B 1, 3, none⟩ = some (.int .i64 o.p.since) := cell_of_row _ _ _ _ _ _ r1
  have c1_4 : w1.cell? ⟨B 1, 4, none⟩ = some (.int .i64 o.p.cpu) := cell_of_row _ _ _ _ _ _ r1
  have c1_5 : w1.cell? ⟨B 1, 5, none⟩ = some (.int .i64 o.p.mem) := cell_of_row _ _ _ _ _ _ r1
  have c1_6 : w1.cell? ⟨B 1, 6, none⟩ = some (.slice o.p.L.ao o.p.L.la o.p.L.ca) := cell_of_row _ _ _ _ _ _ r1
  have c1_7 : w1.cell? ⟨B 1, 7, none⟩ = some (.slice o.p.S.ao o.p.S.la o.p.S.ca) := cell_of_row _ _ _ _ _ _ r1
  have c1_8 : w1.cell? ⟨B 1, 8, none⟩ = some (.slice o.p.T.ao o.p.T.la o.p.T.ca) := cell_of_row _ _ _ _ _ _ r1
  have c1_9 : w1.cell? ⟨B 1, 9, none⟩ = some (.int .i64 o.p.warm) := cell_of_row _ _ _ _ _ _ r1
  have c2_0 : w1.cell? ⟨B 2, 0, none⟩ = some (.string o.n.group) := cell_of_row _ _ _ _ _ _ r2
  have c2_1 : w1.cell? ⟨B 2, 1, none⟩ = some (.int .i64 o.n.cpu) := cell_of_row _ _ _ _ _ _ r2
  have c2_2 : w1.cell? ⟨B 2, 2, none⟩ = some (.int .i64 o.n.mem) := cell_of_row _ _ _ _ _ _ r2
  have c2_3 : w1.cell? ⟨B 2, 3, none⟩ = some (.slice o.n.L.ao o.n.L.la o.n.L.ca) := cell_of_row _ _ _ _ _ _ r2
  have c2_4 : w1.cell? ⟨B 2, 4, none⟩ = some (.slice o.n.T.ao o.n.T.la o.n.T.ca) := cell_of_row _ _ _ _ _ _ r2
  have c2_5 : w1.cell? ⟨B 2, 5, none⟩ = some (.int .i64 o.n.since) := cell_of_row _ _ _ _ _ _ r2
  have c2_6 : w1.cell? ⟨B 2, 6, none⟩ = some (.bool o.n.closed) := cell_of_row _ _ _ _ _ _ r2
  have c3_0 : w1.cell? ⟨B 3, 0, none⟩ = some (.int .i64 o.g.min) := cell_of_row _ _ _ _ _ _ r3
  have c3_1 : w1.cell? ⟨B 3, 1, none⟩ = some (.int .i64 o.g.max) := cell_of_row _ _ _ _ _ _ r3
  have c3_2 : w1.cell? ⟨B 3, 2, none⟩ = some (.int .i64 o.g.target) := cell_of_row _ _ _ _ _ _ r3
  have c3_3 : w1.cell? ⟨B 3, 3, none⟩ = some (.int .i64 o.g.cpu) := cell_of_row _ _ _ _ _ _ r3
  have c3_4 : w1.cell? ⟨B 3, 4, none⟩ = some (.int .i64 o.g.mem) := cell_of_row _ _ _ _ _ _ r3
  have c3_5 : w1.cell? ⟨B 3, 5, none⟩ = some (.slice o.g.L.ao o.g.L.la o.g.L.ca) := cell_of_row _ _ _ _ _ _ r3
  have c3_6 : w1.cell? ⟨B 3, 6, none⟩ = some (.slice o.g.T.ao o.g.T.la o.g.T.ca) := cell_of_row _ _ _ _ _ _ r3
  have c3_7 : w1.cell? ⟨B 3, 7, none⟩ = some (.int .i64 o.g.prio) := cell_of_row _ _ _ _ _ _ r3
  have c4_0 : w1.cell? ⟨B 4, 0, none⟩ = some (.string o.h.target) := cell_of_row _ _ _ _ _ _ r4
  have c4_1 : w1.cell? ⟨B 4, 1, none⟩ = some (.int .i64 o.h.min) := cell_of_row _ _ _ _ _ _ r4
  have c4_2 : w1.cell? ⟨B 4, 2, none⟩ = some (.int .i64 o.h.max) := cell_of_row _ _ _ _ _ _ r4
  have c4_3 : w1.cell? ⟨B 4, 3, none⟩ = some (.slice o.h.M.ao o.h.M.la o.h.M.ca) := cell_of_row _ _ _ _ _ _ r4
  have c4_4 : w1.cell? ⟨B 4, 4, none⟩ = some (.int .i64 o.h.tol) := cell_of_row _ _ _ _ _ _ r4
  have c4_5 : w1.cell? ⟨B 4, 5, none⟩ = some (.int .i64 o.h.up.win) := cell_of_row _ _ _ _ _ _ r4
  have c4_6 : w1.cell? ⟨B 4, 6, none⟩ = some (.int .i64 o.h.up.pick) := cell_of_row _ _ _ _ _ _ r4
  have c4_7 : w1.cell? ⟨B 4, 7, none⟩ = some (.slice o.h.up.P.ao o.h.up.P.la o.h.up.P.ca) := cell_of_row _ _ _ _ _ _ r4
  have c4_8 : w1.cell? ⟨B 4, 8, none⟩ = some (.int .i64 o.h.down.win) := cell_of_row _ _ _ _ _ _ r4
  have c4_9 : w1.cell? ⟨B 4, 9, none⟩ = some (.int .i64 o.h.down.pick) := cell_of_row _ _ _ _ _ _ r4
  have c4_10 : w1.cell? ⟨B 4, 10, none⟩ = some (.slice o.h.down.P.ao o.h.down.P.la o.h.down.P.ca) := cell_of_row _ _ _ _ _ _ r4
  have c4_11 : w1.cell? ⟨B 4, 11, none⟩ = some (.slice o.h.past.ao o.h.past.la o.h.past.ca) := cell_of_row _ _ _ _ _ _ r4
  have kk := Below.cell_some (show Below (w.alloc _).heap.size (w.alloc _) w1 from hb) (show (w.alloc (.cells #[.int .i64 kd, .string nm, .int .u64 ver, .int .i64 o.w.rep, .int .i64 o.w.cpu, .int .i64 o.w.mem, .slice o.w.L.ao o.w.L.la o.w.L.ca, .slice o.w.S.ao o.w.S.la o.w.S.ca, .slice o.w.T.ao o.w.T.la o.w.T.ca, .int .i64 o.w.warm, .string o.p.owner, .string o.p.node, .int .i64 o.p.phase, .int .i64 o.p.since, .int .i64 o.p.cpu, .int .i64 o.p.mem, .slice o.p.L.ao o.p.L.la o.p.L.ca, .slice o.p.S.ao o.p.S.la o.p.S.ca, .slice o.p.T.ao o.p.T.la o.p.T.ca, .int .i64 o.p.warm, .string o.n.group, .int .i64 o.n.cpu, .int .i64 o.n.mem, .slice o.n.L.ao o.n.L.la o.n.L.ca, .slice o.n.T.ao o.n.T.la o.n.T.ca, .int .i64 o.n.since, .bool o.n.closed, .int .i64 o.g.min, .int .i64 o.g.max, .int .i64 o.g.target, .int .i64 o.g.cpu, .int .i64 o.g.mem, .slice o.g.L.ao o.g.L.la o.g.L.ca, .slice o.g.T.ao o.g.T.la o.g.T.ca, .int .i64 o.g.prio, .string o.h.target, .int .i64 o.h.min, .int .i64 o.h.max, .slice o.h.M.ao o.h.M.la o.h.M.ca, .int .i64 o.h.tol, .int .i64 o.h.up.win, .int .i64 o.h.up.pick, .slice o.h.up.P.ao o.h.up.P.la o.h.up.P.ca, .int .i64 o.h.down.win, .int .i64 o.h.down.pick, .slice o.h.down.P.ao o.h.down.P.la o.h.down.P.ca, .slice o.h.past.ao o.h.past.la o.h.past.ca] 44)).cell? ⟨w.heap.size, 0, none⟩ = some (.int .i64 kd) from cell_new w _ _ 0)
  have Hb : Hid (Below w.heap.size w w1) := ((Below.refl w.heap.size w).alloc (Nat.le_refl _) _).trans (hb.mono (by simp))
  clear hb hblk r0 r1 r2 r3 r4
  generalize q_w_cpu : o.w.cpu = w_cpu at c0_1 ⊢
  generalize q_w_mem : o.w.mem = w_mem at c0_2 ⊢
  generalize q_p_cpu : o.p.cpu = p_cpu at c1_4 ⊢
  generalize q_p_mem : o.p.mem = p_mem at c1_5 ⊢
  generalize q_n_cpu : o.n.cpu = n_cpu at c2_1 ⊢
  generalize q_n_mem : o.n.mem = n_mem at c2_2 ⊢
  generalize q_g_cpu : o.g.cpu = g_cpu at c3_3 ⊢
  generalize q_g_mem : o.g.mem = g_mem at c3_4 ⊢
  go_upto_region 2 with fail
  go_cut [8] from 13 (fun s wx => s = .bool (wlNo o.w) ∧ w1 = wx)
  case first =>
    as_aux_lemma =>
      have HE : Hid ((wlNo o.w) = (((((o.w.rep == 0) && ((w_cpu == 0) && (w_mem == 0))) && (wrap64 (wrap64 ((o.w.L.la : Int) + (o.w.S.la : Int)) + (o.w.T.la : Int)) == 0)) && (o.w.warm == 0)))) := by
        show _ = _
        rw [← q_w_cpu, ← q_w_mem]
        rfl
      clear q_w_cpu q_w_mem q_p_cpu q_p_mem q_n_cpu q_n_mem q_g_cpu q_g_mem
      clear kk c1_0 c1_1 c1_2 c1_3 c1_4 c1_5 c1_6 c1_7 c1_8 c1_9 c2_0 c2_1 c2_2 c2_3 c2_4 c2_5 c2_6 c3_0 c3_1 c3_2 c3_3 c3_4 c3_5 c3_6 c3_7 c4_0 c4_1 c4_2 c4_3 c4_4 c4_5 c4_6 c4_7 c4_8 c4_9 c4_10 c4_11
      refine wp_region_lit ?_
      refine wpList_cutHid 4 (fun a' w' => w1 = w' ∧ ∃ c, Hid (c = (o.w.rep == 0)) ∧ ∃ cf0_23 cf0_24 cf0_25 : Value, a' = ⟨#[v0, .pointer (some ⟨w.heap.size, 0, none⟩), .bool false, .pointer (some ⟨B 0, 0, none⟩), .pointer (some ⟨B 1, 0, none⟩), .pointer (some ⟨B 2, 0, none⟩), .pointer (some ⟨B 3, 0, none⟩), .pointer (some ⟨B 4, 0, none⟩), undef, undef, undef, undef, undef, .pointer (some ⟨w.heap.size, 3, none⟩), v1, .pointer (some ⟨w.heap.size, 10, none⟩), v2, .pointer (some ⟨w.heap.size, 20, none⟩), v3, .pointer (some ⟨w.heap.size, 27, none⟩), v4, .pointer (some ⟨w.heap.size, 35, none⟩), v5, cf0_23, cf0_24, cf0_25, .bool c, undef, undef, undef, undef, undef, undef, undef, undef, undef, undef, undef, undef, undef, undef, undef, undef, undef, undef, undef, undef, undef, undef, undef, undef, undef, undef, undef, undef, undef, undef, undef, undef, undef, undef, undef, undef, undef, undef, undef, undef, undef, undef, undef, undef, undef, undef, undef, undef, undef, undef, undef, undef, undef, undef, undef, undef, undef, undef, undef, undef, undef, undef, undef, undef, undef, undef, undef, undef, undef, undef, undef, undef, undef, undef, undef, undef, undef, undef, undef, undef, undef, undef, undef, undef, undef, undef, undef, undef, undef, undef, undef, undef, undef, undef, undef, undef, undef, undef, undef, undef, undef, undef, undef, undef, undef, undef, undef, undef, undef, undef, undef, undef, undef, undef, undef, undef, undef, undef, undef, undef, undef, undef, undef, undef, undef, undef, undef, undef, undef, undef, undef, undef, undef, undef, undef, undef, undef, undef, undef, undef, undef, undef, undef, undef, undef, undef, undef, undef, undef, undef, undef, undef, undef, undef, undef, undef, undef, undef, undef, undef, undef, undef, undef, undef, undef, undef, undef, undef, undef, undef, undef, undef, undef, undef, undef, undef, undef, undef, undef, undef, undef, undef, undef, undef, undef, undef, undef, undef, undef, undef, undef, undef, undef, undef, undef, undef, undef, undef, undef, undef, undef, undef, undef, undef, undef, undef, undef, undef, undef, undef, undef, undef, undef, undef, undef, undef, undef, undef, undef, undef, undef, undef, undef, undef, undef, undef, undef, undef, undef, undef, undef, undef, undef, undef], []⟩) ?_ ?_
      · as_aux_lemma =>
          intro K hK
          simp only [List.take_succ_cons, List.take_zero]
          obtain ⟨t, ht⟩ : ∃ b, ((o.w.rep == 0)) = b := ⟨_, rfl⟩
          go_wp2_with fail
          exact CutPost.normal (hK _ _ ⟨rfl, t, (tr_one ht), _, _, _, rfl⟩)
      · simp only [List.drop_succ_cons, List.drop_zero]
        rintro a' w' ⟨rfl, c0, CH0, cf0_23, cf0_24, cf0_25, rfl⟩
        refine wpList_cutHid 6 (fun a' w' => w1 = w' ∧ ∃ c, Hid (c = (c0 && ((w_cpu == 0) && (w_mem == 0)))) ∧ ∃ cf1_26 cf1_27 cf1_28 cf1_29 cf1_30 cf1_31 : Value, a' = ⟨#[v0, .pointer (some ⟨w.heap.size, 0, none⟩), .bool false, .pointer (some ⟨B 0, 0, none⟩), .pointer (some ⟨B 1, 0, none⟩), .pointer (some ⟨B 2, 0, none⟩), .pointer (some ⟨B 3, 0, none⟩), .pointer (some ⟨B 4, 0, none⟩), undef, undef, undef, undef, undef, .pointer (some ⟨w.heap.size, 3, none⟩), v1, .pointer (some ⟨w.heap.size, 10, none⟩), v2, .pointer (some ⟨w.heap.size, 20, none⟩), v3, .pointer (some ⟨w.heap.size, 27, none⟩), v4, .pointer (some ⟨w.heap.size, 35, none⟩), v5, cf0_23, cf0_24, cf0_25, cf1_26, cf1_27, cf1_28, cf1_29, cf1_30, cf1_31, .bool c, undef, undef, undef, undef, undef, undef, undef, undef, undef, undef, undef, undef, undef, undef, undef, undef, undef, undef, undef, undef, undef, undef, undef, undef, undef, undef, undef, undef, undef, undef, undef, undef, undef, undef, undef, undef, undef, undef, undef, undef, undef, undef, undef, undef, undef, undef, undef, undef, undef, undef, undef, undef, undef, undef, undef, undef, undef, undef, undef, undef, undef, undef, undef, undef, undef, undef, undef, undef, undef, undef, undef, undef, undef, undef, undef, undef, undef, undef, undef, undef, undef, undef, undef, undef, undef, undef, undef, undef, undef, undef, undef, undef, undef, undef, undef, undef, undef, undef, undef, undef, undef, undef, undef, undef, undef, undef, undef, undef, undef, undef, undef, undef, undef, undef, undef, undef, undef, undef, undef, undef, undef, undef, undef, undef, undef, undef, undef, undef, undef, undef, undef, undef, undef, undef, undef, undef, undef, undef, undef, undef, undef, undef, undef, undef, undef, undef, undef, undef, undef, undef, undef, undef, undef, undef, undef, undef, undef, undef, undef, undef, undef, undef, undef, undef, undef, undef, undef, undef, undef, undef, undef, undef, undef, undef, undef, undef, undef, undef, undef, undef, undef, undef, undef, undef, undef, undef, undef, undef, undef, undef, undef, undef, undef, undef, undef, undef, undef, undef, undef, undef, undef, undef, undef, undef, undef, undef, undef, undef, undef, undef, undef, undef, undef, undef, undef, undef, undef, undef, undef, undef, undef, undef, undef, undef, undef, undef, undef, undef], []⟩) ?_ ?_
        · as_aux_lemma =>
            intro K hK
            simp only [List.take_succ_cons, List.take_zero]
            rcases c0 with _ | _
            · go_wp2_with fail
              exact CutPost.normal (hK _ _ ⟨rfl, false, fl_and, _, _, _, _, _, _, rfl⟩)
            · rcases Decidable.em (w_cpu = 0) with hc | hc
              rotate_left
              · have e : (w_cpu == 0) = false := beq_eq_false_iff_ne.2 hc
                go_wp2_with fail
                exact CutPost.normal (hK _ _ ⟨rfl, false, no_left e, _, _, _, _, _, _, rfl⟩)
              · subst hc
                rcases Decidable.em (w_mem = 0) with hc | hc
                rotate_left
                · have e : (w_mem == 0) = false := beq_eq_false_iff_ne.2 hc
                  go_wp2_with fail
                  exact CutPost.normal (hK _ _ ⟨rfl, false, no_right e, _, _, _, _, _, _, rfl⟩)
                · subst hc
                  go_wp2_with fail
                  exact CutPost.normal (hK _ _ ⟨rfl, true, rfl, _, _, _, _, _, _, rfl⟩)
        · simp only [List.drop_succ_cons, List.drop_zero]
          rintro a' w' ⟨rfl, c1, CH1, cf1_26, cf1_27, cf1_28, cf1_29, cf1_30, cf1_31, rfl⟩
          refine wpList_cutHid 14 (fun a' w' => w1 = w' ∧ ∃ c, Hid (c = (c1 && (wrap64 (wrap64 ((o.w.L.la : Int) + (o.w.S.la : Int)) + (o.w.T.la : Int)) == 0))) ∧ ∃ cf2_32 cf2_33 cf2_34 cf2_35 cf2_36 cf2_37 cf2_38 cf2_39 cf2_40 cf2_41 cf2_42 cf2_43 cf2_44 cf2_45 : Value, a' = ⟨#[v0, .pointer (some ⟨w.heap.size, 0, none⟩), .bool false, .pointer (some ⟨B 0, 0, none⟩), .pointer (some ⟨B 1, 0, none⟩), .pointer (some ⟨B 2, 0, none⟩), .pointer (some ⟨B 3, 0, none⟩), .pointer (some ⟨B 4, 0, none⟩), undef, undef, undef, undef, undef, .pointer (some ⟨w.heap.size, 3, none⟩), v1, .pointer (some ⟨w.heap.size, 10, none⟩), v2, .pointer (some ⟨w.heap.size, 20, none⟩), v3, .pointer (some ⟨w.heap.size, 27, none⟩), v4, .pointer (some ⟨w.heap.size, 35, none⟩), v5, cf0_23, cf0_24, cf0_25, cf1_26, cf1_27, cf1_28, cf1_29, cf1_30, cf1_31, cf2_32, cf2_33, cf2_34, cf2_35, cf2_36, cf2_37, cf2_38, cf2_39, cf2_40, cf2_41, cf2_42, cf2_43, cf2_44, cf2_45, .bool c, undef, undef, undef, undef, undef, undef, undef, undef, undef, undef, undef, undef, undef, undef, undef, undef, undef, undef, undef, undef, undef, undef, undef, undef, undef, undef, undef, undef, undef, undef, undef, undef, undef, undef, undef, undef, undef, undef, undef, undef, undef, undef, undef, undef, undef, undef, undef, undef, undef, undef, undef, undef, undef, undef, undef, undef, undef, undef, undef, undef, undef, undef, undef, undef, undef, undef, undef, undef, undef, undef, undef, undef, undef, undef, undef, undef, undef, undef, undef, undef, undef, undef, undef, undef, undef, undef, undef, undef, undef, undef, undef, undef, undef, undef, undef, undef, undef, undef, undef, undef, undef, undef, undef, undef, undef, undef, undef, undef, undef, undef, undef, undef, undef, undef, undef, undef, undef, undef, undef, undef, undef, undef, undef, undef, undef, undef, undef, undef, undef, undef, undef, undef, undef, undef, undef, undef, undef, undef, undef, undef, undef, undef, undef, undef, undef, undef, undef, undef, undef, undef, undef, undef, undef, undef, undef, undef, undef, undef, undef, undef, undef, undef, undef, undef, undef, undef, undef, undef, undef, undef, undef, undef, undef, undef, undef, undef, undef, undef, undef, undef, undef, undef, undef, undef, undef, undef, undef, undef, undef, undef, undef, undef, undef, undef, undef, undef, undef, undef, undef, undef, undef, undef, undef, undef, undef, undef, undef, undef, undef, undef, undef, undef, undef, undef], []⟩) ?_ ?_
          · as_aux_lemma =>
              intro K hK
              simp only [List.take_succ_cons, List.take_zero]
              rcases c1 with _ | _
              · go_wp2_with fail
                exact CutPost.normal (hK _ _ ⟨rfl, false, fl_and, _, _, _, _, _, _, _, _, _, _, _, _, _, _, rfl⟩)
              · obtain ⟨t, ht⟩ : ∃ b, ((wrap64 (wrap64 ((o.w.L.la : Int) + (o.w.S.la : Int)) + (o.w.T.la : Int)) == 0)) = b := ⟨_, rfl⟩
                go_wp2_with fail
                exact CutPost.normal (hK _ _ ⟨rfl, t, (tr_and ht), _, _, _, _, _, _, _, _, _, _, _, _, _, _, rfl⟩)
          · simp only [List.drop_succ_cons, List.drop_zero]
            rintro a' w' ⟨rfl, c2, CH2, cf2_32, cf2_33, cf2_34, cf2_35, cf2_36, cf2_37, cf2_38, cf2_39, cf2_40, cf2_41, cf2_42, cf2_43, cf2_44, cf2_45, rfl⟩
            rcases c2 with _ | _
            · go_wp2_with fail
              go_meet
              case rel => exact ⟨congrArg Value.bool (HE.out.trans (by rw [← CH0.out, ← CH1.out, ← CH2.out, Bool.false_and])).symm, rfl⟩
            · obtain ⟨t, ht⟩ : ∃ b, ((o.w.warm == 0)) = b := ⟨_, rfl⟩
              go_wp2_with fail
              go_meet
              case rel => exact ⟨congrArg Value.bool (HE.out.trans (by rw [← CH0.out, ← CH1.out, ← CH2.out, Bool.true_and]; exact ht)).symm, rfl⟩
  case rest =>
  obtain ⟨rfl, rfl⟩ := hcut
  go_upto_region 3 with fail
  go_cut [9] from 13 (fun s wx => s = .bool (podNo o.p) ∧ w1 = wx)
  case first =>
    as_aux_lemma =>
      have HE : Hid ((podNo o.p) = (((((((o.p.owner.toList.isEmpty && o.p.node.toList.isEmpty) && (o.p.phase == 0)) && (o.p.since == 0)) && ((p_cpu == 0) && (p_mem == 0))) && (wrap64 (wrap64 ((o.p.L.la : Int) + (o.p.S.la : Int)) + (o.p.T.la : Int)) == 0)) && (o.p.warm == 0)))) := by
        show _ = _
        rw [← q_p_cpu, ← q_p_mem]
        rfl
      clear q_w_cpu q_w_mem q_p_cpu q_p_mem q_n_cpu q_n_mem q_g_cpu q_g_mem
      clear kk c0_0 c0_1 c0_2 c0_3 c0_4 c0_5 c0_6 c2_0 c2_1 c2_2 c2_3 c2_4 c2_5 c2_6 c3_0 c3_1 c3_2 c3_3 c3_4 c3_5 c3_6 c3_7 c4_0 c4_1 c4_2 c4_3 c4_4 c4_5 c4_6 c4_7 c4_8 c4_9 c4_10 c4_11
      refine wp_region_lit ?_
      refine wpList_cutHid 4 (fun a' w' => w1 = w' ∧ ∃ c, Hid (c = o.p.owner.toList.isEmpty) ∧ ∃ cf0_51 cf0_52 cf0_53 : Value, a' = ⟨#[v0, .pointer (some ⟨w.heap.size, 0, none⟩), .bool false, .pointer (some ⟨B 0, 0, none⟩), .pointer (some ⟨B 1, 0, none⟩), .pointer (some ⟨B 2, 0, none⟩), .pointer (some ⟨B 3, 0, none⟩), .pointer (some ⟨B 4, 0, none⟩), .bool (wlNo o.w), undef, undef, undef, undef, u13, u14, u15, u16, u17, u18, u19, u20, u21, u22, u23, u24, u25, u26, u27, u28, u29, u30, u31, u32, u33, u34, u35, u36, u37, u38, u39, u40, u41, u42, u43, u44, u45, u46, u47, u48, u49, u50, cf0_51, cf0_52, cf0_53, .bool c, u55, u56, u57, u58, u59, u60, u61, u62, u63, u64, u65, u66, u67, u68, u69, u70, u71, u72, u73, u74, u75, u76, u77, u78, u79, u80, u81, u82, u83, u84, u85, u86, u87, u88, u89, u90, u91, u92, u93, u94, u95, u96, u97, u98, u99, u100, u101, u102, u103, u104, u105, u106, u107, u108, u109, u110, u111, u112, u113, u114, u115, u116, u117, u118, u119, u120, u121, u122, u123, u124, u125, u126, u127, u128, u129, u130, u131, u132, u133, u134, u135, u136, u137, u138, u139, u140, u141, u142, u143, u144, u145, u146, u147, u148, u149, u150, u151, u152, u153, u154, u155, u156, u157, u158, u159, u160, u161, u162, u163, u164, u165, u166, u167, u168, u169, u170, u171, u172, u173, u174, u175, u176, u177, u178, u179, u180, u181, u182, u183, u184, u185, u186, u187, u188, u189, u190, u191, u192, u193, u194, u195, u196, u197, u198, u199, u200, u201, u202, u203, u204, u205, u206, u207, u208, u209, u210, u211, u212, u213, u214, u215, u216, u217, u218, u219, u220, u221, u222, u223, u224, u225, u226, u227, u228, u229, u230, u231, u232, u233, u234, u235, u236, u237, u238, u239, u240, u241, u242, u243, u244, u245, u246, u247, u248, u249, u250, u251, u252, u253, u254, u255, u256, u257, u258, u259, u260], []⟩) ?_ ?_
      · as_aux_lemma =>
          intro K hK
          simp only [List.take_succ_cons, List.take_zero]
          obtain ⟨t, ht⟩ : ∃ b, (o.p.owner.toList.isEmpty) = b := ⟨_, rfl⟩
          go_wp2_with fail
          exact CutPost.normal (hK _ _ ⟨rfl, t, (tr_one ht), _, _, _, rfl⟩)
      · simp only [List.drop_succ_cons, List.drop_zero]
        rintro a' w' ⟨rfl, c0, CH0, cf0_51, cf0_52, cf0_53, rfl⟩
        refine wpList_cutHid 5 (fun a' w' => w1 = w' ∧ ∃ c, Hid (c = (c0 && o.p.node.toList.isEmpty)) ∧ ∃ cf1_54 cf1_55 cf1_56 cf1_57 cf1_58 : Value, a' = ⟨#[v0, .pointer (some ⟨w.heap.size, 0, none⟩), .bool false, .pointer (some ⟨B 0, 0, none⟩), .pointer (some ⟨B 1, 0, none⟩), .pointer (some ⟨B 2, 0, none⟩), .pointer (some ⟨B 3, 0, none⟩), .pointer (some ⟨B 4, 0, none⟩), .bool (wlNo o.w), undef, undef, undef, undef, u13, u14, u15, u16, u17, u18, u19, u20, u21, u22, u23, u24, u25, u26, u27, u28, u29, u30, u31, u32, u33, u34, u35, u36, u37, u38, u39, u40, u41, u42, u43, u44, u45, u46, u47, u48, u49, u50, cf0_51, cf0_52, cf0_53, cf1_54, cf1_55, cf1_56, cf1_57, cf1_58, .bool c, u60, u61, u62, u63, u64, u65, u66, u67, u68, u69, u70, u71, u72, u73, u74, u75, u76, u77, u78, u79, u80, u81, u82, u83, u84, u85, u86, u87, u88, u89, u90, u91, u92, u93, u94, u95, u96, u97, u98, u99, u100, u101, u102, u103, u104, u105, u106, u107, u108, u109, u110, u111, u112, u113, u114, u115, u116, u117, u118, u119, u120, u121, u122, u123, u124, u125, u126, u127, u128, u129, u130, u131, u132, u133, u134, u135, u136, u137, u138, u139, u140, u141, u142, u143, u144, u145, u146, u147, u148, u149, u150, u151, u152, u153, u154, u155, u156, u157, u158, u159, u160, u161, u162, u163, u164, u165, u166, u167, u168, u169, u170, u171, u172, u173, u174, u175, u176, u177, u178, u179, u180, u181, u182, u183, u184, u185, u186, u187, u188, u189, u190, u191, u192, u193, u194, u195, u196, u197, u198, u199, u200, u201, u202, u203, u204, u205, u206, u207, u208, u209, u210, u211, u212, u213, u214, u215, u216, u217, u218, u219, u220, u221, u222, u223, u224, u225, u226, u227, u228, u229, u230, u231, u232, u233, u234, u235, u236, u237, u238, u239, u240, u241, u242, u243, u244, u245, u246, u247, u248, u249, u250, u251, u252, u253, u254, u255, u256, u257, u258, u259, u260], []⟩) ?_ ?_
        · as_aux_lemma =>
            intro K hK
            simp only [List.take_succ_cons, List.take_zero]
            rcases c0 with _ | _
            · go_wp2_with fail
              exact CutPost.normal (hK _ _ ⟨rfl, false, fl_and, _, _, _, _, _, rfl⟩)
            · obtain ⟨t, ht⟩ : ∃ b, (o.p.node.toList.isEmpty) = b := ⟨_, rfl⟩
              go_wp2_with fail
              exact CutPost.normal (hK _ _ ⟨rfl, t, (tr_and ht), _, _, _, _, _, rfl⟩)
        · simp only [List.drop_succ_cons, List.drop_zero]
          rintro a' w' ⟨rfl, c1, CH1, cf1_54, cf1_55, cf1_56, cf1_57, cf1_58, rfl⟩
          refine wpList_cutHid 5 (fun a' w' => w1 = w' ∧ ∃ c, Hid (c = (c1 && (o.p.phase == 0))) ∧ ∃ cf2_59 cf2_60 cf2_61 cf2_62 cf2_63 : Value, a' = ⟨#[v0, .pointer (some ⟨w.heap.size, 0, none⟩), .bool false, .pointer (some ⟨B 0, 0, none⟩), .pointer (some ⟨B 1, 0, none⟩), .pointer (some ⟨B 2, 0, none⟩), .pointer (some ⟨B 3, 0, none⟩), .pointer (some ⟨B 4, 0, none⟩), .bool (wlNo o.w), undef, undef, undef, undef, u13, u14, u15, u16, u17, u18, u19, u20, u21, u22, u23, u24, u25, u26, u27, u28, u29, u30, u31, u32, u33, u34, u35, u36, u37, u38, u39, u40, u41, u42, u43, u44, u45, u46, u47, u48, u49, u50, cf0_51, cf0_52, cf0_53, cf1_54, cf1_55, cf1_56, cf1_57, cf1_58, cf2_59, cf2_60, cf2_61, cf2_62, cf2_63, .bool c, u65, u66, u67, u68, u69, u70, u71, u72, u73, u74, u75, u76, u77, u78, u79, u80, u81, u82, u83, u84, u85, u86, u87, u88, u89, u90, u91, u92, u93, u94, u95, u96, u97, u98, u99, u100, u101, u102, u103, u104, u105, u106, u107, u108, u109, u110, u111, u112, u113, u114, u115, u116, u117, u118, u119, u120, u121, u122, u123, u124, u125, u126, u127, u128, u129, u130, u131, u132, u133, u134, u135, u136, u137, u138, u139, u140, u141, u142, u143, u144, u145, u146, u147, u148, u149, u150, u151, u152, u153, u154, u155, u156, u157, u158, u159, u160, u161, u162, u163, u164, u165, u166, u167, u168, u169, u170, u171, u172, u173, u174, u175, u176, u177, u178, u179, u180, u181, u182, u183, u184, u185, u186, u187, u188, u189, u190, u191, u192, u193, u194, u195, u196, u197, u198, u199, u200, u201, u202, u203, u204, u205, u206, u207, u208, u209, u210, u211, u212, u213, u214, u215, u216, u217, u218, u219, u220, u221, u222, u223, u224, u225, u226, u227, u228, u229, u230, u231, u232, u233, u234, u235, u236, u237, u238, u239, u240, u241, u242, u243, u244, u245, u246, u247, u248, u249, u250, u251, u252, u253, u254, u255, u256, u257, u258, u259, u260], []⟩) ?_ ?_
          · as_aux_lemma =>
              intro K hK
              simp only [List.take_succ_cons, List.take_zero]
              rcases c1 with _ | _
              · go_wp2_with fail
                exact CutPost.normal (hK _ _ ⟨rfl, false, fl_and, _, _, _, _, _, rfl⟩)
              · obtain ⟨t, ht⟩ : ∃ b, ((o.p.phase == 0)) = b := ⟨_, rfl⟩
                go_wp2_with fail
                exact CutPost.normal (hK _ _ ⟨rfl, t, (tr_and ht), _, _, _, _, _, rfl⟩)
          · simp only [List.drop_succ_cons, List.drop_zero]
            rintro a' w' ⟨rfl, c2, CH2, cf2_59, cf2_60, cf2_61, cf2_62, cf2_63, rfl⟩
            refine wpList_cutHid 5 (fun a' w' => w1 = w' ∧ ∃ c, Hid (c = (c2 && (o.p.since == 0))) ∧ ∃ cf3_64 cf3_65 cf3_66 cf3_67 cf3_68 : Value, a' = ⟨#[v0, .pointer (some ⟨w.heap.size, 0, none⟩), .bool false, .pointer (some ⟨B 0, 0, none⟩), .pointer (some ⟨B 1, 0, none⟩), .pointer (some ⟨B 2, 0, none⟩), .pointer (some ⟨B 3, 0, none⟩), .pointer (some ⟨B 4, 0, none⟩), .bool (wlNo o.w), undef, undef, undef, undef, u13, u14, u15, u16, u17, u18, u19, u20, u21, u22, u23, u24, u25, u26, u27, u28, u29, u30, u31, u32, u33, u34, u35, u36, u37, u38, u39, u40, u41, u42, u43, u44, u45, u46, u47, u48, u49, u50, cf0_51, cf0_52, cf0_53, cf1_54, cf1_55, cf1_56, cf1_57, cf1_58, cf2_59, cf2_60, cf2_61, cf2_62, cf2_63, cf3_64, cf3_65, cf3_66, cf3_67, cf3_68, .bool c, u70, u71, u72, u73, u74, u75, u76, u77, u78, u79, u80, u81, u82, u83, u84, u85, u86, u87, u88, u89, u90, u91, u92, u93, u94, u95, u96, u97, u98, u99, u100, u101, u102, u103, u104, u105, u106, u107, u108, u109, u110, u111, u112, u113, u114, u115, u116, u117, u118, u119, u120, u121, u122, u123, u124, u125, u126, u127, u128, u129, u130, u131, u132, u133, u134, u135, u136, u137, u138, u139, u140, u141, u142, u143, u144, u145, u146, u147, u148, u149, u150, u151, u152, u153, u154, u155, u156, u157, u158, u159, u160, u161, u162, u163, u164, u165, u166, u167, u168, u169, u170, u171, u172, u173, u174, u175, u176, u177, u178, u179, u180, u181, u182, u183, u184, u185, u186, u187, u188, u189, u190, u191, u192, u193, u194, u195, u196, u197, u198, u199, u200, u201, u202, u203, u204, u205, u206, u207, u208, u209, u210, u211, u212, u213, u214, u215, u216, u217, u218, u219, u220, u221, u222, u223, u224, u225, u226, u227, u228, u229, u230, u231, u232, u233, u234, u235, u236, u237, u238, u239, u240, u241, u242, u243, u244, u245, u246, u247, u248, u249, u250, u251, u252, u253, u254, u255, u256, u257, u258, u259, u260], []⟩) ?_ ?_
            · as_aux_lemma =>
                intro K hK
                simp only [List.take_succ_cons, List.take_zero]
                rcases c2 with _ | _
                · go_wp2_with fail
                  exact CutPost.normal (hK _ _ ⟨rfl, false, fl_and, _, _, _, _, _, rfl⟩)
                · obtain ⟨t, ht⟩ : ∃ b, ((o.p.since == 0)) = b := ⟨_, rfl⟩
                  go_wp2_with fail
                  exact CutPost.normal (hK _ _ ⟨rfl, t, (tr_and ht), _, _, _, _, _, rfl⟩)
            · simp only [List.drop_succ_cons, List.drop_zero]
              rintro a' w' ⟨rfl, c3, CH3, cf3_64, cf3_65, cf3_66, cf3_67, cf3_68, rfl⟩
              refine wpList_cutHid 6 (fun a' w' => w1 = w' ∧ ∃ c, Hid (c = (c3 && ((p_cpu == 0) && (p_mem == 0)))) ∧ ∃ cf4_69 cf4_70 cf4_71 cf4_72 cf4_73 cf4_74 : Value, a' = ⟨#[v0, .pointer (some ⟨w.heap.size, 0, none⟩), .bool false, .pointer (some ⟨B 0, 0, none⟩), .pointer (some ⟨B 1, 0, none⟩), .pointer (some ⟨B 2, 0, none⟩), .pointer (some ⟨B 3, 0, none⟩), .pointer (some ⟨B 4, 0, none⟩), .bool (wlNo o.w), undef, undef, undef, undef, u13, u14, u15, u16, u17, u18, u19, u20, u21, u22, u23, u24, u25, u26, u27, u28, u29, u30, u31, u32, u33, u34, u35, u36, u37, u38, u39, u40, u41, u42, u43, u44, u45, u46, u47, u48, u49, u50, cf0_51, cf0_52, cf0_53, cf1_54, cf1_55, cf1_56, cf1_57, cf1_58, cf2_59, cf2_60, cf2_61, cf2_62, cf2_63, cf3_64, cf3_65, cf3_66, cf3_67, cf3_68, cf4_69, cf4_70, cf4_71, cf4_72, cf4_73, cf4_74, .bool c, u76, u77, u78, u79, u80, u81, u82, u83, u84, u85, u86, u87, u88, u89, u90, u91, u92, u93, u94, u95, u96, u97, u98, u99, u100, u101, u102, u103, u104, u105, u106, u107, u108, u109, u110, u111, u112, u113, u114, u115, u116, u117, u118, u119, u120, u121, u122, u123, u124, u125, u126, u127, u128, u129, u130, u131, u132, u133, u134, u135, u136, u137, u138, u139, u140, u141, u142, u143, u144, u145, u146, u147, u148, u149, u150, u151, u152, u153, u154, u155, u156, u157, u158, u159, u160, u161, u162, u163, u164, u165, u166, u167, u168, u169, u170, u171, u172, u173, u174, u175, u176, u177, u178, u179, u180, u181, u182, u183, u184, u185, u186, u187, u188, u189, u190, u191, u192, u193, u194, u195, u196, u197, u198, u199, u200, u201, u202, u203, u204, u205, u206, u207, u208, u209, u210, u211, u212, u213, u214, u215, u216, u217, u218, u219, u220, u221, u222, u223, u224, u225, u226, u227, u228, u229, u230, u231, u232, u233, u234, u235, u236, u237, u238, u239, u240, u241, u242, u243, u244, u245, u246, u247, u248, u249, u250, u251, u252, u253, u254, u255, u256, u257, u258, u259, u260], []⟩) ?_ ?_
              · as_aux_lemma =>
                  intro K hK
                  simp only [List.take_succ_cons, List.take_zero]
                  rcases c3 with _ | _
                  · go_wp2_with fail
                    exact CutPost.normal (hK _ _ ⟨rfl, false, fl_and, _, _, _, _, _, _, rfl⟩)
                  · rcases Decidable.em (p_cpu = 0) with hc | hc
                    rotate_left
                    · have e : (p_cpu == 0) = false := beq_eq_false_iff_ne.2 hc
                      go_wp2_with fail
                      exact CutPost.normal (hK _ _ ⟨rfl, false, no_left e, _, _, _, _, _, _, rfl⟩)
                    · subst hc
                      rcases Decidable.em (p_mem = 0) with hc | hc
                      rotate_left
                      · have e : (p_mem == 0) = false := beq_eq_false_iff_ne.2 hc
                        go_wp2_with fail
                        exact CutPost.normal (hK _ _ ⟨rfl, false, no_right e, _, _, _, _, _, _, rfl⟩)
                      · subst hc
                        go_wp2_with fail
                        exact CutPost.normal (hK _ _ ⟨rfl, true, rfl, _, _, _, _, _, _, rfl⟩)
              · simp only [List.drop_succ_cons, List.drop_zero]
                rintro a' w' ⟨rfl, c4, CH4, cf4_69, cf4_70, cf4_71, cf4_72, cf4_73, cf4_74, rfl⟩
                refine wpList_cutHid 14 (fun a' w' => w1 = w' ∧ ∃ c, Hid (c = (c4 && (wrap64 (wrap64 ((o.p.L.la : Int) + (o.p.S.la : Int)) + (o.p.T.la : Int)) == 0))) ∧ ∃ cf5_75 cf5_76 cf5_77 cf5_78 cf5_79 cf5_80 cf5_81 cf5_82 cf5_83 cf5_84 cf5_85 cf5_86 cf5_87 cf5_88 : Value, a' = ⟨#[v0, .pointer (some ⟨w.heap.size, 0, none⟩), .bool false, .pointer (some ⟨B 0, 0, none⟩), .pointer (some ⟨B 1, 0, none⟩), .pointer (some ⟨B 2, 0, none⟩), .pointer (some ⟨B 3, 0, none⟩), .pointer (some ⟨B 4, 0, none⟩), .bool (wlNo o.w), undef, undef, undef, undef, u13, u14, u15, u16, u17, u18, u19, u20, u21, u22, u23, u24, u25, u26, u27, u28, u29, u30, u31, u32, u33, u34, u35, u36, u37, u38, u39, u40, u41, u42, u43, u44, u45, u46, u47, u48, u49, u50, cf0_51, cf0_52, cf0_53, cf1_54, cf1_55, cf1_56, cf1_57, cf1_58, cf2_59, cf2_60, cf2_61, cf2_62, cf2_63, cf3_64, cf3_65, cf3_66, cf3_67, cf3_68, cf4_69, cf4_70, cf4_71, cf4_72, cf4_73, cf4_74, cf5_75, cf5_76, cf5_77, cf5_78, cf5_79, cf5_80, cf5_81, cf5_82, cf5_83, cf5_84, cf5_85, cf5_86, cf5_87, cf5_88, .bool c, u90, u91, u92, u93, u94, u95, u96, u97, u98, u99, u100, u101, u102, u103, u104, u105, u106, u107, u108, u109, u110, u111, u112, u113, u114, u115, u116, u117, u118, u119, u120, u121, u122, u123, u124, u125, u126, u127, u128, u129, u130, u131, u132, u133, u134, u135, u136, u137, u138, u139, u140, u141, u142, u143, u144, u145, u146, u147, u148, u149, u150, u151, u152, u153, u154, u155, u156, u157, u158, u159, u160, u161, u162, u163, u164, u165, u166, u167, u168, u169, u170, u171, u172, u173, u174, u175, u176, u177, u178, u179, u180, u181, u182, u183, u184, u185, u186, u187, u188, u189, u190, u191, u192, u193, u194, u195, u196, u197, u198, u199, u200, u201, u202, u203, u204, u205, u206, u207, u208, u209, u210, u211, u212, u213, u214, u215, u216, u217, u218, u219, u220, u221, u222, u223, u224, u225, u226, u227, u228, u229, u230, u231, u232, u233, u234, u235, u236, u237, u238, u239, u240, u241, u242, u243, u244, u245, u246, u247, u248, u249, u250, u251, u252, u253, u254, u255, u256, u257, u258, u259, u260], []⟩) ?_ ?_
                · as_aux_lemma =>
                    intro K hK
                    simp only [List.take_succ_cons, List.take_zero]
                    rcases c4 with _ | _
                    · go_wp2_with fail
                      exact CutPost.normal (hK _ _ ⟨rfl, false, fl_and, _, _, _, _, _, _, _, _, _, _, _, _, _, _, rfl⟩)
                    · obtain ⟨t, ht⟩ : ∃ b, ((wrap64 (wrap64 ((o.p.L.la : Int) + (o.p.S.la : Int)) + (o.p.T.la : Int)) == 0)) = b := ⟨_, rfl⟩
                      go_wp2_with fail
                      exact CutPost.normal (hK _ _ ⟨rfl, t, (tr_and ht), _, _, _, _, _, _, _, _, _, _, _, _, _, _, rfl⟩)
                · simp only [List.drop_succ_cons, List.drop_zero]
                  rintro a' w' ⟨rfl, c5, CH5, cf5_75, cf5_76, cf5_77, cf5_78, cf5_79, cf5_80, cf5_81, cf5_82, cf5_83, cf5_84, cf5_85, cf5_86, cf5_87, cf5_88, rfl⟩
                  rcases c5 with _ | _
                  · go_wp2_with fail
                    go_meet
                    case rel => exact ⟨congrArg Value.bool (HE.out.trans (by rw [← CH0.out, ← CH1.out, ← CH2.out, ← CH3.out, ← CH4.out, ← CH5.out, Bool.false_and])).symm, rfl⟩
                  · obtain ⟨t, ht⟩ : ∃ b, ((o.p.warm == 0)) = b := ⟨_, rfl⟩
                    go_wp2_with fail
                    go_meet
                    case rel => exact ⟨congrArg Value.bool (HE.out.trans (by rw [← CH0.out, ← CH1.out, ← CH2.out, ← CH3.out, ← CH4.out, ← CH5.out, Bool.true_and]; exact ht)).symm, rfl⟩
  case rest =>
  obtain ⟨rfl, rfl⟩ := hcut
  go_upto_region 4 with fail
  go_cut [10] from 13 (fun s wx => s = .bool (nodeNo o.n) ∧ w1 = wx)
  case first =>
    as_aux_lemma =>
      have HE : Hid ((nodeNo o.n) = (((((o.n.group.toList.isEmpty && ((n_cpu == 0) && (n_mem == 0))) && (wrap64 ((o.n.L.la : Int) + (o.n.T.la : Int)) == 0)) && (o.n.since == 0)) && (!o.n.closed)))) := by
        show _ = _
        rw [← q_n_cpu, ← q_n_mem]
        rfl
      clear q_w_cpu q_w_mem q_p_cpu q_p_mem q_n_cpu q_n_mem q_g_cpu q_g_mem
      clear kk c0_0 c0_1 c0_2 c0_3 c0_4 c0_5 c0_6 c1_0 c1_1 c1_2 c1_3 c1_4 c1_5 c1_6 c1_7 c1_8 c1_9 c3_0 c3_1 c3_2 c3_3 c3_4 c3_5 c3_6 c3_7 c4_0 c4_1 c4_2 c4_3 c4_4 c4_5 c4_6 c4_7 c4_8 c4_9 c4_10 c4_11
      refine wp_region_lit ?_
      refine wpList_cutHid 4 (fun a' w' => w1 = w' ∧ ∃ c, Hid (c = o.n.group.toList.isEmpty) ∧ ∃ cf0_94 cf0_95 cf0_96 : Value, a' = ⟨#[v0, .pointer (some ⟨w.heap.size, 0, none⟩), .bool false, .pointer (some ⟨B 0, 0, none⟩), .pointer (some ⟨B 1, 0, none⟩), .pointer (some ⟨B 2, 0, none⟩), .pointer (some ⟨B 3, 0, none⟩), .pointer (some ⟨B 4, 0, none⟩), .bool (wlNo o.w), .bool (podNo o.p), undef, undef, undef, u13, u14, u15, u16, u17, u18, u19, u20, u21, u22, u23, u24, u25, u26, u27, u28, u29, u30, u31, u32, u33, u34, u35, u36, u37, u38, u39, u40, u41, u42, u43, u44, u45, u46, u47, u48, u49, u50, u51, u52, u53, u54, u55, u56, u57, u58, u59, u60, u61, u62, u63, u64, u65, u66, u67, u68, u69, u70, u71, u72, u73, u74, u75, u76, u77, u78, u79, u80, u81, u82, u83, u84, u85, u86, u87, u88, u89, u90, u91, u92, u93, cf0_94, cf0_95, cf0_96, .bool c, u98, u99, u100, u101, u102, u103, u104, u105, u106, u107, u108, u109, u110, u111, u112, u113, u114, u115, u116, u117, u118, u119, u120, u121, u122, u123, u124, u125, u126, u127, u128, u129, u130, u131, u132, u133, u134, u135, u136, u137, u138, u139, u140, u141, u142, u143, u144, u145, u146, u147, u148, u149, u150, u151, u152, u153, u154, u155, u156, u157, u158, u159, u160, u161, u162, u163, u164, u165, u166, u167, u168, u169, u170, u171, u172, u173, u174, u175, u176, u177, u178, u179, u180, u181, u182, u183, u184, u185, u186, u187, u188, u189, u190, u191, u192, u193, u194, u195, u196, u197, u198, u199, u200, u201, u202, u203, u204, u205, u206, u207, u208, u209, u210, u211, u212, u213, u214, u215, u216, u217, u218, u219, u220, u221, u222, u223, u224, u225, u226, u227, u228, u229, u230, u231, u232, u233, u234, u235, u236, u237, u238, u239, u240, u241, u242, u243, u244, u245, u246, u247, u248, u249, u250, u251, u252, u253, u254, u255, u256, u257, u258, u259, u260], []⟩) ?_ ?_
      · as_aux_lemma =>
          intro K hK
          simp only [List.take_succ_cons, List.take_zero]
          obtain ⟨t, ht⟩ : ∃ b, (o.n.group.toList.isEmpty) = b := ⟨_, rfl⟩
          go_wp2_with fail
          exact CutPost.normal (hK _ _ ⟨rfl, t, (tr_one ht), _, _, _, rfl⟩)
      · simp only [List.drop_succ_cons, List.drop_zero]
        rintro a' w' ⟨rfl, c0, CH0, cf0_94, cf0_95, cf0_96, rfl⟩
        refine wpList_cutHid 6 (fun a' w' => w1 = w' ∧ ∃ c, Hid (c = (c0 && ((n_cpu == 0) && (n_mem == 0)))) ∧ ∃ cf1_97 cf1_98 cf1_99 cf1_100 cf1_101 cf1_102 : Value, a' = ⟨#[v0, .pointer (some ⟨w.heap.size, 0, none⟩), .bool false, .pointer (some ⟨B 0, 0, none⟩), .pointer (some ⟨B 1, 0, none⟩), .pointer (some ⟨B 2, 0, none⟩), .pointer (some ⟨B 3, 0, none⟩), .pointer (some ⟨B 4, 0, none⟩), .bool (wlNo o.w), .bool (podNo o.p), undef, undef, undef, u13, u14, u15, u16, u17, u18, u19, u20, u21, u22, u23, u24, u25, u26, u27, u28, u29, u30, u31, u32, u33, u34, u35, u36, u37, u38, u39, u40, u41, u42, u43, u44, u45, u46, u47, u48, u49, u50, u51, u52, u53, u54, u55, u56, u57, u58, u59, u60, u61, u62, u63, u64, u65, u66, u67, u68, u69, u70, u71, u72, u73, u74, u75, u76, u77, u78, u79, u80, u81, u82, u83, u84, u85, u86, u87, u88, u89, u90, u91, u92, u93, cf0_94, cf0_95, cf0_96, cf1_97, cf1_98, cf1_99, cf1_100, cf1_101, cf1_102, .bool c, u104, u105, u106, u107, u108, u109, u110, u111, u112, u113, u114, u115, u116, u117, u118, u119, u120, u121, u122, u123, u124, u125, u126, u127, u128, u129, u130, u131, u132, u133, u134, u135, u136, u137, u138, u139, u140, u141, u142, u143, u144, u145, u146, u147, u148, u149, u150, u151, u152, u153, u154, u155, u156, u157, u158, u159, u160, u161, u162, u163, u164, u165, u166, u167, u168, u169, u170, u171, u172, u173, u174, u175, u176, u177, u178, u179, u180, u181, u182, u183, u184, u185, u186, u187, u188, u189, u190, u191, u192, u193, u194, u195, u196, u197, u198, u199, u200, u201, u202, u203, u204, u205, u206, u207, u208, u209, u210, u211, u212, u213, u214, u215, u216, u217, u218, u219, u220, u221, u222, u223, u224, u225, u226, u227, u228, u229, u230, u231, u232, u233, u234, u235, u236, u237, u238, u239, u240, u241, u242, u243, u244, u245, u246, u247, u248, u249, u250, u251, u252, u253, u254, u255, u256, u257, u258, u259, u260], []⟩) ?_ ?_
        · as_aux_lemma =>
            intro K hK
            simp only [List.take_succ_cons, List.take_zero]
            rcases c0 with _ | _
            · go_wp2_with fail
              exact CutPost.normal (hK _ _ ⟨rfl, false, fl_and, _, _, _, _, _, _, rfl⟩)
            · rcases Decidable.em (n_cpu = 0) with hc | hc
              rotate_left
              · have e : (n_cpu == 0) = false := beq_eq_false_iff_ne.2 hc
                go_wp2_with fail
                exact CutPost.normal (hK _ _ ⟨rfl, false, no_left e, _, _, _, _, _, _, rfl⟩)
              · subst hc
                rcases Decidable.em (n_mem = 0) with hc | hc
                rotate_left
                · have e : (n_mem == 0) = false := beq_eq_false_iff_ne.2 hc
                  go_wp2_with fail
                  exact CutPost.normal (hK _ _ ⟨rfl, false, no_right e, _, _, _, _, _, _, rfl⟩)
                · subst hc
                  go_wp2_with fail
                  exact CutPost.normal (hK _ _ ⟨rfl, true, rfl, _, _, _, _, _, _, rfl⟩)
        · simp only [List.drop_succ_cons, List.drop_zero]
          rintro a' w' ⟨rfl, c1, CH1, cf1_97, cf1_98, cf1_99, cf1_100, cf1_101, cf1_102, rfl⟩
          refine wpList_cutHid 10 (fun a' w' => w1 = w' ∧ ∃ c, Hid (c = (c1 && (wrap64 ((o.n.L.la : Int) + (o.n.T.la : Int)) == 0))) ∧ ∃ cf2_103 cf2_104 cf2_105 cf2_106 cf2_107 cf2_108 cf2_109 cf2_110 cf2_111 cf2_112 : Value, a' = ⟨#[v0, .pointer (some ⟨w.heap.size, 0, none⟩), .bool false, .pointer (some ⟨B 0, 0, none⟩), .pointer (some ⟨B 1, 0, none⟩), .pointer (some ⟨B 2, 0, none⟩), .pointer (some ⟨B 3, 0, none⟩), .pointer (some ⟨B 4, 0, none⟩), .bool (wlNo o.w), .bool (podNo o.p), undef, undef, undef, u13, u14, u15, u16, u17, u18, u19, u20, u21, u22, u23, u24, u25, u26, u27, u28, u29, u30, u31, u32, u33, u34, u35, u36, u37, u38, u39, u40, u41, u42, u43, u44, u45, u46, u47, u48, u49, u50, u51, u52, u53, u54, u55, u56, u57, u58, u59, u60, u61, u62, u63, u64, u65, u66, u67, u68, u69, u70, u71, u72, u73, u74, u75, u76, u77, u78, u79, u80, u81, u82, u83, u84, u85, u86, u87, u88, u89, u90, u91, u92, u93, cf0_94, cf0_95, cf0_96, cf1_97, cf1_98, cf1_99, cf1_100, cf1_101, cf1_102, cf2_103, cf2_104, cf2_105, cf2_106, cf2_107, cf2_108, cf2_109, cf2_110, cf2_111, cf2_112, .bool c, u114, u115, u116, u117, u118, u119, u120, u121, u122, u123, u124, u125, u126, u127, u128, u129, u130, u131, u132, u133, u134, u135, u136, u137, u138, u139, u140, u141, u142, u143, u144, u145, u146, u147, u148, u149, u150, u151, u152, u153, u154, u155, u156, u157, u158, u159, u160, u161, u162, u163, u164, u165, u166, u167, u168, u169, u170, u171, u172, u173, u174, u175, u176, u177, u178, u179, u180, u181, u182, u183, u184, u185, u186, u187, u188, u189, u190, u191, u192, u193, u194, u195, u196, u197, u198, u199, u200, u201, u202, u203, u204, u205, u206, u207, u208, u209, u210, u211, u212, u213, u214, u215, u216, u217, u218, u219, u220, u221, u222, u223, u224, u225, u226, u227, u228, u229, u230, u231, u232, u233, u234, u235, u236, u237, u238, u239, u240, u241, u242, u243, u244, u245, u246, u247, u248, u249, u250, u251, u252, u253, u254, u255, u256, u257, u258, u259, u260], []⟩) ?_ ?_
          · as_aux_lemma =>
              intro K hK
              simp only [List.take_succ_cons, List.take_zero]
              rcases c1 with _ | _
              · go_wp2_with fail
                exact CutPost.normal (hK _ _ ⟨rfl, false, fl_and, _, _, _, _, _, _, _, _, _, _, rfl⟩)
              · obtain ⟨t, ht⟩ : ∃ b, ((wrap64 ((o.n.L.la : Int) + (o.n.T.la : Int)) == 0)) = b := ⟨_, rfl⟩
                go_wp2_with fail
                exact CutPost.normal (hK _ _ ⟨rfl, t, (tr_and ht), _, _, _, _, _, _, _, _, _, _, rfl⟩)
          · simp only [List.drop_succ_cons, List.drop_zero]
            rintro a' w' ⟨rfl, c2, CH2, cf2_103, cf2_104, cf2_105, cf2_106, cf2_107, cf2_108, cf2_109, cf2_110, cf2_111, cf2_112, rfl⟩
            refine wpList_cutHid 5 (fun a' w' => w1 = w' ∧ ∃ c, Hid (c = (c2 && (o.n.since == 0))) ∧ ∃ cf3_113 cf3_114 cf3_115 cf3_116 cf3_117 : Value, a' = ⟨#[v0, .pointer (some ⟨w.heap.size, 0, none⟩), .bool false, .pointer (some ⟨B 0, 0, none⟩), .pointer (some ⟨B 1, 0, none⟩), .pointer (some ⟨B 2, 0, none⟩), .pointer (some ⟨B 3, 0, none⟩), .pointer (some ⟨B 4, 0, none⟩), .bool (wlNo o.w), .bool (podNo o.p), undef, undef, undef, u13, u14, u15, u16, u17, u18, u19, u20, u21, u22, u23, u24, u25, u26, u27, u28, u29, u30, u31, u32, u33, u34, u35, u36, u37, u38, u39, u40, u41, u42, u43, u44, u45, u46, u47, u48, u49, u50, u51, u52, u53, u54, u55, u56, u57, u58, u59, u60, u61, u62, u63, u64, u65, u66, u67, u68, u69, u70, u71, u72, u73, u74, u75, u76, u77, u78, u79, u80, u81, u82, u83, u84, u85, u86, u87, u88, u89, u90, u91, u92, u93, cf0_94, cf0_95, cf0_96, cf1_97, cf1_98, cf1_99, cf1_100, cf1_101, cf1_102, cf2_103, cf2_104, cf2_105, cf2_106, cf2_107, cf2_108, cf2_109, cf2_110, cf2_111, cf2_112, cf3_113, cf3_114, cf3_115, cf3_116, cf3_117, .bool c, u119, u120, u121, u122, u123, u124, u125, u126, u127, u128, u129, u130, u131, u132, u133, u134, u135, u136, u137, u138, u139, u140, u141, u142, u143, u144, u145, u146, u147, u148, u149, u150, u151, u152, u153, u154, u155, u156, u157, u158, u159, u160, u161, u162, u163, u164, u165, u166, u167, u168, u169, u170, u171, u172, u173, u174, u175, u176, u177, u178, u179, u180, u181, u182, u183, u184, u185, u186, u187, u188, u189, u190, u191, u192, u193, u194, u195, u196, u197, u198, u199, u200, u201, u202, u203, u204, u205, u206, u207, u208, u209, u210, u211, u212, u213, u214, u215, u216, u217, u218, u219, u220, u221, u222, u223, u224, u225, u226, u227, u228, u229, u230, u231, u232, u233, u234, u235, u236, u237, u238, u239, u240, u241, u242, u243, u244, u245, u246, u247, u248, u249, u250, u251, u252, u253, u254, u255, u256, u257, u258, u259, u260], []⟩) ?_ ?_
            · as_aux_lemma =>
                intro K hK
                simp only [List.take_succ_cons, List.take_zero]
                rcases c2 with _ | _
                · go_wp2_with fail
                  exact CutPost.normal (hK _ _ ⟨rfl, false, fl_and, _, _, _, _, _, rfl⟩)
                · obtain ⟨t, ht⟩ : ∃ b, ((o.n.since == 0)) = b := ⟨_, rfl⟩
                  go_wp2_with fail
                  exact CutPost.normal (hK _ _ ⟨rfl, t, (tr_and ht), _, _, _, _, _, rfl⟩)
            · simp only [List.drop_succ_cons, List.drop_zero]
              rintro a' w' ⟨rfl, c3, CH3, cf3_113, cf3_114, cf3_115, cf3_116, cf3_117, rfl⟩
              rcases c3 with _ | _
              · go_wp2_with fail
                go_meet
                case rel => exact ⟨congrArg Value.bool (HE.out.trans (by rw [← CH0.out, ← CH1.out, ← CH2.out, ← CH3.out, Bool.false_and])).symm, rfl⟩
              · obtain ⟨t, ht⟩ : ∃ b, ((!o.n.closed)) = b := ⟨_, rfl⟩
                go_wp2_with fail
                go_meet
                case rel => exact ⟨congrArg Value.bool (HE.out.trans (by rw [← CH0.out, ← CH1.out, ← CH2.out, ← CH3.out, Bool.true_and]; exact ht)).symm, rfl⟩
  case rest =>
  obtain ⟨rfl, rfl⟩ := hcut
  go_upto_region 5 with fail
  go_cut [11] from 13 (fun s wx => s = .bool (groupNo o.g) ∧ w1 = wx)
  case first =>
    as_aux_lemma =>
      have HE : Hid ((groupNo o.g) = (((((((o.g.min == 0) && (o.g.max == 0)) && (o.g.target == 0)) && ((g_cpu == 0) && (g_mem == 0))) && (wrap64 ((o.g.L.la : Int) + (o.g.T.la : Int)) == 0)) && (o.g.prio == 0)))) := by
        show _ = _
        rw [← q_g_cpu, ← q_g_mem]
        rfl
      clear q_w_cpu q_w_mem q_p_cpu q_p_mem q_n_cpu q_n_mem q_g_cpu q_g_mem
      clear kk c0_0 c0_1 c0_2 c0_3 c0_4 c0_5 c0_6 c1_0 c1_1 c1_2 c1_3 c1_4 c1_5 c1_6 c1_7 c1_8 c1_9 c2_0 c2_1 c2_2 c2_3 c2_4 c2_5 c2_6 c4_0 c4_1 c4_2 c4_3 c4_4 c4_5 c4_6 c4_7 c4_8 c4_9 c4_10 c4_11
      refine wp_region_lit ?_
      refine wpList_cutHid 4 (fun a' w' => w1 = w' ∧ ∃ c, Hid (c = (o.g.min == 0)) ∧ ∃ cf0_123 cf0_124 cf0_125 : Value, a' = ⟨#[v0, .pointer (some ⟨w.heap.size, 0, none⟩), .bool false, .pointer (some ⟨B 0, 0, none⟩), .pointer (some ⟨B 1, 0, none⟩), .pointer (some ⟨B 2, 0, none⟩), .pointer (some ⟨B 3, 0, none⟩), .pointer (some ⟨B 4, 0, none⟩), .bool (wlNo o.w), .bool (podNo o.p), .bool (nodeNo o.n), undef, undef, u13, u14, u15, u16, u17, u18, u19, u20, u21, u22, u23, u24, u25, u26, u27, u28, u29, u30, u31, u32, u33, u34, u35, u36, u37, u38, u39, u40, u41, u42, u43, u44, u45, u46, u47, u48, u49, u50, u51, u52, u53, u54, u55, u56, u57, u58, u59, u60, u61, u62, u63, u64, u65, u66, u67, u68, u69, u70, u71, u72, u73, u74, u75, u76, u77, u78, u79, u80, u81, u82, u83, u84, u85, u86, u87, u88, u89, u90, u91, u92, u93, u94, u95, u96, u97, u98, u99, u100, u101, u102, u103, u104, u105, u106, u107, u108, u109, u110, u111, u112, u113, u114, u115, u116, u117, u118, u119, u120, u121, u122, cf0_123, cf0_124, cf0_125, .bool c, u127, u128, u129, u130, u131, u132, u133, u134, u135, u136, u137, u138, u139, u140, u141, u142, u143, u144, u145, u146, u147, u148, u149, u150, u151, u152, u153, u154, u155, u156, u157, u158, u159, u160, u161, u162, u163, u164, u165, u166, u167, u168, u169, u170, u171, u172, u173, u174, u175, u176, u177, u178, u179, u180, u181, u182, u183, u184, u185, u186, u187, u188, u189, u190, u191, u192, u193, u194, u195, u196, u197, u198, u199, u200, u201, u202, u203, u204, u205, u206, u207, u208, u209, u210, u211, u212, u213, u214, u215, u216, u217, u218, u219, u220, u221, u222, u223, u224, u225, u226, u227, u228, u229, u230, u231, u232, u233, u234, u235, u236, u237, u238, u239, u240, u241, u242, u243, u244, u245, u246, u247, u248, u249, u250, u251, u252, u253, u254, u255, u256, u257, u258, u259, u260], []⟩) ?_ ?_
      · as_aux_lemma =>
          intro K hK
          simp only [List.take_succ_cons, List.take_zero]
          obtain ⟨t, ht⟩ : ∃ b, ((o.g.min == 0)) = b := ⟨_, rfl⟩
          go_wp2_with fail
          exact CutPost.normal (hK _ _ ⟨rfl, t, (tr_one ht), _, _, _, rfl⟩)
      · simp only [List.drop_succ_cons, List.drop_zero]
        rintro a' w' ⟨rfl, c0, CH0, cf0_123, cf0_124, cf0_125, rfl⟩
        refine wpList_cutHid 5 (fun a' w' => w1 = w' ∧ ∃ c, Hid (c = (c0 && (o.g.max == 0))) ∧ ∃ cf1_126 cf1_127 cf1_128 cf1_129 cf1_130 : Value, a' = ⟨#[v0, .pointer (some ⟨w.heap.size, 0, none⟩), .bool false, .pointer (some ⟨B 0, 0, none⟩), .pointer (some ⟨B 1, 0, none⟩), .pointer (some ⟨B 2, 0, none⟩), .pointer (some ⟨B 3, 0, none⟩), .pointer (some ⟨B 4, 0, none⟩), .bool (wlNo o.w), .bool (podNo o.p), .bool (nodeNo o.n), undef, undef, u13, u14, u15, u16, u17, u18, u19, u20, u21, u22, u23, u24, u25, u26, u27, u28, u29, u30, u31, u32, u33, u34, u35, u36, u37, u38, u39, u40, u41, u42, u43, u44, u45, u46, u47, u48, u49, u50, u51, u52, u53, u54, u55, u56, u57, u58, u59, u60, u61, u62, u63, u64, u65, u66, u67, u68, u69, u70, u71, u72, u73, u74, u75, u76, u77, u78, u79, u80, u81, u82, u83, u84, u85, u86, u87, u88, u89, u90, u91, u92, u93, u94, u95, u96, u97, u98, u99, u100, u101, u102, u103, u104, u105, u106, u107, u108, u109, u110, u111, u112, u113, u114, u115, u116, u117, u118, u119, u120, u121, u122, cf0_123, cf0_124, cf0_125, cf1_126, cf1_127, cf1_128, cf1_129, cf1_130, .bool c, u132, u133, u134, u135, u136, u137, u138, u139, u140, u141, u142, u143, u144, u145, u146, u147, u148, u149, u150, u151, u152, u153, u154, u155, u156, u157, u158, u159, u160, u161, u162, u163, u164, u165, u166, u167, u168, u169, u170, u171, u172, u173, u174, u175, u176, u177, u178, u179, u180, u181, u182, u183, u184, u185, u186, u187, u188, u189, u190, u191, u192, u193, u194, u195, u196, u197, u198, u199, u200, u201, u202, u203, u204, u205, u206, u207, u208, u209, u210, u211, u212, u213, u214, u215, u216, u217, u218, u219, u220, u221, u222, u223, u224, u225, u226, u227, u228, u229, u230, u231, u232, u233, u234, u235, u236, u237, u238, u239, u240, u241, u242, u243, u244, u245, u246, u247, u248, u249, u250, u251, u252, u253, u254, u255, u256, u257, u258, u259, u260], []⟩) ?_ ?_
        · as_aux_lemma =>
            intro K hK
            simp only [List.take_succ_cons, List.take_zero]
            rcases c0 with _ | _
            · go_wp2_with fail
              exact CutPost.normal (hK _ _ ⟨rfl, false, fl_and, _, _, _, _, _, rfl⟩)
            · obtain ⟨t, ht⟩ : ∃ b, ((o.g.max == 0)) = b := ⟨_, rfl⟩
              go_wp2_with fail
              exact CutPost.normal (hK _ _ ⟨rfl, t, (tr_and ht), _, _, _, _, _, rfl⟩)
        · simp only [List.drop_succ_cons, List.drop_zero]
          rintro a' w' ⟨rfl, c1, CH1, cf1_126, cf1_127, cf1_128, cf1_129, cf1_130, rfl⟩
          refine wpList_cutHid 5 (fun a' w' => w1 = w' ∧ ∃ c, Hid (c = (c1 && (o.g.target == 0))) ∧ ∃ cf2_131 cf2_132 cf2_133 cf2_134 cf2_135 : Value, a' = ⟨#[v0, .pointer (some ⟨w.heap.size, 0, none⟩), .bool false, .pointer (some ⟨B 0, 0, none⟩), .pointer (some ⟨B 1, 0, none⟩), .pointer (some ⟨B 2, 0, none⟩), .pointer (some ⟨B 3, 0, none⟩), .pointer (some ⟨B 4, 0, none⟩), .bool (wlNo o.w), .bool (podNo o.p), .bool (nodeNo o.n), undef, undef, u13, u14, u15, u16, u17, u18, u19, u20, u21, u22, u23, u24, u25, u26, u27, u28, u29, u30, u31, u32, u33, u34, u35, u36, u37, u38, u39, u40, u41, u42, u43, u44, u45, u46, u47, u48, u49, u50, u51, u52, u53, u54, u55, u56, u57, u58, u59, u60, u61, u62, u63, u64, u65, u66, u67, u68, u69, u70, u71, u72, u73, u74, u75, u76, u77, u78, u79, u80, u81, u82, u83, u84, u85, u86, u87, u88, u89, u90, u91, u92, u93, u94, u95, u96, u97, u98, u99, u100, u101, u102, u103, u104, u105, u106, u107, u108, u109, u110, u111, u112, u113, u114, u115, u116, u117, u118, u119, u120, u121, u122, cf0_123, cf0_124, cf0_125, cf1_126, cf1_127, cf1_128, cf1_129, cf1_130, cf2_131, cf2_132, cf2_133, cf2_134, cf2_135, .bool c, u137, u138, u139, u140, u141, u142, u143, u144, u145, u146, u147, u148, u149, u150, u151, u152, u153, u154, u155, u156, u157, u158, u159, u160, u161, u162, u163, u164, u165, u166, u167, u168, u169, u170, u171, u172, u173, u174, u175, u176, u177, u178, u179, u180, u181, u182, u183, u184, u185, u186, u187, u188, u189, u190, u191, u192, u193, u194, u195, u196, u197, u198, u199, u200, u201, u202, u203, u204, u205, u206, u207, u208, u209, u210, u211, u212, u213, u214, u215, u216, u217, u218, u219, u220, u221, u222, u223, u224, u225, u226, u227, u228, u229, u230, u231, u232, u233, u234, u235, u236, u237, u238, u239, u240, u241, u242, u243, u244, u245, u246, u247, u248, u249, u250, u251, u252, u253, u254, u255, u256, u257, u258, u259, u260], []⟩) ?_ ?_
          · as_aux_lemma =>
              intro K hK
              simp only [List.take_succ_cons, List.take_zero]
              rcases c1 with _ | _
              · go_wp2_with fail
                exact CutPost.normal (hK _ _ ⟨rfl, false, fl_and, _, _, _, _, _, rfl⟩)
              · obtain ⟨t, ht⟩ : ∃ b, ((o.g.target == 0)) = b := ⟨_, rfl⟩
                go_wp2_with fail
                exact CutPost.normal (hK _ _ ⟨rfl, t, (tr_and ht), _, _, _, _, _, rfl⟩)
          · simp only [List.drop_succ_cons, List.drop_zero]
            rintro a' w' ⟨rfl, c2, CH2, cf2_131, cf2_132, cf2_133, cf2_134, cf2_135, rfl⟩
            refine wpList_cutHid 6 (fun a' w' => w1 = w' ∧ ∃ c, Hid (c = (c2 && ((g_cpu == 0) && (g_mem == 0)))) ∧ ∃ cf3_136 cf3_137 cf3_138 cf3_139 cf3_140 cf3_141 : Value, a' = ⟨#[v0, .pointer (some ⟨w.heap.size, 0, none⟩), .bool false, .pointer (some ⟨B 0, 0, none⟩), .pointer (some ⟨B 1, 0, none⟩), .pointer (some ⟨B 2, 0, none⟩), .pointer (some ⟨B 3, 0, none⟩), .pointer (some ⟨B 4, 0, none⟩), .bool (wlNo o.w), .bool (podNo o.p), .bool (nodeNo o.n), undef, undef, u13, u14, u15, u16, u17, u18, u19, u20, u21, u22, u23, u24, u25, u26, u27, u28, u29, u30, u31, u32, u33, u34, u35, u36, u37, u38, u39, u40, u41, u42, u43, u44, u45, u46, u47, u48, u49, u50, u51, u52, u53, u54, u55, u56, u57, u58, u59, u60, u61, u62, u63, u64, u65, u66, u67, u68, u69, u70, u71, u72, u73, u74, u75, u76, u77, u78, u79, u80, u81, u82, u83, u84, u85, u86, u87, u88, u89, u90, u91, u92, u93, u94, u95, u96, u97, u98, u99, u100, u101, u102, u103, u104, u105, u106, u107, u108, u109, u110, u111, u112, u113, u114, u115, u116, u117, u118, u119, u120, u121, u122, cf0_123, cf0_124, cf0_125, cf1_126, cf1_127, cf1_128, cf1_129, cf1_130, cf2_131, cf2_132, cf2_133, cf2_134, cf2_135, cf3_136, cf3_137, cf3_138, cf3_139, cf3_140, cf3_141, .bool c, u143, u144, u145, u146, u147, u148, u149, u150, u151, u152, u153, u154, u155, u156, u157, u158, u159, u160, u161, u162, u163, u164, u165, u166, u167, u168, u169, u170, u171, u172, u173, u174, u175, u176, u177, u178, u179, u180, u181, u182, u183, u184, u185, u186, u187, u188, u189, u190, u191, u192, u193, u194, u195, u196, u197, u198, u199, u200, u201, u202, u203, u204, u205, u206, u207, u208, u209, u210, u211, u212, u213, u214, u215, u216, u217, u218, u219, u220, u221, u222, u223, u224, u225, u226, u227, u228, u229, u230, u231, u232, u233, u234, u235, u236, u237, u238, u239, u240, u241, u242, u243, u244, u245, u246, u247, u248, u249, u250, u251, u252, u253, u254, u255, u256, u257, u258, u259, u260], []⟩) ?_ ?_
            · as_aux_lemma =>
                intro K hK
                simp only [List.take_succ_cons, List.take_zero]
                rcases c2 with _ | _
                · go_wp2_with fail
                  exact CutPost.normal (hK _ _ ⟨rfl, false, fl_and, _, _, _, _, _, _, rfl⟩)
                · rcases Decidable.em (g_cpu = 0) with hc | hc
                  rotate_left
                  · have e : (g_cpu == 0) = false := beq_eq_false_iff_ne.2 hc
                    go_wp2_with fail
                    exact CutPost.normal (hK _ _ ⟨rfl, false, no_left e, _, _, _, _, _, _, rfl⟩)
                  · subst hc
                    rcases Decidable.em (g_mem = 0) with hc | hc
                    rotate_left
                    · have e : (g_mem == 0) = false := beq_eq_false_iff_ne.2 hc
                      go_wp2_with fail
                      exact CutPost.normal (hK _ _ ⟨rfl, false, no_right e, _, _, _, _, _, _, rfl⟩)
                    · subst hc
                      go_wp2_with fail
                      exact CutPost.normal (hK _ _ ⟨rfl, true, rfl, _, _, _, _, _, _, rfl⟩)
            · simp only [List.drop_succ_cons, List.drop_zero]
              rintro a' w' ⟨rfl, c3, CH3, cf3_136, cf3_137, cf3_138, cf3_139, cf3_140, cf3_141, rfl⟩
              refine wpList_cutHid 10 (fun a' w' => w1 = w' ∧ ∃ c, Hid (c = (c3 && (wrap64 ((o.g.L.la : Int) + (o.g.T.la : Int)) == 0))) ∧ ∃ cf4_142 cf4_143 cf4_144 cf4_145 cf4_146 cf4_147 cf4_148 cf4_149 cf4_150 cf4_151 : Value, a' = ⟨#[v0, .pointer (some ⟨w.heap.size, 0, none⟩), .bool false, .pointer (some ⟨B 0, 0, none⟩), .pointer (some ⟨B 1, 0, none⟩), .pointer (some ⟨B 2, 0, none⟩), .pointer (some ⟨B 3, 0, none⟩), .pointer (some ⟨B 4, 0, none⟩), .bool (wlNo o.w), .bool (podNo o.p), .bool (nodeNo o.n), undef, undef, u13, u14, u15, u16, u17, u18, u19, u20, u21, u22, u23, u24, u25, u26, u27, u28, u29, u30, u31, u32, u33, u34, u35, u36, u37, u38, u39, u40, u41, u42, u43, u44, u45, u46, u47, u48, u49, u50, u51, u52, u53, u54, u55, u56, u57, u58, u59, u60, u61, u62, u63, u64, u65, u66, u67, u68, u69, u70, u71, u72, u73, u74, u75, u76, u77, u78, u79, u80, u81, u82, u83, u84, u85, u86, u87, u88, u89, u90, u91, u92, u93, u94, u95, u96, u97, u98, u99, u100, u101, u102, u103, u104, u105, u106, u107, u108, u109, u110, u111, u112, u113, u114, u115, u116, u117, u118, u119, u120, u121, u122, cf0_123, cf0_124, cf0_125, cf1_126, cf1_127, cf1_128, cf1_129, cf1_130, cf2_131, cf2_132, cf2_133, cf2_134, cf2_135, cf3_136, cf3_137, cf3_138, cf3_139, cf3_140, cf3_141, cf4_142, cf4_143, cf4_144, cf4_145, cf4_146, cf4_147, cf4_148, cf4_149, cf4_150, cf4_151, .bool c, u153, u154, u155, u156, u157, u158, u159, u160, u161, u162, u163, u164, u165, u166, u167, u168, u169, u170, u171, u172, u173, u174, u175, u176, u177, u178, u179, u180, u181, u182, u183, u184, u185, u186, u187, u188, u189, u190, u191, u192, u193, u194, u195, u196, u197, u198, u199, u200, u201, u202, u203, u204, u205, u206, u207, u208, u209, u210, u211, u212, u213, u214, u215, u216, u217, u218, u219, u220, u221, u222, u223, u224, u225, u226, u227, u228, u229, u230, u231, u232, u233, u234, u235, u236, u237, u238, u239, u240, u241, u242, u243, u244, u245, u246, u247, u248, u249, u250, u251, u252, u253, u254, u255, u256, u257, u258, u259, u260], []⟩) ?_ ?_
              · as_aux_lemma =>
                  intro K hK
                  simp only [List.take_succ_cons, List.take_zero]
                  rcases c3 with _ | _
                  · go_wp2_with fail
                    exact CutPost.normal (hK _ _ ⟨rfl, false, fl_and, _, _, _, _, _, _, _, _, _, _, rfl⟩)
                  · obtain ⟨t, ht⟩ : ∃ b, ((wrap64 ((o.g.L.la : Int) + (o.g.T.la : Int)) == 0)) = b := ⟨_, rfl⟩
                    go_wp2_with fail
                    exact CutPost.normal (hK _ _ ⟨rfl, t, (tr_and ht), _, _, _, _, _, _, _, _, _, _, rfl⟩)
              · simp only [List.drop_succ_cons, List.drop_zero]
                rintro a' w' ⟨rfl, c4, CH4, cf4_142, cf4_143, cf4_144, cf4_145, cf4_146, cf4_147, cf4_148, cf4_149, cf4_150, cf4_151, rfl⟩
                rcases c4 with _ | _
                · go_wp2_with fail
                  go_meet
                  case rel => exact ⟨congrArg Value.bool (HE.out.trans (by rw [← CH0.out, ← CH1.out, ← CH2.out, ← CH3.out, ← CH4.out, Bool.false_and])).symm, rfl⟩
                · obtain ⟨t, ht⟩ : ∃ b, ((o.g.prio == 0)) = b := ⟨_, rfl⟩
                  go_wp2_with fail
                  go_meet
                  case rel => exact ⟨congrArg Value.bool (HE.out.trans (by rw [← CH0.out, ← CH1.out, ← CH2.out, ← CH3.out, ← CH4.out, Bool.true_and]; exact ht)).symm, rfl⟩
  case rest =>
  obtain ⟨rfl, rfl⟩ := hcut
  go_upto_region 6 with fail
  go_cut [12] from 13 (fun s wx => s = .bool (hpaNo o.h) ∧ w1 = wx)
  case first =>
    as_aux_lemma =>
      have HE : Hid ((hpaNo o.h) = (((((((((((o.h.target.toList.isEmpty && (o.h.min == 0)) && (o.h.max == 0)) && (wrap64 ((o.h.M.la : Int) + (o.h.past.la : Int)) == 0)) && (o.h.tol == 0)) && (o.h.up.win == 0)) && (o.h.up.pick == 0)) && ((o.h.up.P.la : Int) == 0)) && (o.h.down.win == 0)) && (o.h.down.pick == 0)) && ((o.h.down.P.la : Int) == 0)))) := rfl
      clear q_w_cpu q_w_mem q_p_cpu q_p_mem q_n_cpu q_n_mem q_g_cpu q_g_mem
      clear kk c0_0 c0_1 c0_2 c0_3 c0_4 c0_5 c0_6 c1_0 c1_1 c1_2 c1_3 c1_4 c1_5 c1_6 c1_7 c1_8 c1_9 c2_0 c2_1 c2_2 c2_3 c2_4 c2_5 c2_6 c3_0 c3_1 c3_2 c3_3 c3_4 c3_5 c3_6 c3_7
      refine wp_region_lit ?_
      simp only [List.append_eq, List.cons_append, List.nil_append]
      refine wpList_cutHid 4 (fun a' w' => w1 = w' ∧ ∃ c, Hid (c = o.h.target.toList.isEmpty) ∧ ∃ cf0_157 cf0_158 cf0_159 : Value, a' = ⟨#[v0, .pointer (some ⟨w.heap.size, 0, none⟩), .bool false, .pointer (some ⟨B 0, 0, none⟩), .pointer (some ⟨B 1, 0, none⟩), .pointer (some ⟨B 2, 0, none⟩), .pointer (some ⟨B 3, 0, none⟩), .pointer (some ⟨B 4, 0, none⟩), .bool (wlNo o.w), .bool (podNo o.p), .bool (nodeNo o.n), .bool (groupNo o.g), undef, u13, u14, u15, u16, u17, u18, u19, u20, u21, u22, u23, u24, u25, u26, u27, u28, u29, u30, u31, u32, u33, u34, u35, u36, u37, u38, u39, u40, u41, u42, u43, u44, u45, u46, u47, u48, u49, u50, u51, u52, u53, u54, u55, u56, u57, u58, u59, u60, u61, u62, u63, u64, u65, u66, u67, u68, u69, u70, u71, u72, u73, u74, u75, u76, u77, u78, u79, u80, u81, u82, u83, u84, u85, u86, u87, u88, u89, u90, u91, u92, u93, u94, u95, u96, u97, u98, u99, u100, u101, u102, u103, u104, u105, u106, u107, u108, u109, u110, u111, u112, u113, u114, u115, u116, u117, u118, u119, u120, u121, u122, u123, u124, u125, u126, u127, u128, u129, u130, u131, u132, u133, u134, u135, u136, u137, u138, u139, u140, u141, u142, u143, u144, u145, u146, u147, u148, u149, u150, u151, u152, u153, u154, u155, u156, cf0_157, cf0_158, cf0_159, .bool c, u161, u162, u163, u164, u165, u166, u167, u168, u169, u170, u171, u172, u173, u174, u175, u176, u177, u178, u179, u180, u181, u182, u183, u184, u185, u186, u187, u188, u189, u190, u191, u192, u193, u194, u195, u196, u197, u198, u199, u200, u201, u202, u203, u204, u205, u206, u207, u208, u209, u210, u211, u212, u213, u214, u215, u216, u217, u218, u219, u220, u221, u222, u223, u224, u225, u226, u227, u228, u229, u230, u231, u232, u233, u234, u235, u236, u237, u238, u239, u240, u241, u242, u243, u244, u245, u246, u247, u248, u249, u250, u251, u252, u253, u254, u255, u256, u257, u258, u259, u260], []⟩) ?_ ?_
      · as_aux_lemma =>
          intro K hK
          simp only [List.take_succ_cons, List.take_zero]
          obtain ⟨t, ht⟩ : ∃ b, (o.h.target.toList.isEmpty) = b := ⟨_, rfl⟩
          go_wp2_with fail
          exact CutPost.normal (hK _ _ ⟨rfl, t, (tr_one ht), _, _, _, rfl⟩)
      · simp only [List.drop_succ_cons, List.drop_zero]
        rintro a' w' ⟨rfl, c0, CH0, cf0_157, cf0_158, cf0_159, rfl⟩
        refine wpList_cutHid 5 (fun a' w' => w1 = w' ∧ ∃ c, Hid (c = (c0 && (o.h.min == 0))) ∧ ∃ cf1_160 cf1_161 cf1_162 cf1_163 cf1_164 : Value, a' = ⟨#[v0, .pointer (some ⟨w.heap.size, 0, none⟩), .bool false, .pointer (some ⟨B 0, 0, none⟩), .pointer (some ⟨B 1, 0, none⟩), .pointer (some ⟨B 2, 0, none⟩), .pointer (some ⟨B 3, 0, none⟩), .pointer (some ⟨B 4, 0, none⟩), .bool (wlNo o.w), .bool (podNo o.p), .bool (nodeNo o.n), .bool (groupNo o.g), undef, u13, u14, u15, u16, u17, u18, u19, u20, u21, u22, u23, u24, u25, u26, u27, u28, u29, u30, u31, u32, u33, u34, u35, u36, u37, u38, u39, u40, u41, u42, u43, u44, u45, u46, u47, u48, u49, u50, u51, u52, u53, u54, u55, u56, u57, u58, u59, u60, u61, u62, u63, u64, u65, u66, u67, u68, u69, u70, u71, u72, u73, u74, u75, u76, u77, u78, u79, u80, u81, u82, u83, u84, u85, u86, u87, u88, u89, u90, u91, u92, u93, u94, u95, u96, u97, u98, u99, u100, u101, u102, u103, u104, u105, u106, u107, u108, u109, u110, u111, u112, u113, u114, u115, u116, u117, u118, u119, u120, u121, u122, u123, u124, u125, u126, u127, u128, u129, u130, u131, u132, u133, u134, u135, u136, u137, u138, u139, u140, u141, u142, u143, u144, u145, u146, u147, u148, u149, u150, u151, u152, u153, u154, u155, u156, cf0_157, cf0_158, cf0_159, cf1_160, cf1_161, cf1_162, cf1_163, cf1_164, .bool c, u166, u167, u168, u169, u170, u171, u172, u173, u174, u175, u176, u177, u178, u179, u180, u181, u182, u183, u184, u185, u186, u187, u188, u189, u190, u191, u192, u193, u194, u195, u196, u197, u198, u199, u200, u201, u202, u203, u204, u205, u206, u207, u208, u209, u210, u211, u212, u213, u214, u215, u216, u217, u218, u219, u220, u221, u222, u223, u224, u225, u226, u227, u228, u229, u230, u231, u232, u233, u234, u235, u236, u237, u238, u239, u240, u241, u242, u243, u244, u245, u246, u247, u248, u249, u250, u251, u252, u253, u254, u255, u256, u257, u258, u259, u260], []⟩) ?_ ?_
        · as_aux_lemma =>
            intro K hK
            simp only [List.take_succ_cons, List.take_zero]
            rcases c0 with _ | _
            · go_wp2_with fail
              exact CutPost.normal (hK _ _ ⟨rfl, false, fl_and, _, _, _, _, _, rfl⟩)
            · obtain ⟨t, ht⟩ : ∃ b, ((o.h.min == 0)) = b := ⟨_, rfl⟩
              go_wp2_with fail
              exact CutPost.normal (hK _ _ ⟨rfl, t, (tr_and ht), _, _, _, _, _, rfl⟩)
        · simp only [List.drop_succ_cons, List.drop_zero]
          rintro a' w' ⟨rfl, c1, CH1, cf1_160, cf1_161, cf1_162, cf1_163, cf1_164, rfl⟩
          refine wpList_cutHid 5 (fun a' w' => w1 = w' ∧ ∃ c, Hid (c = (c1 && (o.h.max == 0))) ∧ ∃ cf2_165 cf2_166 cf2_167 cf2_168 cf2_169 : Value, a' = ⟨#[v0, .pointer (some ⟨w.heap.size, 0, none⟩), .bool false, .pointer (some ⟨B 0, 0, none⟩), .pointer (some ⟨B 1, 0, none⟩), .pointer (some ⟨B 2, 0, none⟩), .pointer (some ⟨B 3, 0, none⟩), .pointer (some ⟨B 4, 0, none⟩), .bool (wlNo o.w), .bool (podNo o.p), .bool (nodeNo o.n), .bool (groupNo o.g), undef, u13, u14, u15, u16, u17, u18, u19, u20, u21, u22, u23, u24, u25, u26, u27, u28, u29, u30, u31, u32, u33, u34, u35, u36, u37, u38, u39, u40, u41, u42, u43, u44, u45, u46, u47, u48, u49, u50, u51, u52, u53, u54, u55, u56, u57, u58, u59, u60, u61, u62, u63, u64, u65, u66, u67, u68, u69, u70, u71, u72, u73, u74, u75, u76, u77, u78, u79, u80, u81, u82, u83, u84, u85, u86, u87, u88, u89, u90, u91, u92, u93, u94, u95, u96, u97, u98, u99, u100, u101, u102, u103, u104, u105, u106, u107, u108, u109, u110, u111, u112, u113, u114, u115, u116, u117, u118, u119, u120, u121, u122, u123, u124, u125, u126, u127, u128, u129, u130, u131, u132, u133, u134, u135, u136, u137, u138, u139, u140, u141, u142, u143, u144, u145, u146, u147, u148, u149, u150, u151, u152, u153, u154, u155, u156, cf0_157, cf0_158, cf0_159, cf1_160, cf1_161, cf1_162, cf1_163, cf1_164, cf2_165, cf2_166, cf2_167, cf2_168, cf2_169, .bool c, u171, u172, u173, u174, u175, u176, u177, u178, u179, u180, u181, u182, u183, u184, u185, u186, u187, u188, u189, u190, u191, u192, u193, u194, u195, u196, u197, u198, u199, u200, u201, u202, u203, u204, u205, u206, u207, u208, u209, u210, u211, u212, u213, u214, u215, u216, u217, u218, u219, u220, u221, u222, u223, u224, u225, u226, u227, u228, u229, u230, u231, u232, u233, u234, u235, u236, u237, u238, u239, u240, u241, u242, u243, u244, u245, u246, u247, u248, u249, u250, u251, u252, u253, u254, u255, u256, u257, u258, u259, u260], []⟩) ?_ ?_
          · as_aux_lemma =>
              intro K hK
              simp only [List.take_succ_cons, List.take_zero]
              rcases c1 with _ | _
              · go_wp2_with fail
                exact CutPost.normal (hK _ _ ⟨rfl, false, fl_and, _, _, _, _, _, rfl⟩)
              · obtain ⟨t, ht⟩ : ∃ b, ((o.h.max == 0)) = b := ⟨_, rfl⟩
                go_wp2_with fail
                exact CutPost.normal (hK _ _ ⟨rfl, t, (tr_and ht), _, _, _, _, _, rfl⟩)
          · simp only [List.drop_succ_cons, List.drop_zero]
            rintro a' w' ⟨rfl, c2, CH2, cf2_165, cf2_166, cf2_167, cf2_168, cf2_169, rfl⟩
            refine wpList_cutHid 10 (fun a' w' => w1 = w' ∧ ∃ c, Hid (c = (c2 && (wrap64 ((o.h.M.la : Int) + (o.h.past.la : Int)) == 0))) ∧ ∃ cf3_170 cf3_171 cf3_172 cf3_173 cf3_174 cf3_175 cf3_176 cf3_177 cf3_178 cf3_179 : Value, a' = ⟨#[v0, .pointer (some ⟨w.heap.size, 0, none⟩), .bool false, .pointer (some ⟨B 0, 0, none⟩), .pointer (some ⟨B 1, 0, none⟩), .pointer (some ⟨B 2, 0, none⟩), .pointer (some ⟨B 3, 0, none⟩), .pointer (some ⟨B 4, 0, none⟩), .bool (wlNo o.w), .bool (podNo o.p), .bool (nodeNo o.n), .bool (groupNo o.g), undef, u13, u14, u15, u16, u17, u18, u19, u20, u21, u22, u23, u24, u25, u26, u27, u28, u29, u30, u31, u32, u33, u34, u35, u36, u37, u38, u39, u40, u41, u42, u43, u44, u45, u46, u47, u48, u49, u50, u51, u52, u53, u54, u55, u56, u57, u58, u59, u60, u61, u62, u63, u64, u65, u66, u67, u68, u69, u70, u71, u72, u73, u74, u75, u76, u77, u78, u79, u80, u81, u82, u83, u84, u85, u86, u87, u88, u89, u90, u91, u92, u93, u94, u95, u96, u97, u98, u99, u100, u101, u102, u103, u104, u105, u106, u107, u108, u109, u110, u111, u112, u113, u114, u115, u116, u117, u118, u119, u120, u121, u122, u123, u124, u125, u126, u127, u128, u129, u130, u131, u132, u133, u134, u135, u136, u137, u138, u139, u140, u141, u142, u143, u144, u145, u146, u147, u148, u149, u150, u151, u152, u153, u154, u155, u156, cf0_157, cf0_158, cf0_159, cf1_160, cf1_161, cf1_162, cf1_163, cf1_164, cf2_165, cf2_166, cf2_167, cf2_168, cf2_169, cf3_170, cf3_171, cf3_172, cf3_173, cf3_174, cf3_175, cf3_176, cf3_177, cf3_178, cf3_179, .bool c, u181, u182, u183, u184, u185, u186, u187, u188, u189, u190, u191, u192, u193, u194, u195, u196, u197, u198, u199, u200, u201, u202, u203, u204, u205, u206, u207, u208, u209, u210, u211, u212, u213, u214, u215, u216, u217, u218, u219, u220, u221, u222, u223, u224, u225, u226, u227, u228, u229, u230, u231, u232, u233, u234, u235, u236, u237, u238, u239, u240, u241, u242, u243, u244, u245, u246, u247, u248, u249, u250, u251, u252, u253, u254, u255, u256, u257, u258, u259, u260], []⟩) ?_ ?_
            · as_aux_lemma =>
                intro K hK
                simp only [List.take_succ_cons, List.take_zero]
                rcases c2 with _ | _
                · go_wp2_with fail
                  exact CutPost.normal (hK _ _ ⟨rfl, false, fl_and, _, _, _, _, _, _, _, _, _, _, rfl⟩)
                · obtain ⟨t, ht⟩ : ∃ b, ((wrap64 ((o.h.M.la : Int) + (o.h.past.la : Int)) == 0)) = b := ⟨_, rfl⟩
                  go_wp2_with fail
                  exact CutPost.normal (hK _ _ ⟨rfl, t, (tr_and ht), _, _, _, _, _, _, _, _, _, _, rfl⟩)
            · simp only [List.drop_succ_cons, List.drop_zero]
              rintro a' w' ⟨rfl, c3, CH3, cf3_170, cf3_171, cf3_172, cf3_173, cf3_174, cf3_175, cf3_176, cf3_177, cf3_178, cf3_179, rfl⟩
              refine wpList_cutHid 5 (fun a' w' => w1 = w' ∧ ∃ c, Hid (c = (c3 && (o.h.tol == 0))) ∧ ∃ cf4_180 cf4_181 cf4_182 cf4_183 cf4_184 : Value, a' = ⟨#[v0, .pointer (some ⟨w.heap.size, 0, none⟩), .bool false, .pointer (some ⟨B 0, 0, none⟩), .pointer (some ⟨B 1, 0, none⟩), .pointer (some ⟨B 2, 0, none⟩), .pointer (some ⟨B 3, 0, none⟩), .pointer (some ⟨B 4, 0, none⟩), .bool (wlNo o.w), .bool (podNo o.p), .bool (nodeNo o.n), .bool (groupNo o.g), undef, u13, u14, u15, u16, u17, u18, u19, u20, u21, u22, u23, u24, u25, u26, u27, u28, u29, u30, u31, u32, u33, u34, u35, u36, u37, u38, u39, u40, u41, u42, u43, u44, u45, u46, u47, u48, u49, u50, u51, u52, u53, u54, u55, u56, u57, u58, u59, u60, u61, u62, u63, u64, u65, u66, u67, u68, u69, u70, u71, u72, u73, u74, u75, u76, u77, u78, u79, u80, u81, u82, u83, u84, u85, u86, u87, u88, u89, u90, u91, u92, u93, u94, u95, u96, u97, u98, u99, u100, u101, u102, u103, u104, u105, u106, u107, u108, u109, u110, u111, u112, u113, u114, u115, u116, u117, u118, u119, u120, u121, u122, u123, u124, u125, u126, u127, u128, u129, u130, u131, u132, u133, u134, u135, u136, u137, u138, u139, u140, u141, u142, u143, u144, u145, u146, u147, u148, u149, u150, u151, u152, u153, u154, u155, u156, cf0_157, cf0_158, cf0_159, cf1_160, cf1_161, cf1_162, cf1_163, cf1_164, cf2_165, cf2_166, cf2_167, cf2_168, cf2_169, cf3_170, cf3_171, cf3_172, cf3_173, cf3_174, cf3_175, cf3_176, cf3_177, cf3_178, cf3_179, cf4_180, cf4_181, cf4_182, cf4_183, cf4_184, .bool c, u186, u187, u188, u189, u190, u191, u192, u193, u194, u195, u196, u197, u198, u199, u200, u201, u202, u203, u204, u205, u206, u207, u208, u209, u210, u211, u212, u213, u214, u215, u216, u217, u218, u219, u220, u221, u222, u223, u224, u225, u226, u227, u228, u229, u230, u231, u232, u233, u234, u235, u236, u237, u238, u239, u240, u241, u242, u243, u244, u245, u246, u247, u248, u249, u250, u251, u252, u253, u254, u255, u256, u257, u258, u259, u260], []⟩) ?_ ?_
              · as_aux_lemma =>
                  intro K hK
                  simp only [List.take_succ_cons, List.take_zero]
                  rcases c3 with _ | _
                  · go_wp2_with fail
                    exact CutPost.normal (hK _ _ ⟨rfl, false, fl_and, _, _, _, _, _, rfl⟩)
                  · obtain ⟨t, ht⟩ : ∃ b, ((o.h.tol == 0)) = b := ⟨_, rfl⟩
                    go_wp2_with fail
                    exact CutPost.normal (hK _ _ ⟨rfl, t, (tr_and ht), _, _, _, _, _, rfl⟩)
              · simp only [List.drop_succ_cons, List.drop_zero]
                rintro a' w' ⟨rfl, c4, CH4, cf4_180, cf4_181, cf4_182, cf4_183, cf4_184, rfl⟩
                refine wpList_cutHid 6 (fun a' w' => w1 = w' ∧ ∃ c, Hid (c = (c4 && (o.h.up.win == 0))) ∧ ∃ cf5_185 cf5_186 cf5_187 cf5_188 cf5_189 cf5_190 : Value, a' = ⟨#[v0, .pointer (some ⟨w.heap.size, 0, none⟩), .bool false, .pointer (some ⟨B 0, 0, none⟩), .pointer (some ⟨B 1, 0, none⟩), .pointer (some ⟨B 2, 0, none⟩), .pointer (some ⟨B 3, 0, none⟩), .pointer (some ⟨B 4, 0, none⟩), .bool (wlNo o.w), .bool (podNo o.p), .bool (nodeNo o.n), .bool (groupNo o.g), undef, u13, u14, u15, u16, u17, u18, u19, u20, u21, u22, u23, u24, u25, u26, u27, u28, u29, u30, u31, u32, u33, u34, u35, u36, u37, u38, u39, u40, u41, u42, u43, u44, u45, u46, u47, u48, u49, u50, u51, u52, u53, u54, u55, u56, u57, u58, u59, u60, u61, u62, u63, u64, u65, u66, u67, u68, u69, u70, u71, u72, u73, u74, u75, u76, u77, u78, u79, u80, u81, u82, u83, u84, u85, u86, u87, u88, u89, u90, u91, u92, u93, u94, u95, u96, u97, u98, u99, u100, u101, u102, u103, u104, u105, u106, u107, u108, u109, u110, u111, u112, u113, u114, u115, u116, u117, u118, u119, u120, u121, u122, u123, u124, u125, u126, u127, u128, u129, u130, u131, u132, u133, u134, u135, u136, u137, u138, u139, u140, u141, u142, u143, u144, u145, u146, u147, u148, u149, u150, u151, u152, u153, u154, u155, u156, cf0_157, cf0_158, cf0_159, cf1_160, cf1_161, cf1_162, cf1_163, cf1_164, cf2_165, cf2_166, cf2_167, cf2_168, cf2_169, cf3_170, cf3_171, cf3_172, cf3_173, cf3_174, cf3_175, cf3_176, cf3_177, cf3_178, cf3_179, cf4_180, cf4_181, cf4_182, cf4_183, cf4_184, cf5_185, cf5_186, cf5_187, cf5_188, cf5_189, cf5_190, .bool c, u192, u193, u194, u195, u196, u197, u198, u199, u200, u201, u202, u203, u204, u205, u206, u207, u208, u209, u210, u211, u212, u213, u214, u215, u216, u217, u218, u219, u220, u221, u222, u223, u224, u225, u226, u227, u228, u229, u230, u231, u232, u233, u234, u235, u236, u237, u238, u239, u240, u241, u242, u243, u244, u245, u246, u247, u248, u249, u250, u251, u252, u253, u254, u255, u256, u257, u258, u259, u260], []⟩) ?_ ?_
                · as_aux_lemma =>
                    intro K hK
                    simp only [List.take_succ_cons, List.take_zero]
                    rcases c4 with _ | _
                    · go_wp2_with fail
                      exact CutPost.normal (hK _ _ ⟨rfl, false, fl_and, _, _, _, _, _, _, rfl⟩)
                    · obtain ⟨t, ht⟩ : ∃ b, ((o.h.up.win == 0)) = b := ⟨_, rfl⟩
                      go_wp2_with fail
                      exact CutPost.normal (hK _ _ ⟨rfl, t, (tr_and ht), _, _, _, _, _, _, rfl⟩)
                · simp only [List.drop_succ_cons, List.drop_zero]
                  rintro a' w' ⟨rfl, c5, CH5, cf5_185, cf5_186, cf5_187, cf5_188, cf5_189, cf5_190, rfl⟩
                  refine wpList_cutHid 6 (fun a' w' => w1 = w' ∧ ∃ c, Hid (c = (c5 && (o.h.up.pick == 0))) ∧ ∃ cf6_191 cf6_192 cf6_193 cf6_194 cf6_195 cf6_196 : Value, a' = ⟨#[v0, .pointer (some ⟨w.heap.size, 0, none⟩), .bool false, .pointer (some ⟨B 0, 0, none⟩), .pointer (some ⟨B 1, 0, none⟩), .pointer (some ⟨B 2, 0, none⟩), .pointer (some ⟨B 3, 0, none⟩), .pointer (some ⟨B 4, 0, none⟩), .bool (wlNo o.w), .bool (podNo o.p), .bool (nodeNo o.n), .bool (groupNo o.g), undef, u13, u14, u15, u16, u17, u18, u19, u20, u21, u22, u23, u24, u25, u26, u27, u28, u29, u30, u31, u32, u33, u34, u35, u36, u37, u38, u39, u40, u41, u42, u43, u44, u45, u46, u47, u48, u49, u50, u51, u52, u53, u54, u55, u56, u57, u58, u59, u60, u61, u62, u63, u64, u65, u66, u67, u68, u69, u70, u71, u72, u73, u74, u75, u76, u77, u78, u79, u80, u81, u82, u83, u84, u85, u86, u87, u88, u89, u90, u91, u92, u93, u94, u95, u96, u97, u98, u99, u100, u101, u102, u103, u104, u105, u106, u107, u108, u109, u110, u111, u112, u113, u114, u115, u116, u117, u118, u119, u120, u121, u122, u123, u124, u125, u126, u127, u128, u129, u130, u131, u132, u133, u134, u135, u136, u137, u138, u139, u140, u141, u142, u143, u144, u145, u146, u147, u148, u149, u150, u151, u152, u153, u154, u155, u156, cf0_157, cf0_158, cf0_159, cf1_160, cf1_161, cf1_162, cf1_163, cf1_164, cf2_165, cf2_166, cf2_167, cf2_168, cf2_169, cf3_170, cf3_171, cf3_172, cf3_173, cf3_174, cf3_175, cf3_176, cf3_177, cf3_178, cf3_179, cf4_180, cf4_181, cf4_182, cf4_183, cf4_184, cf5_185, cf5_186, cf5_187, cf5_188, cf5_189, cf5_190, cf6_191, cf6_192, cf6_193, cf6_194, cf6_195, cf6_196, .bool c, u198, u199, u200, u201, u202, u203, u204, u205, u206, u207, u208, u209, u210, u211, u212, u213, u214, u215, u216, u217, u218, u219, u220, u221, u222, u223, u224, u225, u226, u227, u228, u229, u230, u231, u232, u233, u234, u235, u236, u237, u238, u239, u240, u241, u242, u243, u244, u245, u246, u247, u248, u249, u250, u251, u252, u253, u254, u255, u256, u257, u258, u259, u260], []⟩) ?_ ?_
                  · as_aux_lemma =>
                      intro K hK
                      simp only [List.take_succ_cons, List.take_zero]
                      rcases c5 with _ | _
                      · go_wp2_with fail
                        exact CutPost.normal (hK _ _ ⟨rfl, false, fl_and, _, _, _, _, _, _, rfl⟩)
                      · obtain ⟨t, ht⟩ : ∃ b, ((o.h.up.pick == 0)) = b := ⟨_, rfl⟩
                        go_wp2_with fail
                        exact CutPost.normal (hK _ _ ⟨rfl, t, (tr_and ht), _, _, _, _, _, _, rfl⟩)
                  · simp only [List.drop_succ_cons, List.drop_zero]
                    rintro a' w' ⟨rfl, c6, CH6, cf6_191, cf6_192, cf6_193, cf6_194, cf6_195, cf6_196, rfl⟩
                    refine wpList_cutHid 7 (fun a' w' => w1 = w' ∧ ∃ c, Hid (c = (c6 && ((o.h.up.P.la : Int) == 0))) ∧ ∃ cf7_197 cf7_198 cf7_199 cf7_200 cf7_201 cf7_202 cf7_203 : Value, a' = ⟨#[v0, .pointer (some ⟨w.heap.size, 0, none⟩), .bool false, .pointer (some ⟨B 0, 0, none⟩), .pointer (some ⟨B 1, 0, none⟩), .pointer (some ⟨B 2, 0, none⟩), .pointer (some ⟨B 3, 0, none⟩), .pointer (some ⟨B 4, 0, none⟩), .bool (wlNo o.w), .bool (podNo o.p), .bool (nodeNo o.n), .bool (groupNo o.g), undef, u13, u14, u15, u16, u17, u18, u19, u20, u21, u22, u23, u24, u25, u26, u27, u28, u29, u30, u31, u32, u33, u34, u35, u36, u37, u38, u39, u40, u41, u42, u43, u44, u45, u46, u47, u48, u49, u50, u51, u52, u53, u54, u55, u56, u57, u58, u59, u60, u61, u62, u63, u64, u65, u66, u67, u68, u69, u70, u71, u72, u73, u74, u75, u76, u77, u78, u79, u80, u81, u82, u83, u84, u85, u86, u87, u88, u89, u90, u91, u92, u93, u94, u95, u96, u97, u98, u99, u100, u101, u102, u103, u104, u105, u106, u107, u108, u109, u110, u111, u112, u113, u114, u115, u116, u117, u118, u119, u120, u121, u122, u123, u124, u125, u126, u127, u128, u129, u130, u131, u132, u133, u134, u135, u136, u137, u138, u139, u140, u141, u142, u143, u144, u145, u146, u147, u148, u149, u150, u151, u152, u153, u154, u155, u156, cf0_157, cf0_158, cf0_159, cf1_160, cf1_161, cf1_162, cf1_163, cf1_164, cf2_165, cf2_166, cf2_167, cf2_168, cf2_169, cf3_170, cf3_171, cf3_172, cf3_173, cf3_174, cf3_175, cf3_176, cf3_177, cf3_178, cf3_179, cf4_180, cf4_181, cf4_182, cf4_183, cf4_184, cf5_185, cf5_186, cf5_187, cf5_188, cf5_189, cf5_190, cf6_191, cf6_192, cf6_193, cf6_194, cf6_195, cf6_196, cf7_197, cf7_198, cf7_199, cf7_200, cf7_201, cf7_202, cf7_203, .bool c, u205, u206, u207, u208, u209, u210, u211, u212, u213, u214, u215, u216, u217, u218, u219, u220, u221, u222, u223, u224, u225, u226, u227, u228, u229, u230, u231, u232, u233, u234, u235, u236, u237, u238, u239, u240, u241, u242, u243, u244, u245, u246, u247, u248, u249, u250, u251, u252, u253, u254, u255, u256, u257, u258, u259, u260], []⟩) ?_ ?_
                    · as_aux_lemma =>
                        intro K hK
                        simp only [List.take_succ_cons, List.take_zero]
                        rcases c6 with _ | _
                        · go_wp2_with fail
                          exact CutPost.normal (hK _ _ ⟨rfl, false, fl_and, _, _, _, _, _, _, _, rfl⟩)
                        · obtain ⟨t, ht⟩ : ∃ b, (((o.h.up.P.la : Int) == 0)) = b := ⟨_, rfl⟩
                          go_wp2_with fail
                          exact CutPost.normal (hK _ _ ⟨rfl, t, (tr_and ht), _, _, _, _, _, _, _, rfl⟩)
                    · simp only [List.drop_succ_cons, List.drop_zero]
                      rintro a' w' ⟨rfl, c7, CH7, cf7_197, cf7_198, cf7_199, cf7_200, cf7_201, cf7_202, cf7_203, rfl⟩
                      refine wpList_cutHid 6 (fun a' w' => w1 = w' ∧ ∃ c, Hid (c = (c7 && (o.h.down.win == 0))) ∧ ∃ cf8_204 cf8_205 cf8_206 cf8_207 cf8_208 cf8_209 : Value, a' = ⟨#[v0, .pointer (some ⟨w.heap.size, 0, none⟩), .bool false, .pointer (some ⟨B 0, 0, none⟩), .pointer (some ⟨B 1, 0, none⟩), .pointer (some ⟨B 2, 0, none⟩), .pointer (some ⟨B 3, 0, none⟩), .pointer (some ⟨B 4, 0, none⟩), .bool (wlNo o.w), .bool (podNo o.p), .bool (nodeNo o.n), .bool (groupNo o.g), undef, u13, u14, u15, u16, u17, u18, u19, u20, u21, u22, u23, u24, u25, u26, u27, u28, u29, u30, u31, u32, u33, u34, u35, u36, u37, u38, u39, u40, u41, u42, u43, u44, u45, u46, u47, u48, u49, u50, u51, u52, u53, u54, u55, u56, u57, u58, u59, u60, u61, u62, u63, u64, u65, u66, u67, u68, u69, u70, u71, u72, u73, u74, u75, u76, u77, u78, u79, u80, u81, u82, u83, u84, u85, u86, u87, u88, u89, u90, u91, u92, u93, u94, u95, u96, u97, u98, u99, u100, u101, u102, u103, u104, u105, u106, u107, u108, u109, u110, u111, u112, u113, u114, u115, u116, u117, u118, u119, u120, u121, u122, u123, u124, u125, u126, u127, u128, u129, u130, u131, u132, u133, u134, u135, u136, u137, u138, u139, u140, u141, u142, u143, u144, u145, u146, u147, u148, u149, u150, u151, u152, u153, u154, u155, u156, cf0_157, cf0_158, cf0_159, cf1_160, cf1_161, cf1_162, cf1_163, cf1_164, cf2_165, cf2_166, cf2_167, cf2_168, cf2_169, cf3_170, cf3_171, cf3_172, cf3_173, cf3_174, cf3_175, cf3_176, cf3_177, cf3_178, cf3_179, cf4_180, cf4_181, cf4_182, cf4_183, cf4_184, cf5_185, cf5_186, cf5_187, cf5_188, cf5_189, cf5_190, cf6_191, cf6_192, cf6_193, cf6_194, cf6_195, cf6_196, cf7_197, cf7_198, cf7_199, cf7_200, cf7_201, cf7_202, cf7_203, cf8_204, cf8_205, cf8_206, cf8_207, cf8_208, cf8_209, .bool c, u211, u212, u213, u214, u215, u216, u217, u218, u219, u220, u221, u222, u223, u224, u225, u226, u227, u228, u229, u230, u231, u232, u233, u234, u235, u236, u237, u238, u239, u240, u241, u242, u243, u244, u245, u246, u247, u248, u249, u250, u251, u252, u253, u254, u255, u256, u257, u258, u259, u260], []⟩) ?_ ?_
                      · as_aux_lemma =>
                          intro K hK
                          simp only [List.take_succ_cons, List.take_zero]
                          rcases c7 with _ | _
                          · go_wp2_with fail
                            exact CutPost.normal (hK _ _ ⟨rfl, false, fl_and, _, _, _, _, _, _, rfl⟩)
                          · obtain ⟨t, ht⟩ : ∃ b, ((o.h.down.win == 0)) = b := ⟨_, rfl⟩
                            go_wp2_with fail
                            exact CutPost.normal (hK _ _ ⟨rfl, t, (tr_and ht), _, _, _, _, _, _, rfl⟩)
                      · simp only [List.drop_succ_cons, List.drop_zero]
                        rintro a' w' ⟨rfl, c8, CH8, cf8_204, cf8_205, cf8_206, cf8_207, cf8_208, cf8_209, rfl⟩
                        refine wpList_cutHid 6 (fun a' w' => w1 = w' ∧ ∃ c, Hid (c = (c8 && (o.h.down.pick == 0))) ∧ ∃ cf9_210 cf9_211 cf9_212 cf9_213 cf9_214 cf9_215 : Value, a' = ⟨#[v0, .pointer (some ⟨w.heap.size, 0, none⟩), .bool false, .pointer (some ⟨B 0, 0, none⟩), .pointer (some ⟨B 1, 0, none⟩), .pointer (some ⟨B 2, 0, none⟩), .pointer (some ⟨B 3, 0, none⟩), .pointer (some ⟨B 4, 0, none⟩), .bool (wlNo o.w), .bool (podNo o.p), .bool (nodeNo o.n), .bool (groupNo o.g), undef, u13, u14, u15, u16, u17, u18, u19, u20, u21, u22, u23, u24, u25, u26, u27, u28, u29, u30, u31, u32, u33, u34, u35, u36, u37, u38, u39, u40, u41, u42, u43, u44, u45, u46, u47, u48, u49, u50, u51, u52, u53, u54, u55, u56, u57, u58, u59, u60, u61, u62, u63, u64, u65, u66, u67, u68, u69, u70, u71, u72, u73, u74, u75, u76, u77, u78, u79, u80, u81, u82, u83, u84, u85, u86, u87, u88, u89, u90, u91, u92, u93, u94, u95, u96, u97, u98, u99, u100, u101, u102, u103, u104, u105, u106, u107, u108, u109, u110, u111, u112, u113, u114, u115, u116, u117, u118, u119, u120, u121, u122, u123, u124, u125, u126, u127, u128, u129, u130, u131, u132, u133, u134, u135, u136, u137, u138, u139, u140, u141, u142, u143, u144, u145, u146, u147, u148, u149, u150, u151, u152, u153, u154, u155, u156, cf0_157, cf0_158, cf0_159, cf1_160, cf1_161, cf1_162, cf1_163, cf1_164, cf2_165, cf2_166, cf2_167, cf2_168, cf2_169, cf3_170, cf3_171, cf3_172, cf3_173, cf3_174, cf3_175, cf3_176, cf3_177, cf3_178, cf3_179, cf4_180, cf4_181, cf4_182, cf4_183, cf4_184, cf5_185, cf5_186, cf5_187, cf5_188, cf5_189, cf5_190, cf6_191, cf6_192, cf6_193, cf6_194, cf6_195, cf6_196, cf7_197, cf7_198, cf7_199, cf7_200, cf7_201, cf7_202, cf7_203, cf8_204, cf8_205, cf8_206, cf8_207, cf8_208, cf8_209, cf9_210, cf9_211, cf9_212, cf9_213, cf9_214, cf9_215, .bool c, u217, u218, u219, u220, u221, u222, u223, u224, u225, u226, u227, u228, u229, u230, u231, u232, u233, u234, u235, u236, u237, u238, u239, u240, u241, u242, u243, u244, u245, u246, u247, u248, u249, u250, u251, u252, u253, u254, u255, u256, u257, u258, u259, u260], []⟩) ?_ ?_
                        · as_aux_lemma =>
                            intro K hK
                            simp only [List.take_succ_cons, List.take_zero]
                            rcases c8 with _ | _
                            · go_wp2_with fail
                              exact CutPost.normal (hK _ _ ⟨rfl, false, fl_and, _, _, _, _, _, _, rfl⟩)
                            · obtain ⟨t, ht⟩ : ∃ b, ((o.h.down.pick == 0)) = b := ⟨_, rfl⟩
                              go_wp2_with fail
                              exact CutPost.normal (hK _ _ ⟨rfl, t, (tr_and ht), _, _, _, _, _, _, rfl⟩)
                        · simp only [List.drop_succ_cons, List.drop_zero]
                          rintro a' w' ⟨rfl, c9, CH9, cf9_210, cf9_211, cf9_212, cf9_213, cf9_214, cf9_215, rfl⟩
                          rcases c9 with _ | _
                          · go_wp2_with fail
                            go_meet
                            case rel => exact ⟨congrArg Value.bool (HE.out.trans (by rw [← CH0.out, ← CH1.out, ← CH2.out, ← CH3.out, ← CH4.out, ← CH5.out, ← CH6.out, ← CH7.out, ← CH8.out, ← CH9.out, Bool.false_and])).symm, rfl⟩
                          · obtain ⟨t, ht⟩ : ∃ b, (((o.h.down.P.la : Int) == 0)) = b := ⟨_, rfl⟩
                            go_wp2_with fail
                            go_meet
                            case rel => exact ⟨congrArg Value.bool (HE.out.trans (by rw [← CH0.out, ← CH1.out, ← CH2.out, ← CH3.out, ← CH4.out, ← CH5.out, ← CH6.out, ← CH7.out, ← CH8.out, ← CH9.out, Bool.true_and]; exact ht)).symm, rfl⟩
  case rest =>
  obtain ⟨rfl, rfl⟩ := hcut
  have HF : Hid (emptiesOk kd o = (((((wlNo o.w || (kd == 0)) && (podNo o.p || (kd == 1))) && (nodeNo o.n || (kd == 2))) && (groupNo o.g || (kd == 3))) && (hpaNo o.h || (kd == 4)))) := rfl
  obtain ⟨b0, h_b0⟩ : ∃ b, wlNo o.w = b := ⟨_, rfl⟩
  rw [h_b0] at HF
  obtain ⟨b1, h_b1⟩ : ∃ b, podNo o.p = b := ⟨_, rfl⟩
  rw [h_b1] at HF
  obtain ⟨b2, h_b2⟩ : ∃ b, nodeNo o.n = b := ⟨_, rfl⟩
  rw [h_b2] at HF
  obtain ⟨b3, h_b3⟩ : ∃ b, groupNo o.g = b := ⟨_, rfl⟩
  rw [h_b3] at HF
  obtain ⟨b4, h_b4⟩ : ∃ b, hpaNo o.h = b := ⟨_, rfl⟩
  rw [h_b4] at HF
  simp only [h_b0]
  simp only [h_b1]
  simp only [h_b2]
  simp only [h_b3]
  simp only [h_b4]
  clear h_b0 h_b1 h_b2 h_b3 h_b4
  clear q_w_cpu q_w_mem q_p_cpu q_p_mem q_n_cpu q_n_mem q_g_cpu q_g_mem c0_0 c0_1 c0_2 c0_3 c0_4 c0_5 c0_6 c1_0 c1_1 c1_2 c1_3 c1_4 c1_5 c1_6 c1_7 c1_8 c1_9 c2_0 c2_1 c2_2 c2_3 c2_4 c2_5 c2_6 c3_0 c3_1 c3_2 c3_3 c3_4 c3_5 c3_6 c3_7 c4_0 c4_1 c4_2 c4_3 c4_4 c4_5 c4_6 c4_7 c4_8 c4_9 c4_10 c4_11
  go_upto_region 7 with fail
  refine wp_region_lit ?_
  refine wpList_cutHid 7 (fun a' w' => w1 = w' ∧ ∃ c, Hid (c = (b0 || (kd == 0))) ∧ ∃ df0_223 df0_224 df0_225 df0_226 df0_227 df0_228 : Value, a' = ⟨#[v0, .pointer (some ⟨w.heap.size, 0, none⟩), .bool false, .pointer (some ⟨B 0, 0, none⟩), .pointer (some ⟨B 1, 0, none⟩), .pointer (some ⟨B 2, 0, none⟩), .pointer (some ⟨B 3, 0, none⟩), .pointer (some ⟨B 4, 0, none⟩), .bool b0, .bool b1, .bool b2, .bool b3, .bool b4, u13, u14, u15, u16, u17, u18, u19, u20, u21, u22, u23, u24, u25, u26, u27, u28, u29, u30, u31, u32, u33, u34, u35, u36, u37, u38, u39, u40, u41, u42, u43, u44, u45, u46, u47, u48, u49, u50, u51, u52, u53, u54, u55, u56, u57, u58, u59, u60, u61, u62, u63, u64, u65, u66, u67, u68, u69, u70, u71, u72, u73, u74, u75, u76, u77, u78, u79, u80, u81, u82, u83, u84, u85, u86, u87, u88, u89, u90, u91, u92, u93, u94, u95, u96, u97, u98, u99, u100, u101, u102, u103, u104, u105, u106, u107, u108, u109, u110, u111, u112, u113, u114, u115, u116, u117, u118, u119, u120, u121, u122, u123, u124, u125, u126, u127, u128, u129, u130, u131, u132, u133, u134, u135, u136, u137, u138, u139, u140, u141, u142, u143, u144, u145, u146, u147, u148, u149, u150, u151, u152, u153, u154, u155, u156, u157, u158, u159, u160, u161, u162, u163, u164, u165, u166, u167, u168, u169, u170, u171, u172, u173, u174, u175, u176, u177, u178, u179, u180, u181, u182, u183, u184, u185, u186, u187, u188, u189, u190, u191, u192, u193, u194, u195, u196, u197, u198, u199, u200, u201, u202, u203, u204, u205, u206, u207, u208, u209, u210, u211, u212, u213, u214, u215, u216, u217, u218, u219, u220, u221, u222, df0_223, df0_224, df0_225, df0_226, df0_227, df0_228, .bool c, u230, u231, u232, u233, u234, u235, u236, u237, u238, u239, u240, u241, u242, u243, u244, u245, u246, u247, u248, u249, u250, u251, u252, u253, u254, u255, u256, u257, u258, u259, u260], []⟩) ?_ ?_
  · as_aux_lemma =>
      intro K hK
      simp only [List.take_succ_cons, List.take_zero]
      rcases b0 with _ | _
      · obtain ⟨t, ht⟩ : ∃ b, ((kd == 0)) = b := ⟨_, rfl⟩
        go_wp2_with fail
        exact CutPost.normal (hK _ _ ⟨rfl, t, (or_no1 ht), _, _, _, _, _, _, rfl⟩)
      · go_wp2_with fail
        exact CutPost.normal (hK _ _ ⟨rfl, true, or_yes1, _, _, _, _, _, _, rfl⟩)
  · simp only [List.drop_succ_cons, List.drop_zero]
    rintro a' w' ⟨rfl, d0, DH0, df0_223, df0_224, df0_225, df0_226, df0_227, df0_228, rfl⟩
    refine wpList_cutHid 8 (fun a' w' => w1 = w' ∧ ∃ c, Hid (c = (d0 && (b1 || (kd == 1)))) ∧ ∃ df1_229 df1_230 df1_231 df1_232 df1_233 df1_234 df1_235 df1_236 : Value, a' = ⟨#[v0, .pointer (some ⟨w.heap.size, 0, none⟩), .bool false, .pointer (some ⟨B 0, 0, none⟩), .pointer (some ⟨B 1, 0, none⟩), .pointer (some ⟨B 2, 0, none⟩), .pointer (some ⟨B 3, 0, none⟩), .pointer (some ⟨B 4, 0, none⟩), .bool b0, .bool b1, .bool b2, .bool b3, .bool b4, u13, u14, u15, u16, u17, u18, u19, u20, u21, u22, u23, u24, u25, u26, u27, u28, u29, u30, u31, u32, u33, u34, u35, u36, u37, u38, u39, u40, u41, u42, u43, u44, u45, u46, u47, u48, u49, u50, u51, u52, u53, u54, u55, u56, u57, u58, u59, u60, u61, u62, u63, u64, u65, u66, u67, u68, u69, u70, u71, u72, u73, u74, u75, u76, u77, u78, u79, u80, u81, u82, u83, u84, u85, u86, u87, u88, u89, u90, u91, u92, u93, u94, u95, u96, u97, u98, u99, u100, u101, u102, u103, u104, u105, u106, u107, u108, u109, u110, u111, u112, u113, u114, u115, u116, u117, u118, u119, u120, u121, u122, u123, u124, u125, u126, u127, u128, u129, u130, u131, u132, u133, u134, u135, u136, u137, u138, u139, u140, u141, u142, u143, u144, u145, u146, u147, u148, u149, u150, u151, u152, u153, u154, u155, u156, u157, u158, u159, u160, u161, u162, u163, u164, u165, u166, u167, u168, u169, u170, u171, u172, u173, u174, u175, u176, u177, u178, u179, u180, u181, u182, u183, u184, u185, u186, u187, u188, u189, u190, u191, u192, u193, u194, u195, u196, u197, u198, u199, u200, u201, u202, u203, u204, u205, u206, u207, u208, u209, u210, u211, u212, u213, u214, u215, u216, u217, u218, u219, u220, u221, u222, df0_223, df0_224, df0_225, df0_226, df0_227, df0_228, df1_229, df1_230, df1_231, df1_232, df1_233, df1_234, df1_235, df1_236, .bool c, u238, u239, u240, u241, u242, u243, u244, u245, u246, u247, u248, u249, u250, u251, u252, u253, u254, u255, u256, u257, u258, u259, u260], []⟩) ?_ ?_
    · as_aux_lemma =>
        intro K hK
        simp only [List.take_succ_cons, List.take_zero]
        rcases d0 with _ | _
        · go_wp2_with fail
          exact CutPost.normal (hK _ _ ⟨rfl, false, fl_and, _, _, _, _, _, _, _, _, rfl⟩)
        · rcases b1 with _ | _
          · obtain ⟨t, ht⟩ : ∃ b, ((kd == 1)) = b := ⟨_, rfl⟩
            go_wp2_with fail
            exact CutPost.normal (hK _ _ ⟨rfl, t, (or_no ht), _, _, _, _, _, _, _, _, rfl⟩)
          · go_wp2_with fail
            exact CutPost.normal (hK _ _ ⟨rfl, true, or_yes, _, _, _, _, _, _, _, _, rfl⟩)
    · simp only [List.drop_succ_cons, List.drop_zero]
      rintro a' w' ⟨rfl, d1, DH1, df1_229, df1_230, df1_231, df1_232, df1_233, df1_234, df1_235, df1_236, rfl⟩
      refine wpList_cutHid 8 (fun a' w' => w1 = w' ∧ ∃ c, Hid (c = (d1 && (b2 || (kd == 2)))) ∧ ∃ df2_237 df2_238 df2_239 df2_240 df2_241 df2_242 df2_243 df2_244 : Value, a' = ⟨#[v0, .pointer (some ⟨w.heap.size, 0, none⟩), .bool false, .pointer (some ⟨B 0, 0, none⟩), .pointer (some ⟨B 1, 0, none⟩), .pointer (some ⟨B 2, 0, none⟩), .pointer (some ⟨B 3, 0, none⟩), .pointer (some ⟨B 4, 0, none⟩), .bool b0, .bool b1, .bool b2, .bool b3, .bool b4, u13, u14, u15, u16, u17, u18, u19, u20, u21, u22, u23, u24, u25, u26, u27, u28, u29, u30, u31, u32, u33, u34, u35, u36, u37, u38, u39, u40, u41, u42, u43, u44, u45, u46, u47, u48, u49, u50, u51, u52, u53, u54, u55, u56, u57, u58, u59, u60, u61, u62, u63, u64, u65, u66, u67, u68, u69, u70, u71, u72, u73, u74, u75, u76, u77, u78, u79, u80, u81, u82, u83, u84, u85, u86, u87, u88, u89, u90, u91, u92, u93, u94, u95, u96, u97, u98, u99, u100, u101, u102, u103, u104, u105, u106, u107, u108, u109, u110, u111, u112, u113, u114, u115, u116, u117, u118, u119, u120, u121, u122, u123, u124, u125, u126, u127, u128, u129, u130, u131, u132, u133, u134, u135, u136, u137, u138, u139, u140, u141, u142, u143, u144, u145, u146, u147, u148, u149, u150, u151, u152, u153, u154, u155, u156, u157, u158, u159, u160, u161, u162, u163, u164, u165, u166, u167, u168, u169, u170, u171, u172, u173, u174, u175, u176, u177, u178, u179, u180, u181, u182, u183, u184, u185, u186, u187, u188, u189, u190, u191, u192, u193, u194, u195, u196, u197, u198, u199, u200, u201, u202, u203, u204, u205, u206, u207, u208, u209, u210, u211, u212, u213, u214, u215, u216, u217, u218, u219, u220, u221, u222, df0_223, df0_224, df0_225, df0_226, df0_227, df0_228, df1_229, df1_230, df1_231, df1_232, df1_233, df1_234, df1_235, df1_236, df2_237, df2_238, df2_239, df2_240, df2_241, df2_242, df2_243, df2_244, .bool c, u246, u247, u248, u249, u250, u251, u252, u253, u254, u255, u256, u257, u258, u259, u260], []⟩) ?_ ?_
      · as_aux_lemma =>
          intro K hK
          simp only [List.take_succ_cons, List.take_zero]
          rcases d1 with _ | _
          · go_wp2_with fail
            exact CutPost.normal (hK _ _ ⟨rfl, false, fl_and, _, _, _, _, _, _, _, _, rfl⟩)
          · rcases b2 with _ | _
            · obtain ⟨t, ht⟩ : ∃ b, ((kd == 2)) = b := ⟨_, rfl⟩
              go_wp2_with fail
              exact CutPost.normal (hK _ _ ⟨rfl, t, (or_no ht), _, _, _, _, _, _, _, _, rfl⟩)
            · go_wp2_with fail
              exact CutPost.normal (hK _ _ ⟨rfl, true, or_yes, _, _, _, _, _, _, _, _, rfl⟩)
      · simp only [List.drop_succ_cons, List.drop_zero]
        rintro a' w' ⟨rfl, d2, DH2, df2_237, df2_238, df2_239, df2_240, df2_241, df2_242, df2_243, df2_244, rfl⟩
        refine wpList_cutHid 8 (fun a' w' => w1 = w' ∧ ∃ c, Hid (c = (d2 && (b3 || (kd == 3)))) ∧ ∃ df3_245 df3_246 df3_247 df3_248 df3_249 df3_250 df3_251 df3_252 : Value, a' = ⟨#[v0, .pointer (some ⟨w.heap.size, 0, none⟩), .bool false, .pointer (some ⟨B 0, 0, none⟩), .pointer (some ⟨B 1, 0, none⟩), .pointer (some ⟨B 2, 0, none⟩), .pointer (some ⟨B 3, 0, none⟩), .pointer (some ⟨B 4, 0, none⟩), .bool b0, .bool b1, .bool b2, .bool b3, .bool b4, u13, u14, u15, u16, u17, u18, u19, u20, u21, u22, u23, u24, u25, u26, u27, u28, u29, u30, u31, u32, u33, u34, u35, u36, u37, u38, u39, u40, u41, u42, u43, u44, u45, u46, u47, u48, u49, u50, u51, u52, u53, u54, u55, u56, u57, u58, u59, u60, u61, u62, u63, u64, u65, u66, u67, u68, u69, u70, u71, u72, u73, u74, u75, u76, u77, u78, u79, u80, u81, u82, u83, u84, u85, u86, u87, u88, u89, u90, u91, u92, u93, u94, u95, u96, u97, u98, u99, u100, u101, u102, u103, u104, u105, u106, u107, u108, u109, u110, u111, u112, u113, u114, u115, u116, u117, u118, u119, u120, u121, u122, u123, u124, u125, u126, u127, u128, u129, u130, u131, u132, u133, u134, u135, u136, u137, u138, u139, u140, u141, u142, u143, u144, u145, u146, u147, u148, u149, u150, u151, u152, u153, u154, u155, u156, u157, u158, u159, u160, u161, u162, u163, u164, u165, u166, u167, u168, u169, u170, u171, u172, u173, u174, u175, u176, u177, u178, u179, u180, u181, u182, u183, u184, u185, u186, u187, u188, u189, u190, u191, u192, u193, u194, u195, u196, u197, u198, u199, u200, u201, u202, u203, u204, u205, u206, u207, u208, u209, u210, u211, u212, u213, u214, u215, u216, u217, u218, u219, u220, u221, u222, df0_223, df0_224, df0_225, df0_226, df0_227, df0_228, df1_229, df1_230, df1_231, df1_232, df1_233, df1_234, df1_235, df1_236, df2_237, df2_238, df2_239, df2_240, df2_241, df2_242, df2_243, df2_244, df3_245, df3_246, df3_247, df3_248, df3_249, df3_250, df3_251, df3_252, .bool c, u254, u255, u256, u257, u258, u259, u260], []⟩) ?_ ?_
        · as_aux_lemma =>
            intro K hK
            simp only [List.take_succ_cons, List.take_zero]
            rcases d2 with _ | _
            · go_wp2_with fail
              exact CutPost.normal (hK _ _ ⟨rfl, false, fl_and, _, _, _, _, _, _, _, _, rfl⟩)
            · rcases b3 with _ | _
              · obtain ⟨t, ht⟩ : ∃ b, ((kd == 3)) = b := ⟨_, rfl⟩
                go_wp2_with fail
                exact CutPost.normal (hK _ _ ⟨rfl, t, (or_no ht), _, _, _, _, _, _, _, _, rfl⟩)
              · go_wp2_with fail
                exact CutPost.normal (hK _ _ ⟨rfl, true, or_yes, _, _, _, _, _, _, _, _, rfl⟩)
        · simp only [List.drop_succ_cons, List.drop_zero]
          rintro a' w' ⟨rfl, d3, DH3, df3_245, df3_246, df3_247, df3_248, df3_249, df3_250, df3_251, df3_252, rfl⟩
          rcases d3 with _ | _
          · go_wp2_with fail
            go_ret
            exact ⟨ret_bool (HF.out.trans (by rw [← DH0.out, ← DH1.out, ← DH2.out, ← DH3.out, Bool.false_and])).symm, Hb.out⟩
          · rcases b4 with _ | _
            · obtain ⟨t, ht⟩ : ∃ b, ((kd == 4)) = b := ⟨_, rfl⟩
              go_wp2_with fail
              go_ret
              exact ⟨ret_bool (HF.out.trans (by rw [← DH0.out, ← DH1.out, ← DH2.out, ← DH3.out, Bool.true_and, Bool.false_or]; exact ht)).symm, Hb.out⟩
            · go_wp2_with fail
              go_ret
              exact ⟨ret_bool (HF.out.trans (by rw [← DH0.out, ← DH1.out, ← DH2.out, ← DH3.out, Bool.true_or, Bool.true_and])).symm, Hb.out⟩
end Go.Proofs.YtjncoloedakpoaaDoor
