/- The contract of valid.empties. No condition. -/
import Derived.Test.YtpbppgfogepjeaaCheckSpecM
import Derived.Test.YtpbppgfogepjeaaObjSta
import Derived.Test.YtpbppgfogepjeaaOwnStM
import Derived.Laws.Rows
namespace Go.Proofs.Ytpbppgfogepjeaa
open Go.ChangeShapes Go.WideShapes Go.ChangeAt Go.RowKit Go.Deep

def FiveUp (e0 e1 e2 e3 e4 : Bool) (kd : Int) (k : Nat) : Prop := (0 < k → (e0 || (kd == 0)) = true) ∧ (1 < k → (e1 || (kd == 1)) = true) ∧ (2 < k → (e2 || (kd == 2)) = true) ∧ (3 < k → (e3 || (kd == 3)) = true) ∧ (4 < k → (e4 || (kd == 4)) = true)
theorem FiveUp.s0 {e0 e1 e2 e3 e4 : Bool} {kd : Int} (_ : FiveUp e0 e1 e2 e3 e4 kd 0) (hk : (e0 || (kd == 0)) = true) : FiveUp e0 e1 e2 e3 e4 kd 1 := ⟨fun _ => hk, fun hh => absurd hh (by decide), fun hh => absurd hh (by decide), fun hh => absurd hh (by decide), fun hh => absurd hh (by decide)⟩
theorem FiveUp.s1 {e0 e1 e2 e3 e4 : Bool} {kd : Int} (h : FiveUp e0 e1 e2 e3 e4 kd 1) (hk : (e1 || (kd == 1)) = true) : FiveUp e0 e1 e2 e3 e4 kd 2 := ⟨fun _ => h.1 (by decide), fun _ => hk, fun hh => absurd hh (by decide), fun hh => absurd hh (by decide), fun hh => absurd hh (by decide)⟩
theorem FiveUp.s2 {e0 e1 e2 e3 e4 : Bool} {kd : Int} (h : FiveUp e0 e1 e2 e3 e4 kd 2) (hk : (e2 || (kd == 2)) = true) : FiveUp e0 e1 e2 e3 e4 kd 3 := ⟨fun _ => h.1 (by decide), fun _ => h.2.1 (by decide), fun _ => hk, fun hh => absurd hh (by decide), fun hh => absurd hh (by decide)⟩
theorem FiveUp.s3 {e0 e1 e2 e3 e4 : Bool} {kd : Int} (h : FiveUp e0 e1 e2 e3 e4 kd 3) (hk : (e3 || (kd == 3)) = true) : FiveUp e0 e1 e2 e3 e4 kd 4 := ⟨fun _ => h.1 (by decide), fun _ => h.2.1 (by decide), fun _ => h.2.2.1 (by decide), fun _ => hk, fun hh => absurd hh (by decide)⟩
theorem FiveUp.s4 {e0 e1 e2 e3 e4 : Bool} {kd : Int} (h : FiveUp e0 e1 e2 e3 e4 kd 4) (hk : (e4 || (kd == 4)) = true) : FiveUp e0 e1 e2 e3 e4 kd 5 := ⟨fun _ => h.1 (by decide), fun _ => h.2.1 (by decide), fun _ => h.2.2.1 (by decide), fun _ => h.2.2.2.1 (by decide), fun _ => hk⟩
theorem FiveUp.all {e0 e1 e2 e3 e4 : Bool} {kd : Int} (h : FiveUp e0 e1 e2 e3 e4 kd 5) : ((((e0 || (kd == 0)) && (e1 || (kd == 1))) && (e2 || (kd == 2))) && (e3 || (kd == 3)) && (e4 || (kd == 4))) = true := by
  obtain ⟨h0, h1, h2, h3, h4⟩ := h
  rw [h0 (by decide), h1 (by decide), h2 (by decide), h3 (by decide), h4 (by decide)]
  rfl

set_option maxRecDepth 100000 in
set_option maxHeartbeats 12800000 in
theorem empties_any (kd : Int) (nm : ByteArray) (ver : Int) (o : ShapesV) (w : World) :
    Calls Try.prog 38 #[.agg #[.int .i64 kd, .string nm, .int .u64 ver, .int .i64 o.w.rep, .int .i64 o.w.cpu, .int .i64 o.w.mem, .slice o.w.L.ao o.w.L.la o.w.L.ca, .slice o.w.S.ao o.w.S.la o.w.S.ca, .slice o.w.T.ao o.w.T.la o.w.T.ca, .int .i64 o.w.warm, .string o.p.owner, .string o.p.node, .int .i64 o.p.phase, .int .i64 o.p.since, .int .i64 o.p.cpu, .int .i64 o.p.mem, .slice o.p.L.ao o.p.L.la o.p.L.ca, .slice o.p.S.ao o.p.S.la o.p.S.ca, .slice o.p.T.ao o.p.T.la o.p.T.ca, .int .i64 o.p.warm, .string o.n.group, .int .i64 o.n.cpu, .int .i64 o.n.mem, .slice o.n.L.ao o.n.L.la o.n.L.ca, .slice o.n.T.ao o.n.T.la o.n.T.ca, .int .i64 o.n.since, .bool o.n.closed, .int .i64 o.g.min, .int .i64 o.g.max, .int .i64 o.g.target, .int .i64 o.g.cpu, .int .i64 o.g.mem, .slice o.g.L.ao o.g.L.la o.g.L.ca, .slice o.g.T.ao o.g.T.la o.g.T.ca, .int .i64 o.g.prio, .string o.h.target, .int .i64 o.h.min, .int .i64 o.h.max, .slice o.h.M.ao o.h.M.la o.h.M.ca, .int .i64 o.h.tol, .int .i64 o.h.up.win, .int .i64 o.h.up.pick, .slice o.h.up.P.ao o.h.up.P.la o.h.up.P.ca, .int .i64 o.h.down.win, .int .i64 o.h.down.pick, .slice o.h.down.P.ao o.h.down.P.la o.h.down.P.ca, .slice o.h.past.ao o.h.past.la o.h.past.ca]] w fun e w' => e = .returned (.bool (emptiesOk kd o)) ∧ Below w.heap.size w w' := by
  go_enter Try.func38, Try.ntmps38
  go_upto_region 1 with fail
  refine wp_five (objFive o w.heap.size) (sl := fun i => if i < 10 then 12 + i else i - 7) (by kernel_rfl) (objFive_ok o _)
    ⟨rfl, ord_of (by kernel_rfl), five5 ⟨_, rfl, rfl, rfl, rfl⟩ ⟨_, rfl, rfl, rfl, rfl⟩ ⟨_, rfl, rfl, rfl, rfl⟩ ⟨_, rfl, rfl, rfl, rfl⟩ ⟨_, rfl, rfl, rfl, rfl⟩,
      five5 ⟨_, rfl, rfl, rfl, rfl, by kernel_rfl⟩ ⟨_, rfl, rfl, rfl, rfl, by kernel_rfl⟩ ⟨_, rfl, rfl, rfl, rfl, by kernel_rfl⟩ ⟨_, rfl, rfl, rfl, rfl, by kernel_rfl⟩ ⟨_, rfl, rfl, rfl, rfl, by kernel_rfl⟩,
      five5 ⟨_, rfl, rfl, rfl, rfl⟩ ⟨_, rfl, rfl, rfl, rfl⟩ ⟨_, rfl, rfl, rfl, rfl⟩ ⟨_, rfl, rfl, rfl, rfl⟩ ⟨_, rfl, rfl, rfl, rfl⟩,
      five5 ⟨_, rfl, rfl, rfl, rfl, by kernel_rfl, by kernel_rfl⟩ ⟨_, rfl, rfl, rfl, rfl, by kernel_rfl, by kernel_rfl⟩ ⟨_, rfl, rfl, rfl, rfl, by kernel_rfl, by kernel_rfl⟩ ⟨_, rfl, rfl, rfl, rfl, by kernel_rfl, by kernel_rfl⟩ ⟨_, rfl, rfl, rfl, rfl, by kernel_rfl, by kernel_rfl⟩⟩
    (fun i hi => by show (if i < 10 then 12 + i else i - 7) < 212; split <;> omega)
    (fun i j hi hj e => by split at e <;> split at e <;> omega)
    (fun i hi => by split <;> omega) rfl (objFive_cells o w kd nm ver) ?_
  intro B w1 hb hblk
  refine put_to (L := ⟨#[.agg #[.int .i64 kd, .string nm, .int .u64 ver, .int .i64 o.w.rep, .int .i64 o.w.cpu, .int .i64 o.w.mem, .slice o.w.L.ao o.w.L.la o.w.L.ca, .slice o.w.S.ao o.w.S.la o.w.S.ca, .slice o.w.T.ao o.w.T.la o.w.T.ca, .int .i64 o.w.warm, .string o.p.owner, .string o.p.node, .int .i64 o.p.phase, .int .i64 o.p.since, .int .i64 o.p.cpu, .int .i64 o.p.mem, .slice o.p.L.ao o.p.L.la o.p.L.ca, .slice o.p.S.ao o.p.S.la o.p.S.ca, .slice o.p.T.ao o.p.T.la o.p.T.ca, .int .i64 o.p.warm, .string o.n.group, .int .i64 o.n.cpu, .int .i64 o.n.mem, .slice o.n.L.ao o.n.L.la o.n.L.ca, .slice o.n.T.ao o.n.T.la o.n.T.ca, .int .i64 o.n.since, .bool o.n.closed, .int .i64 o.g.min, .int .i64 o.g.max, .int .i64 o.g.target, .int .i64 o.g.cpu, .int .i64 o.g.mem, .slice o.g.L.ao o.g.L.la o.g.L.ca, .slice o.g.T.ao o.g.T.la o.g.T.ca, .int .i64 o.g.prio, .string o.h.target, .int .i64 o.h.min, .int .i64 o.h.max, .slice o.h.M.ao o.h.M.la o.h.M.ca, .int .i64 o.h.tol, .int .i64 o.h.up.win, .int .i64 o.h.up.pick, .slice o.h.up.P.ao o.h.up.P.la o.h.up.P.ca, .int .i64 o.h.down.win, .int .i64 o.h.down.pick, .slice o.h.down.P.ao o.h.down.P.la o.h.down.P.ca, .slice o.h.past.ao o.h.past.la o.h.past.ca], .pointer (some ⟨w.heap.size, 0, none⟩), .bool false, .pointer (some ⟨B 0, 0, none⟩), .pointer (some ⟨B 1, 0, none⟩), .pointer (some ⟨B 2, 0, none⟩), .pointer (some ⟨B 3, 0, none⟩), .pointer (some ⟨B 4, 0, none⟩), undef, undef, undef, undef, .pointer (some ⟨w.heap.size, 3, none⟩), .agg #[.int .i64 o.w.rep, .int .i64 o.w.cpu, .int .i64 o.w.mem, .slice o.w.L.ao o.w.L.la o.w.L.ca, .slice o.w.S.ao o.w.S.la o.w.S.ca, .slice o.w.T.ao o.w.T.la o.w.T.ca, .int .i64 o.w.warm], .pointer (some ⟨w.heap.size, 10, none⟩), .agg #[.string o.p.owner, .string o.p.node, .int .i64 o.p.phase, .int .i64 o.p.since, .int .i64 o.p.cpu, .int .i64 o.p.mem, .slice o.p.L.ao o.p.L.la o.p.L.ca, .slice o.p.S.ao o.p.S.la o.p.S.ca, .slice o.p.T.ao o.p.T.la o.p.T.ca, .int .i64 o.p.warm], .pointer (some ⟨w.heap.size, 20, none⟩), .agg #[.string o.n.group, .int .i64 o.n.cpu, .int .i64 o.n.mem, .slice o.n.L.ao o.n.L.la o.n.L.ca, .slice o.n.T.ao o.n.T.la o.n.T.ca, .int .i64 o.n.since, .bool o.n.closed], .pointer (some ⟨w.heap.size, 27, none⟩), .agg #[.int .i64 o.g.min, .int .i64 o.g.max, .int .i64 o.g.target, .int .i64 o.g.cpu, .int .i64 o.g.mem, .slice o.g.L.ao o.g.L.la o.g.L.ca, .slice o.g.T.ao o.g.T.la o.g.T.ca, .int .i64 o.g.prio], .pointer (some ⟨w.heap.size, 35, none⟩), .agg #[.string o.h.target, .int .i64 o.h.min, .int .i64 o.h.max, .slice o.h.M.ao o.h.M.la o.h.M.ca, .int .i64 o.h.tol, .int .i64 o.h.up.win, .int .i64 o.h.up.pick, .slice o.h.up.P.ao o.h.up.P.la o.h.up.P.ca, .int .i64 o.h.down.win, .int .i64 o.h.down.pick, .slice o.h.down.P.ao o.h.down.P.la o.h.down.P.ca, .slice o.h.past.ao o.h.past.la o.h.past.ca], undef, undef, undef, undef, undef, undef, undef, undef, undef, undef, undef, undef, undef, undef, undef, undef, undef, undef, undef, undef, undef, undef, undef, undef, undef, undef, undef, undef, undef, undef, undef, undef, undef, undef, undef, undef, undef, undef, undef, undef, undef, undef, undef, undef, undef, undef, undef, undef, undef, undef, undef, undef, undef, undef, undef, undef, undef, undef, undef, undef, undef, undef, undef, undef, undef, undef, undef, undef, undef, undef, undef, undef, undef, undef, undef, undef, undef, undef, undef, undef, undef, undef, undef, undef, undef, undef, undef, undef, undef, undef, undef, undef, undef, undef, undef, undef, undef, undef, undef, undef, undef, undef, undef, undef, undef, undef, undef, undef, undef, undef, undef, undef, undef, undef, undef, undef, undef, undef, undef, undef, undef, undef, undef, undef, undef, undef, undef, undef, undef, undef, undef, undef, undef, undef, undef, undef, undef, undef, undef, undef, undef, undef, undef, undef, undef, undef, undef, undef, undef, undef, undef, undef, undef, undef, undef, undef, undef, undef, undef, undef, undef, undef, undef, undef, undef, undef, undef, undef, undef, undef, undef, undef, undef, undef, undef, undef, undef, undef, undef, undef, undef, undef, undef, undef, undef, undef, undef, undef, undef, undef], []⟩) (by kernel_rfl) ?_
  have r0 := (hblk 0 (by decide)).2
  have r1 := (hblk 1 (by decide)).2
  have r2 := (hblk 2 (by decide)).2
  have r3 := (hblk 3 (by decide)).2
  have r4 := (hblk 4 (by decide)).2
  generalize Value.agg #[.int .i64 kd, .string nm, .int .u64 ver, .int .i64 o.w.rep, .int .i64 o.w.cpu, .int .i64 o.w.mem, .slice o.w.L.ao o.w.L.la o.w.L.ca, .slice o.w.S.ao o.w.S.la o.w.S.ca, .slice o.w.T.ao o.w.T.la o.w.T.ca, .int .i64 o.w.warm, .string o.p.owner, .string o.p.node, .int .i64 o.p.phase, .int .i64 o.p.since, .int .i64 o.p.cpu, .int .i64 o.p.mem, .slice o.p.L.ao o.p.L.la o.p.L.ca, .slice o.p.S.ao o.p.S.la o.p.S.ca, .slice o.p.T.ao o.p.T.la o.p.T.ca, .int .i64 o.p.warm, .string o.n.group, .int .i64 o.n.cpu, .int .i64 o.n.mem, .slice o.n.L.ao o.n.L.la o.n.L.ca, .slice o.n.T.ao o.n.T.la o.n.T.ca, .int .i64 o.n.since, .bool o.n.closed, .int .i64 o.g.min, .int .i64 o.g.max, .int .i64 o.g.target, .int .i64 o.g.cpu, .int .i64 o.g.mem, .slice o.g.L.ao o.g.L.la o.g.L.ca, .slice o.g.T.ao o.g.T.la o.g.T.ca, .int .i64 o.g.prio, .string o.h.target, .int .i64 o.h.min, .int .i64 o.h.max, .slice o.h.M.ao o.h.M.la o.h.M.ca, .int .i64 o.h.tol, .int .i64 o.h.up.win, .int .i64 o.h.up.pick, .slice o.h.up.P.ao o.h.up.P.la o.h.up.P.ca, .int .i64 o.h.down.win, .int .i64 o.h.down.pick, .slice o.h.down.P.ao o.h.down.P.la o.h.down.P.ca, .slice o.h.past.ao o.h.past.la o.h.past.ca] = v0
  generalize Value.agg #[.int .i64 o.w.rep, .int .i64 o.w.cpu, .int .i64 o.w.mem, .slice o.w.L.ao o.w.L.la o.w.L.ca, .slice o.w.S.ao o.w.S.la o.w.S.ca, .slice o.w.T.ao o.w.T.la o.w.T.ca, .int .i64 o.w.warm] = v1
  generalize Value.agg #[.string o.p.owner, .string o.p.node, .int .i64 o.p.phase, .int .i64 o.p.since, .int .i64 o.p.cpu, .int .i64 o.p.mem, .slice o.p.L.ao o.p.L.la o.p.L.ca, .slice o.p.S.ao o.p.S.la o.p.S.ca, .slice o.p.T.ao o.p.T.la o.p.T.ca, .int .i64 o.p.warm] = v2
  generalize Value.agg #[.string o.n.group, .int .i64 o.n.cpu, .int .i64 o.n.mem, .slice o.n.L.ao o.n.L.la o.n.L.ca, .slice o.n.T.ao o.n.T.la o.n.T.ca, .int .i64 o.n.since, .bool o.n.closed] = v3
  generalize Value.agg #[.int .i64 o.g.min, .int .i64 o.g.max, .int .i64 o.g.target, .int .i64 o.g.cpu, .int .i64 o.g.mem, .slice o.g.L.ao o.g.L.la o.g.L.ca, .slice o.g.T.ao o.g.T.la o.g.T.ca, .int .i64 o.g.prio] = v4
  generalize Value.agg #[.string o.h.target, .int .i64 o.h.min, .int .i64 o.h.max, .slice o.h.M.ao o.h.M.la o.h.M.ca, .int .i64 o.h.tol, .int .i64 o.h.up.win, .int .i64 o.h.up.pick, .slice o.h.up.P.ao o.h.up.P.la o.h.up.P.ca, .int .i64 o.h.down.win, .int .i64 o.h.down.pick, .slice o.h.down.P.ao o.h.down.P.la o.h.down.P.ca, .slice o.h.past.ao o.h.past.la o.h.past.ca] = v5
  have R0 : Hid (RowAt w1 (B 0) [.int .i64 o.w.rep, .int .i64 o.w.cpu, .int .i64 o.w.mem, .slice o.w.L.ao o.w.L.la o.w.L.ca, .slice o.w.S.ao o.w.S.la o.w.S.ca, .slice o.w.T.ao o.w.T.la o.w.T.ca, .int .i64 o.w.warm]) := RowAt.of_heap r0
  have R1 : Hid (RowAt w1 (B 1) [.string o.p.owner, .string o.p.node, .int .i64 o.p.phase, .int .i64 o.p.since, .int .i64 o.p.cpu, .int .i64 o.p.mem, .slice o.p.L.ao o.p.L.la o.p.L.ca, .slice o.p.S.ao o.p.S.la o.p.S.ca, .slice o.p.T.ao o.p.T.la o.p.T.ca, .int .i64 o.p.warm]) := RowAt.of_heap r1
  have R2 : Hid (RowAt w1 (B 2) [.string o.n.group, .int .i64 o.n.cpu, .int .i64 o.n.mem, .slice o.n.L.ao o.n.L.la o.n.L.ca, .slice o.n.T.ao o.n.T.la o.n.T.ca, .int .i64 o.n.since, .bool o.n.closed]) := RowAt.of_heap r2
  have R3 : Hid (RowAt w1 (B 3) [.int .i64 o.g.min, .int .i64 o.g.max, .int .i64 o.g.target, .int .i64 o.g.cpu, .int .i64 o.g.mem, .slice o.g.L.ao o.g.L.la o.g.L.ca, .slice o.g.T.ao o.g.T.la o.g.T.ca, .int .i64 o.g.prio]) := RowAt.of_heap r3
  have R4 : Hid (RowAt w1 (B 4) [.string o.h.target, .int .i64 o.h.min, .int .i64 o.h.max, .slice o.h.M.ao o.h.M.la o.h.M.ca, .int .i64 o.h.tol, .int .i64 o.h.up.win, .int .i64 o.h.up.pick, .slice o.h.up.P.ao o.h.up.P.la o.h.up.P.ca, .int .i64 o.h.down.win, .int .i64 o.h.down.pick, .slice o.h.down.P.ao o.h.down.P.la o.h.down.P.ca, .slice o.h.past.ao o.h.past.la o.h.past.ca]) := RowAt.of_heap r4
  have kk := Below.cell_some (show Below (w.alloc _).heap.size (w.alloc _) w1 from hb) (show (w.alloc (.cells #[.int .i64 kd, .string nm, .int .u64 ver, .int .i64 o.w.rep, .int .i64 o.w.cpu, .int .i64 o.w.mem, .slice o.w.L.ao o.w.L.la o.w.L.ca, .slice o.w.S.ao o.w.S.la o.w.S.ca, .slice o.w.T.ao o.w.T.la o.w.T.ca, .int .i64 o.w.warm, .string o.p.owner, .string o.p.node, .int .i64 o.p.phase, .int .i64 o.p.since, .int .i64 o.p.cpu, .int .i64 o.p.mem, .slice o.p.L.ao o.p.L.la o.p.L.ca, .slice o.p.S.ao o.p.S.la o.p.S.ca, .slice o.p.T.ao o.p.T.la o.p.T.ca, .int .i64 o.p.warm, .string o.n.group, .int .i64 o.n.cpu, .int .i64 o.n.mem, .slice o.n.L.ao o.n.L.la o.n.L.ca, .slice o.n.T.ao o.n.T.la o.n.T.ca, .int .i64 o.n.since, .bool o.n.closed, .int .i64 o.g.min, .int .i64 o.g.max, .int .i64 o.g.target, .int .i64 o.g.cpu, .int .i64 o.g.mem, .slice o.g.L.ao o.g.L.la o.g.L.ca, .slice o.g.T.ao o.g.T.la o.g.T.ca, .int .i64 o.g.prio, .string o.h.target, .int .i64 o.h.min, .int .i64 o.h.max, .slice o.h.M.ao o.h.M.la o.h.M.ca, .int .i64 o.h.tol, .int .i64 o.h.up.win, .int .i64 o.h.up.pick, .slice o.h.up.P.ao o.h.up.P.la o.h.up.P.ca, .int .i64 o.h.down.win, .int .i64 o.h.down.pick, .slice o.h.down.P.ao o.h.down.P.la o.h.down.P.ca, .slice o.h.past.ao o.h.past.la o.h.past.ca] 44)).cell? ⟨w.heap.size, 0, none⟩ = some (.int .i64 kd) from cell_new w _ _ 0)
  have Hk := Lib.hid kk
  have Hb : Hid (Below w.heap.size w w1) := ((Below.refl w.heap.size w).alloc (Nat.le_refl _) _).trans (hb.mono (by simp))
  clear hb hblk r0 r1 r2 r3 r4 kk
  go_upto_region 2 with fail
  go_cut [8] from 9 (fun s wx => s = .pointer (some ⟨w1.heap.size, 0, none⟩) ∧ Hid (Below w1.heap.size w1 wx) ∧ Hid (RowAt wx w1.heap.size [.int .i64 0, .int .i64 0]))
  case first =>
    as_aux_lemma =>
      go_wp2_with fail
      go_meet
      case rel => exact ⟨rfl, (Below.refl _ _).alloc (Nat.le_refl _) _, RowAt.of_heap (t := 25) (fr := (0, 0)) (by rw [heap_alloc_new])⟩
  case rest =>
  obtain ⟨rfl, hbz, RZ⟩ := hcut
  replace R0 := Lib.hid (RowAt.below hbz.out rfl R0.out)
  replace R1 := Lib.hid (RowAt.below hbz.out rfl R1.out)
  replace R2 := Lib.hid (RowAt.below hbz.out rfl R2.out)
  replace R3 := Lib.hid (RowAt.below hbz.out rfl R3.out)
  replace R4 := Lib.hid (RowAt.below hbz.out rfl R4.out)
  replace Hk := Lib.hid (Below.cell_some hbz.out Hk.out)
  replace Hb := Lib.hid (Hb.out.trans (hbz.out.mono Hb.out.size))
  clear hbz
  obtain ⟨zb, hzb⟩ : ∃ n, w1.heap.size = n := ⟨_, rfl⟩
  rw [hzb] at RZ ⊢
  clear hzb
  go_upto_region 3 with fail
  simp only [List.append_eq, List.cons_append, List.nil_append]
  refine region_chain_head (N := 212) (Kept wc) (fun k => if k = 0 then (B 0, 0) else if k = 1 then (B 1, 0) else if k = 2 then (B 2, 0) else if k = 3 then (B 3, 0) else if k = 4 then (B 4, 0) else if k = 5 then (zb, 0) else (w.heap.size, 0)) ⟨objSta, [(0, [.int .i64 o.w.rep, .int .i64 o.w.cpu, .int .i64 o.w.mem, .slice o.w.L.ao o.w.L.la o.w.L.ca, .slice o.w.S.ao o.w.S.la o.w.S.ca, .slice o.w.T.ao o.w.T.la o.w.T.ca, .int .i64 o.w.warm]), (1, [.string o.p.owner, .string o.p.node, .int .i64 o.p.phase, .int .i64 o.p.since, .int .i64 o.p.cpu, .int .i64 o.p.mem, .slice o.p.L.ao o.p.L.la o.p.L.ca, .slice o.p.S.ao o.p.S.la o.p.S.ca, .slice o.p.T.ao o.p.T.la o.p.T.ca, .int .i64 o.p.warm]), (2, [.string o.n.group, .int .i64 o.n.cpu, .int .i64 o.n.mem, .slice o.n.L.ao o.n.L.la o.n.L.ca, .slice o.n.T.ao o.n.T.la o.n.T.ca, .int .i64 o.n.since, .bool o.n.closed]), (3, [.int .i64 o.g.min, .int .i64 o.g.max, .int .i64 o.g.target, .int .i64 o.g.cpu, .int .i64 o.g.mem, .slice o.g.L.ao o.g.L.la o.g.L.ca, .slice o.g.T.ao o.g.T.la o.g.T.ca, .int .i64 o.g.prio]), (4, [.string o.h.target, .int .i64 o.h.min, .int .i64 o.h.max, .slice o.h.M.ao o.h.M.la o.h.M.ca, .int .i64 o.h.tol, .int .i64 o.h.up.win, .int .i64 o.h.up.pick, .slice o.h.up.P.ao o.h.up.P.la o.h.up.P.ca, .int .i64 o.h.down.win, .int .i64 o.h.down.pick, .slice o.h.down.P.ao o.h.down.P.la o.h.down.P.ca, .slice o.h.past.ao o.h.past.la o.h.past.ca]), (5, [.int .i64 0, .int .i64 0])], [(188, .bool (noBeh o.h.up)), (193, .bool (noBeh o.h.down))], []⟩ 172 (by kernel_rfl) (by as_aux_lemma => kernel_rfl) (Kept.drawn wc) (tab_ok objSta_ok (blk_cons (k := 0) R0.out.from_ (blk_cons (k := 1) R1.out.from_ (blk_cons (k := 2) R2.out.from_ (blk_cons (k := 3) R3.out.from_ (blk_cons (k := 4) R4.out.from_ (blk_cons (k := 5) RZ.out.from_ blk_nil)))))))
    [(1, .ptr 6 0), (3, .ptr 0 0), (4, .ptr 1 0), (5, .ptr 2 0), (6, .ptr 3 0), (7, .ptr 4 0), (8, .ptr 5 0), (2, .val (.bool false))] [(1, .ptr 6 0), (2, .val (.bool false)), (50, .val (.bool (wlNo o.w))), (93, .val (.bool (podNo o.p))), (122, .val (.bool (nodeNo o.n))), (156, .val (.bool (groupNo o.g))), (194, .val (.bool ((((((((o.h.target.toList.isEmpty && (o.h.min == 0)) && (o.h.max == 0)) && (wrap64 ((o.h.M.la : Int) + (o.h.past.la : Int)) == 0)) && (o.h.tol == 0)) && noBeh o.h.up) && noBeh o.h.down)))))] [.call 76 [.val (.agg #[.int .i64 o.h.down.win, .int .i64 o.h.down.pick, .slice o.h.down.P.ao o.h.down.P.la o.h.down.P.ca])] (.bool (noBeh o.h.down)), .call 76 [.val (.agg #[.int .i64 o.h.up.win, .int .i64 o.h.up.pick, .slice o.h.up.P.ao o.h.up.P.la o.h.up.P.ca])] (.bool (noBeh o.h.up))] rfl (by as_aux_lemma => kernel_rfl) (by as_aux_lemma => kernel_rfl) ?_ none (by as_aux_lemma => kernel_rfl) (fun f => [f 0, .pointer (some ⟨w.heap.size, 0, none⟩), .bool false, f 3, f 4, f 5, f 6, f 7, f 8, f 9, f 10, f 11, f 12, f 13, f 14, f 15, f 16, f 17, f 18, f 19, f 20, f 21, f 22, f 23, f 24, f 25, f 26, f 27, f 28, f 29, f 30, f 31, f 32, f 33, f 34, f 35, f 36, f 37, f 38, f 39, f 40, f 41, f 42, f 43, f 44, f 45, f 46, f 47, f 48, f 49, .bool (wlNo o.w), f 51, f 52, f 53, f 54, f 55, f 56, f 57, f 58, f 59, f 60, f 61, f 62, f 63, f 64, f 65, f 66, f 67, f 68, f 69, f 70, f 71, f 72, f 73, f 74, f 75, f 76, f 77, f 78, f 79, f 80, f 81, f 82, f 83, f 84, f 85, f 86, f 87, f 88, f 89, f 90, f 91, f 92, .bool (podNo o.p), f 94, f 95, f 96, f 97, f 98, f 99, f 100, f 101, f 102, f 103, f 104, f 105, f 106, f 107, f 108, f 109, f 110, f 111, f 112, f 113, f 114, f 115, f 116, f 117, f 118, f 119, f 120, f 121, .bool (nodeNo o.n), f 123, f 124, f 125, f 126, f 127, f 128, f 129, f 130, f 131, f 132, f 133, f 134, f 135, f 136, f 137, f 138, f 139, f 140, f 141, f 142, f 143, f 144, f 145, f 146, f 147, f 148, f 149, f 150, f 151, f 152, f 153, f 154, f 155, .bool (groupNo o.g), f 157, f 158, f 159, f 160, f 161, f 162, f 163, f 164, f 165, f 166, f 167, f 168, f 169, f 170, f 171, f 172, f 173, f 174, f 175, f 176, f 177, f 178, f 179, f 180, f 181, f 182, f 183, f 184, f 185, f 186, f 187, f 188, f 189, f 190, f 191, f 192, f 193, .bool ((((((((o.h.target.toList.isEmpty && (o.h.min == 0)) && (o.h.max == 0)) && (wrap64 ((o.h.M.la : Int) + (o.h.past.la : Int)) == 0)) && (o.h.tol == 0)) && noBeh o.h.up) && noBeh o.h.down))), f 195, f 196, f 197, f 198, f 199, f 200, f 201, f 202, f 203, f 204, f 205, f 206, f 207, f 208, f 209, f 210, f 211]) (fun f => by as_aux_lemma => kernel_rfl) ?_
  · exact (ob_cons (ob_kept Try.func76 (by kernel_rfl) rfl fun w' _ => nothing_any o.h.down w') (ob_cons (ob_kept Try.func76 (by kernel_rfl) rfl fun w' _ => nothing_any o.h.up w') ob_nil))
  intro f w2 hb2
  simp only [List.drop_succ_cons, List.drop_zero]
  have Hb2 := Lib.hid (Hb.out.trans (Below.mono hb2 Hb.out.size))
  have Hk2 := Lib.hid (Below.cell_some hb2 Hk.out)
  clear hb2 Hb Hk R0 R1 R2 R3 R4 RZ
  obtain ⟨e0, h0⟩ : ∃ b, wlNo o.w = b := ⟨_, rfl⟩
  obtain ⟨e1, h1⟩ : ∃ b, podNo o.p = b := ⟨_, rfl⟩
  obtain ⟨e2, h2⟩ : ∃ b, nodeNo o.n = b := ⟨_, rfl⟩
  obtain ⟨e3, h3⟩ : ∃ b, groupNo o.g = b := ⟨_, rfl⟩
  obtain ⟨e4, h4⟩ : ∃ b, (((((((o.h.target.toList.isEmpty && (o.h.min == 0)) && (o.h.max == 0)) && (wrap64 ((o.h.M.la : Int) + (o.h.past.la : Int)) == 0)) && (o.h.tol == 0)) && noBeh o.h.up) && noBeh o.h.down)) = b := ⟨_, rfl⟩
  have h5 : hpaNo o.h = e4 := by rw [← h4]; simp only [hpaNo, noBeh, Bool.and_assoc]
  rw [h0, h1, h2, h3, h4]
  have HE : Hid (emptiesOk kd o = ((((e0 || (kd == 0)) && (e1 || (kd == 1))) && (e2 || (kd == 2))) && (e3 || (kd == 3)) && (e4 || (kd == 4)))) := by
    show _ = _
    unfold emptiesOk
    rw [h0, h1, h2, h3, h5]
  clear h0 h1 h2 h3 h4 h5
  obtain ⟨zz, hzz⟩ : ∃ n, w2.heap.size = n := ⟨_, rfl⟩
  have Hzz := Lib.hid hzz
  go_wp2_with fail
  have hbx : Below w2.heap.size w2 (w2.alloc (Obj.cells #[Value.bool e0, Value.bool e1, Value.bool e2, Value.bool e3, Value.bool e4] 4)) := (Below.refl w2.heap.size w2).alloc (Nat.le_refl _) _
  have z0 : (w2.alloc (Obj.cells #[Value.bool e0, Value.bool e1, Value.bool e2, Value.bool e3, Value.bool e4] 4)).cell? ⟨zz, 0, none⟩ = some (.bool e0) := by
    have := cell_new w2 #[Value.bool e0, Value.bool e1, Value.bool e2, Value.bool e3, Value.bool e4] 4 0
    rw [hzz] at this
    exact this
  have z1 : (w2.alloc (Obj.cells #[Value.bool e0, Value.bool e1, Value.bool e2, Value.bool e3, Value.bool e4] 4)).cell? ⟨zz, 1, none⟩ = some (.bool e1) := by
    have := cell_new w2 #[Value.bool e0, Value.bool e1, Value.bool e2, Value.bool e3, Value.bool e4] 4 1
    rw [hzz] at this
    exact this
  have z2 : (w2.alloc (Obj.cells #[Value.bool e0, Value.bool e1, Value.bool e2, Value.bool e3, Value.bool e4] 4)).cell? ⟨zz, 2, none⟩ = some (.bool e2) := by
    have := cell_new w2 #[Value.bool e0, Value.bool e1, Value.bool e2, Value.bool e3, Value.bool e4] 4 2
    rw [hzz] at this
    exact this
  have z3 : (w2.alloc (Obj.cells #[Value.bool e0, Value.bool e1, Value.bool e2, Value.bool e3, Value.bool e4] 4)).cell? ⟨zz, 3, none⟩ = some (.bool e3) := by
    have := cell_new w2 #[Value.bool e0, Value.bool e1, Value.bool e2, Value.bool e3, Value.bool e4] 4 3
    rw [hzz] at this
    exact this
  have z4 : (w2.alloc (Obj.cells #[Value.bool e0, Value.bool e1, Value.bool e2, Value.bool e3, Value.bool e4] 4)).cell? ⟨zz, 4, none⟩ = some (.bool e4) := by
    have := cell_new w2 #[Value.bool e0, Value.bool e1, Value.bool e2, Value.bool e3, Value.bool e4] 4 4
    rw [hzz] at this
    exact this
  have kk := Below.cell_some hbx Hk2.out
  have Hb3 := Lib.hid (Hb2.out.trans (hbx.mono Hb2.out.size))
  clear Hb2 hbx Hk2 hzz Hzz
  generalize w2.alloc (Obj.cells #[Value.bool e0, Value.bool e1, Value.bool e2, Value.bool e3, Value.bool e4] 4) = wx at z0 z1 z2 z3 z4 kk Hb3 ⊢
  go_loop [198] (fun i => ∃ k : Nat, k ≤ 5 ∧ i = .int .i64 k ∧ Hid (FiveUp e0 e1 e2 e3 e4 kd k)) (fun i => 5 - (intOf i).toNat)
  case atStart => exact ⟨0, by omega, rfl, ⟨fun h => absurd h (by decide), fun h => absurd h (by decide), fun h => absurd h (by decide), fun h => absurd h (by decide), fun h => absurd h (by decide)⟩⟩
  case round =>
    obtain ⟨k, hk, rfl, HF⟩ := hrel
    rcases (show k = 0 ∨ k = 1 ∨ k = 2 ∨ k = 3 ∨ k = 4 ∨ k = 5 by omega) with rfl | rfl | rfl | rfl | rfl | rfl
    · by_cases hq : kd = 0
      · subst hq
        go_wp2_with fail
        go_round
        case rel => exact ⟨1, by omega, rfl, HF.out.s0 (by simp)⟩
        case measure => simp [intOf]
      · have hq1 : ((0 : Int) == kd) = false := by simpa using fun h => hq h.symm
        have hq2 : ((0 : Int) != kd) = true := by simpa using fun h => hq h.symm
        have hq3 : (kd == 0) = false := by simpa using hq
        have Hq := Lib.hid hq3
        clear hq hq3
        rcases e0 with _ | _
        · go_wp2_with fail
          go_ret
          exact ⟨ret_bool (by rw [HE.out, Hq.out]; simp), Hb3.out⟩
        · go_wp2_with fail
          go_round
          case rel => exact ⟨1, by omega, rfl, HF.out.s0 (by simp)⟩
          case measure => simp [intOf]
    · by_cases hq : kd = 1
      · subst hq
        go_wp2_with fail
        go_round
        case rel => exact ⟨2, by omega, rfl, HF.out.s1 (by simp)⟩
        case measure => simp [intOf]
      · have hq1 : ((1 : Int) == kd) = false := by simpa using fun h => hq h.symm
        have hq2 : ((1 : Int) != kd) = true := by simpa using fun h => hq h.symm
        have hq3 : (kd == 1) = false := by simpa using hq
        have Hq := Lib.hid hq3
        clear hq hq3
        rcases e1 with _ | _
        · go_wp2_with fail
          go_ret
          exact ⟨ret_bool (by rw [HE.out, Hq.out]; simp), Hb3.out⟩
        · go_wp2_with fail
          go_round
          case rel => exact ⟨2, by omega, rfl, HF.out.s1 (by simp)⟩
          case measure => simp [intOf]
    · by_cases hq : kd = 2
      · subst hq
        go_wp2_with fail
        go_round
        case rel => exact ⟨3, by omega, rfl, HF.out.s2 (by simp)⟩
        case measure => simp [intOf]
      · have hq1 : ((2 : Int) == kd) = false := by simpa using fun h => hq h.symm
        have hq2 : ((2 : Int) != kd) = true := by simpa using fun h => hq h.symm
        have hq3 : (kd == 2) = false := by simpa using hq
        have Hq := Lib.hid hq3
        clear hq hq3
        rcases e2 with _ | _
        · go_wp2_with fail
          go_ret
          exact ⟨ret_bool (by rw [HE.out, Hq.out]; simp), Hb3.out⟩
        · go_wp2_with fail
          go_round
          case rel => exact ⟨3, by omega, rfl, HF.out.s2 (by simp)⟩
          case measure => simp [intOf]
    · by_cases hq : kd = 3
      · subst hq
        go_wp2_with fail
        go_round
        case rel => exact ⟨4, by omega, rfl, HF.out.s3 (by simp)⟩
        case measure => simp [intOf]
      · have hq1 : ((3 : Int) == kd) = false := by simpa using fun h => hq h.symm
        have hq2 : ((3 : Int) != kd) = true := by simpa using fun h => hq h.symm
        have hq3 : (kd == 3) = false := by simpa using hq
        have Hq := Lib.hid hq3
        clear hq hq3
        rcases e3 with _ | _
        · go_wp2_with fail
          go_ret
          exact ⟨ret_bool (by rw [HE.out, Hq.out]; simp), Hb3.out⟩
        · go_wp2_with fail
          go_round
          case rel => exact ⟨4, by omega, rfl, HF.out.s3 (by simp)⟩
          case measure => simp [intOf]
    · by_cases hq : kd = 4
      · subst hq
        go_wp2_with fail
        go_round
        case rel => exact ⟨5, by omega, rfl, HF.out.s4 (by simp)⟩
        case measure => simp [intOf]
      · have hq1 : ((4 : Int) == kd) = false := by simpa using fun h => hq h.symm
        have hq2 : ((4 : Int) != kd) = true := by simpa using fun h => hq h.symm
        have hq3 : (kd == 4) = false := by simpa using hq
        have Hq := Lib.hid hq3
        clear hq hq3
        rcases e4 with _ | _
        · go_wp2_with fail
          go_ret
          exact ⟨ret_bool (by rw [HE.out, Hq.out]; simp), Hb3.out⟩
        · go_wp2_with fail
          go_round
          case rel => exact ⟨5, by omega, rfl, HF.out.s4 (by simp)⟩
          case measure => simp [intOf]
    · go_wp2_with fail
      go_ret
      exact ⟨ret_bool (by rw [HE.out]; exact HF.out.all.symm), Hb3.out⟩
end Go.Proofs.Ytpbppgfogepjeaa
