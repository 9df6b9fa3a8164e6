/- The contract of Few: what its yes says. Condition: no row is longer than the reach. -/
import Derived.Test.YtpbppgfogepjeaaFive
import Derived.Deep.Cut
namespace Go.Proofs.Ytpbppgfogepjeaa
open Go.ChangeShapes Go.WideShapes Go.ChangeAt Go.RowKit Go.Deep

structure Few30 (o : ShapesV) : Prop where
  h0 : o.w.L.la ≤ 30
  h1 : o.w.T.la ≤ 30
  h2 : o.p.L.la ≤ 30
  h3 : o.p.T.la ≤ 30
  h4 : o.n.L.la ≤ 30
  h5 : o.n.T.la ≤ 30
  h6 : o.g.L.la ≤ 30
  h7 : o.g.T.la ≤ 30
  sum : o.w.S.la + o.p.S.la + o.h.M.la + o.h.up.P.la + o.h.down.P.la + o.h.past.la ≤ 60
structure Reach6 (o : ShapesV) : Prop where
  r0 : o.w.S.la ≤ 140737488351232
  r1 : o.p.S.la ≤ 140737488351232
  r2 : o.h.M.la ≤ 140737488351232
  r3 : o.h.up.P.la ≤ 140737488351232
  r4 : o.h.down.P.la ≤ 140737488351232
  r5 : o.h.past.la ≤ 140737488351232
theorem wr64_in (n : Int) (h : -9223372036854775808 ≤ n ∧ n ≤ 9223372036854775807) : wrap64 n = n := by unfold wrap64; omega
theorem few_sum {o : ShapesV} (hr : Reach6 o) (h : decide (wrap64 (wrap64 (wrap64 (wrap64 (wrap64 ((o.w.S.la : Int) + o.p.S.la) + o.h.M.la) + o.h.up.P.la) + o.h.down.P.la) + o.h.past.la) ≤ 60) = true) : o.w.S.la + o.p.S.la + o.h.M.la + o.h.up.P.la + o.h.down.P.la + o.h.past.la ≤ 60 := by
  have h0 := hr.r0; have h1 := hr.r1; have h2 := hr.r2; have h3 := hr.r3; have h4 := hr.r4; have h5 := hr.r5
  have h := of_decide_eq_true h
  rw [wr64_in ((o.w.S.la : Int) + o.p.S.la) ⟨by omega, by omega⟩] at h
  rw [wr64_in ((o.w.S.la : Int) + o.p.S.la + o.h.M.la) ⟨by omega, by omega⟩] at h
  rw [wr64_in ((o.w.S.la : Int) + o.p.S.la + o.h.M.la + o.h.up.P.la) ⟨by omega, by omega⟩] at h
  rw [wr64_in ((o.w.S.la : Int) + o.p.S.la + o.h.M.la + o.h.up.P.la + o.h.down.P.la) ⟨by omega, by omega⟩] at h
  rw [wr64_in ((o.w.S.la : Int) + o.p.S.la + o.h.M.la + o.h.up.P.la + o.h.down.P.la + o.h.past.la) ⟨by omega, by omega⟩] at h
  omega
def SaysFew (o : ShapesV) (e : Ending) : Prop := ∃ b, e = .returned (.bool b) ∧ (b = true → Few30 o)

set_option maxRecDepth 100000 in
set_option maxHeartbeats 3200000 in
theorem few_says (kd : Int) (nm : ByteArray) (ver : Int) (o : ShapesV) (w : World) (hr : Reach6 o) :
    Calls Try.prog 7 #[.agg #[.int .i64 kd, .string nm, .int .u64 ver, .int .i64 o.w.rep, .int .i64 o.w.cpu, .int .i64 o.w.mem, .slice o.w.L.ao o.w.L.la o.w.L.ca, .slice o.w.S.ao o.w.S.la o.w.S.ca, .slice o.w.T.ao o.w.T.la o.w.T.ca, .int .i64 o.w.warm, .string o.p.owner, .string o.p.node, .int .i64 o.p.phase, .int .i64 o.p.since, .int .i64 o.p.cpu, .int .i64 o.p.mem, .slice o.p.L.ao o.p.L.la o.p.L.ca, .slice o.p.S.ao o.p.S.la o.p.S.ca, .slice o.p.T.ao o.p.T.la o.p.T.ca, .int .i64 o.p.warm, .string o.n.group, .int .i64 o.n.cpu, .int .i64 o.n.mem, .slice o.n.L.ao o.n.L.la o.n.L.ca, .slice o.n.T.ao o.n.T.la o.n.T.ca, .int .i64 o.n.since, .bool o.n.closed, .int .i64 o.g.min, .int .i64 o.g.max, .int .i64 o.g.target, .int .i64 o.g.cpu, .int .i64 o.g.mem, .slice o.g.L.ao o.g.L.la o.g.L.ca, .slice o.g.T.ao o.g.T.la o.g.T.ca, .int .i64 o.g.prio, .string o.h.target, .int .i64 o.h.min, .int .i64 o.h.max, .slice o.h.M.ao o.h.M.la o.h.M.ca, .int .i64 o.h.tol, .int .i64 o.h.up.win, .int .i64 o.h.up.pick, .slice o.h.up.P.ao o.h.up.P.la o.h.up.P.ca, .int .i64 o.h.down.win, .int .i64 o.h.down.pick, .slice o.h.down.P.ao o.h.down.P.la o.h.down.P.ca, .slice o.h.past.ao o.h.past.la o.h.past.ca]] w fun e w' => SaysFew o e ∧ Below w.heap.size w w' := by
  go_enter Try.func7, Try.ntmps7
  go_upto_region 1 with fail
  refine wp_five (objFive o w.heap.size) (sl := fun i => if i < 10 then 10 + i else i - 7) (by kernel_rfl) (objFive_ok o _)
    ⟨rfl, ord_of (by kernel_rfl), five5 ⟨_, rfl, rfl, rfl, rfl⟩ ⟨_, rfl, rfl, rfl, rfl⟩ ⟨_, rfl, rfl, rfl, rfl⟩ ⟨_, rfl, rfl, rfl, rfl⟩ ⟨_, rfl, rfl, rfl, rfl⟩,
      five5 ⟨_, rfl, rfl, rfl, rfl, by kernel_rfl⟩ ⟨_, rfl, rfl, rfl, rfl, by kernel_rfl⟩ ⟨_, rfl, rfl, rfl, rfl, by kernel_rfl⟩ ⟨_, rfl, rfl, rfl, rfl, by kernel_rfl⟩ ⟨_, rfl, rfl, rfl, rfl, by kernel_rfl⟩,
      five5 ⟨_, rfl, rfl, rfl, rfl⟩ ⟨_, rfl, rfl, rfl, rfl⟩ ⟨_, rfl, rfl, rfl, rfl⟩ ⟨_, rfl, rfl, rfl, rfl⟩ ⟨_, rfl, rfl, rfl, rfl⟩,
      five5 ⟨_, rfl, rfl, rfl, rfl, by kernel_rfl, by kernel_rfl⟩ ⟨_, rfl, rfl, rfl, rfl, by kernel_rfl, by kernel_rfl⟩ ⟨_, rfl, rfl, rfl, rfl, by kernel_rfl, by kernel_rfl⟩ ⟨_, rfl, rfl, rfl, rfl, by kernel_rfl, by kernel_rfl⟩ ⟨_, rfl, rfl, rfl, rfl, by kernel_rfl, by kernel_rfl⟩⟩
    (fun i hi => by show (if i < 10 then 10 + i else i - 7) < 72; split <;> omega)
    (fun i j hi hj e => by split at e <;> split at e <;> omega)
    (fun i hi => by split <;> omega) rfl (objFive_cells o w kd nm ver) ?_
  intro B w1 hb hblk
  refine put_to (L := ⟨#[.agg #[.int .i64 kd, .string nm, .int .u64 ver, .int .i64 o.w.rep, .int .i64 o.w.cpu, .int .i64 o.w.mem, .slice o.w.L.ao o.w.L.la o.w.L.ca, .slice o.w.S.ao o.w.S.la o.w.S.ca, .slice o.w.T.ao o.w.T.la o.w.T.ca, .int .i64 o.w.warm, .string o.p.owner, .string o.p.node, .int .i64 o.p.phase, .int .i64 o.p.since, .int .i64 o.p.cpu, .int .i64 o.p.mem, .slice o.p.L.ao o.p.L.la o.p.L.ca, .slice o.p.S.ao o.p.S.la o.p.S.ca, .slice o.p.T.ao o.p.T.la o.p.T.ca, .int .i64 o.p.warm, .string o.n.group, .int .i64 o.n.cpu, .int .i64 o.n.mem, .slice o.n.L.ao o.n.L.la o.n.L.ca, .slice o.n.T.ao o.n.T.la o.n.T.ca, .int .i64 o.n.since, .bool o.n.closed, .int .i64 o.g.min, .int .i64 o.g.max, .int .i64 o.g.target, .int .i64 o.g.cpu, .int .i64 o.g.mem, .slice o.g.L.ao o.g.L.la o.g.L.ca, .slice o.g.T.ao o.g.T.la o.g.T.ca, .int .i64 o.g.prio, .string o.h.target, .int .i64 o.h.min, .int .i64 o.h.max, .slice o.h.M.ao o.h.M.la o.h.M.ca, .int .i64 o.h.tol, .int .i64 o.h.up.win, .int .i64 o.h.up.pick, .slice o.h.up.P.ao o.h.up.P.la o.h.up.P.ca, .int .i64 o.h.down.win, .int .i64 o.h.down.pick, .slice o.h.down.P.ao o.h.down.P.la o.h.down.P.ca, .slice o.h.past.ao o.h.past.la o.h.past.ca], .pointer (some ⟨w.heap.size, 0, none⟩), .bool false, .pointer (some ⟨B 0, 0, none⟩), .pointer (some ⟨B 1, 0, none⟩), .pointer (some ⟨B 2, 0, none⟩), .pointer (some ⟨B 3, 0, none⟩), .pointer (some ⟨B 4, 0, none⟩), undef, undef, .pointer (some ⟨w.heap.size, 3, none⟩), .agg #[.int .i64 o.w.rep, .int .i64 o.w.cpu, .int .i64 o.w.mem, .slice o.w.L.ao o.w.L.la o.w.L.ca, .slice o.w.S.ao o.w.S.la o.w.S.ca, .slice o.w.T.ao o.w.T.la o.w.T.ca, .int .i64 o.w.warm], .pointer (some ⟨w.heap.size, 10, none⟩), .agg #[.string o.p.owner, .string o.p.node, .int .i64 o.p.phase, .int .i64 o.p.since, .int .i64 o.p.cpu, .int .i64 o.p.mem, .slice o.p.L.ao o.p.L.la o.p.L.ca, .slice o.p.S.ao o.p.S.la o.p.S.ca, .slice o.p.T.ao o.p.T.la o.p.T.ca, .int .i64 o.p.warm], .pointer (some ⟨w.heap.size, 20, none⟩), .agg #[.string o.n.group, .int .i64 o.n.cpu, .int .i64 o.n.mem, .slice o.n.L.ao o.n.L.la o.n.L.ca, .slice o.n.T.ao o.n.T.la o.n.T.ca, .int .i64 o.n.since, .bool o.n.closed], .pointer (some ⟨w.heap.size, 27, none⟩), .agg #[.int .i64 o.g.min, .int .i64 o.g.max, .int .i64 o.g.target, .int .i64 o.g.cpu, .int .i64 o.g.mem, .slice o.g.L.ao o.g.L.la o.g.L.ca, .slice o.g.T.ao o.g.T.la o.g.T.ca, .int .i64 o.g.prio], .pointer (some ⟨w.heap.size, 35, none⟩), .agg #[.string o.h.target, .int .i64 o.h.min, .int .i64 o.h.max, .slice o.h.M.ao o.h.M.la o.h.M.ca, .int .i64 o.h.tol, .int .i64 o.h.up.win, .int .i64 o.h.up.pick, .slice o.h.up.P.ao o.h.up.P.la o.h.up.P.ca, .int .i64 o.h.down.win, .int .i64 o.h.down.pick, .slice o.h.down.P.ao o.h.down.P.la o.h.down.P.ca, .slice o.h.past.ao o.h.past.la o.h.past.ca], undef, undef, undef, undef, undef, undef, undef, undef, undef, undef, undef, undef, undef, undef, undef, undef, undef, undef, undef, undef, undef, undef, undef, undef, undef, undef, undef, undef, undef, undef, undef, undef, undef, undef, undef, undef, undef, undef, undef, undef, undef, undef, undef, undef, undef, undef, undef, undef, undef, undef, undef, undef], []⟩) (by kernel_rfl) ?_
  have r0 := (hblk 0 (by decide)).2
  have r1 := (hblk 1 (by decide)).2
  have r2 := (hblk 2 (by decide)).2
  have r3 := (hblk 3 (by decide)).2
  have r4 := (hblk 4 (by decide)).2
  have c0_3 : w1.cell? ⟨B 0, 3, none⟩ = some (.slice o.w.L.ao o.w.L.la o.w.L.ca) := cell_of_row _ _ _ _ _ _ r0
  have c0_4 : w1.cell? ⟨B 0, 4, none⟩ = some (.slice o.w.S.ao o.w.S.la o.w.S.ca) := cell_of_row _ _ _ _ _ _ r0
  have c0_5 : w1.cell? ⟨B 0, 5, none⟩ = some (.slice o.w.T.ao o.w.T.la o.w.T.ca) := cell_of_row _ _ _ _ _ _ r0
  have c1_6 : w1.cell? ⟨B 1, 6, none⟩ = some (.slice o.p.L.ao o.p.L.la o.p.L.ca) := cell_of_row _ _ _ _ _ _ r1
  have c1_7 : w1.cell? ⟨B 1, 7, none⟩ = some (.slice o.p.S.ao o.p.S.la o.p.S.ca) := cell_of_row _ _ _ _ _ _ r1
  have c1_8 : w1.cell? ⟨B 1, 8, none⟩ = some (.slice o.p.T.ao o.p.T.la o.p.T.ca) := cell_of_row _ _ _ _ _ _ r1
  have c2_3 : w1.cell? ⟨B 2, 3, none⟩ = some (.slice o.n.L.ao o.n.L.la o.n.L.ca) := cell_of_row _ _ _ _ _ _ r2
  have c2_4 : w1.cell? ⟨B 2, 4, none⟩ = some (.slice o.n.T.ao o.n.T.la o.n.T.ca) := cell_of_row _ _ _ _ _ _ r2
  have c3_5 : w1.cell? ⟨B 3, 5, none⟩ = some (.slice o.g.L.ao o.g.L.la o.g.L.ca) := cell_of_row _ _ _ _ _ _ r3
  have c3_6 : w1.cell? ⟨B 3, 6, none⟩ = some (.slice o.g.T.ao o.g.T.la o.g.T.ca) := cell_of_row _ _ _ _ _ _ r3
  have c4_3 : w1.cell? ⟨B 4, 3, none⟩ = some (.slice o.h.M.ao o.h.M.la o.h.M.ca) := cell_of_row _ _ _ _ _ _ r4
  have c4_7 : w1.cell? ⟨B 4, 7, none⟩ = some (.slice o.h.up.P.ao o.h.up.P.la o.h.up.P.ca) := cell_of_row _ _ _ _ _ _ r4
  have c4_10 : w1.cell? ⟨B 4, 10, none⟩ = some (.slice o.h.down.P.ao o.h.down.P.la o.h.down.P.ca) := cell_of_row _ _ _ _ _ _ r4
  have c4_11 : w1.cell? ⟨B 4, 11, none⟩ = some (.slice o.h.past.ao o.h.past.la o.h.past.ca) := cell_of_row _ _ _ _ _ _ r4
  have n0 := blk c0_4
  have n1 := blk c1_7
  have n4 := blk c4_3
  have hb0 := Below.refl w.heap.size w
  have Hb : Hid (Below w.heap.size w w1) := (hb0.alloc (Nat.le_refl _) _).trans (hb.mono (by simp))
  clear hb0 hb hblk r0 r1 r2 r3 r4
  go_wp2_with fail
  go_loop [38] (fun i => ∃ k : Nat, k ≤ 8 ∧ i = .int .i64 k ∧ (1 ≤ k → o.w.L.la ≤ 30) ∧ (2 ≤ k → o.w.T.la ≤ 30) ∧ (3 ≤ k → o.p.L.la ≤ 30) ∧ (4 ≤ k → o.p.T.la ≤ 30) ∧ (5 ≤ k → o.n.L.la ≤ 30) ∧ (6 ≤ k → o.n.T.la ≤ 30) ∧ (7 ≤ k → o.g.L.la ≤ 30) ∧ (8 ≤ k → o.g.T.la ≤ 30)) (fun i => 8 - (intOf i).toNat)
  case atStart => exact ⟨0, by omega, rfl, fun h => absurd h (by decide), fun h => absurd h (by decide), fun h => absurd h (by decide), fun h => absurd h (by decide), fun h => absurd h (by decide), fun h => absurd h (by decide), fun h => absurd h (by decide), fun h => absurd h (by decide)⟩
  case round =>
    obtain ⟨k, hk, rfl, g0, g1, g2, g3, g4, g5, g6, g7⟩ := hrel
    rcases (show k = 0 ∨ k = 1 ∨ k = 2 ∨ k = 3 ∨ k = 4 ∨ k = 5 ∨ k = 6 ∨ k = 7 ∨ k = 8 by omega) with rfl | rfl | rfl | rfl | rfl | rfl | rfl | rfl | rfl
    · go_wp2_with fail
      · go_ret
        exact ⟨⟨_, rfl, fun h => by cases h⟩, Hb.out.alloc Hb.out.size _⟩
      · go_round
        case rel => exact ⟨1, by omega, rfl, by omega, by omega, by omega, by omega, by omega, by omega, by omega, by omega⟩
        case measure => simp [intOf]
    · go_wp2_with fail
      · go_ret
        exact ⟨⟨_, rfl, fun h => by cases h⟩, Hb.out.alloc Hb.out.size _⟩
      · go_round
        case rel => exact ⟨2, by omega, rfl, by omega, by omega, by omega, by omega, by omega, by omega, by omega, by omega⟩
        case measure => simp [intOf]
    · go_wp2_with fail
      · go_ret
        exact ⟨⟨_, rfl, fun h => by cases h⟩, Hb.out.alloc Hb.out.size _⟩
      · go_round
        case rel => exact ⟨3, by omega, rfl, by omega, by omega, by omega, by omega, by omega, by omega, by omega, by omega⟩
        case measure => simp [intOf]
    · go_wp2_with fail
      · go_ret
        exact ⟨⟨_, rfl, fun h => by cases h⟩, Hb.out.alloc Hb.out.size _⟩
      · go_round
        case rel => exact ⟨4, by omega, rfl, by omega, by omega, by omega, by omega, by omega, by omega, by omega, by omega⟩
        case measure => simp [intOf]
    · go_wp2_with fail
      · go_ret
        exact ⟨⟨_, rfl, fun h => by cases h⟩, Hb.out.alloc Hb.out.size _⟩
      · go_round
        case rel => exact ⟨5, by omega, rfl, by omega, by omega, by omega, by omega, by omega, by omega, by omega, by omega⟩
        case measure => simp [intOf]
    · go_wp2_with fail
      · go_ret
        exact ⟨⟨_, rfl, fun h => by cases h⟩, Hb.out.alloc Hb.out.size _⟩
      · go_round
        case rel => exact ⟨6, by omega, rfl, by omega, by omega, by omega, by omega, by omega, by omega, by omega, by omega⟩
        case measure => simp [intOf]
    · go_wp2_with fail
      · go_ret
        exact ⟨⟨_, rfl, fun h => by cases h⟩, Hb.out.alloc Hb.out.size _⟩
      · go_round
        case rel => exact ⟨7, by omega, rfl, by omega, by omega, by omega, by omega, by omega, by omega, by omega, by omega⟩
        case measure => simp [intOf]
    · go_wp2_with fail
      · go_ret
        exact ⟨⟨_, rfl, fun h => by cases h⟩, Hb.out.alloc Hb.out.size _⟩
      · go_round
        case rel => exact ⟨8, by omega, rfl, by omega, by omega, by omega, by omega, by omega, by omega, by omega, by omega⟩
        case measure => simp [intOf]
    · go_wp2_with fail
      go_ret
      exact ⟨⟨_, rfl, fun h => ⟨g0 (by decide), g1 (by decide), g2 (by decide), g3 (by decide), g4 (by decide), g5 (by decide), g6 (by decide), g7 (by decide), few_sum hr h⟩⟩, Hb.out.alloc Hb.out.size _⟩
end Go.Proofs.Ytpbppgfogepjeaa
