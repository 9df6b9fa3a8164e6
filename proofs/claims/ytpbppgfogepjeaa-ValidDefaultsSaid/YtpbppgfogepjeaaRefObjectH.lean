/- The contract of the reference's Object. Condition: the slices read; the text's length is a number. -/
import Derived.Test.YtpbppgfogepjeaaMulti2M
import Derived.Test.YtpbppgfogepjeaaCheckSpecM
import Derived.Test.YtpbppgfogepjeaaFive
import Derived.Laws.Rows
namespace Go.Proofs.Ytpbppgfogepjeaa
open Go.ChangeShapes Go.WideShapes Go.ChangeAt Go.RowKit Go.Deep


set_option maxRecDepth 100000 in
set_option maxHeartbeats 12800000 in
theorem object_h (kd : Int) (hk : kd ≠ 0 ∧ kd ≠ 1 ∧ kd ≠ 2 ∧ kd ≠ 3) (nm : ByteArray) (ver : Int) (hv : 0 ≤ ver ∧ ver ≤ 18446744073709551615) (o : ShapesV) (w : World) (h : ShapesAt w o) (hm : (hpaS (headS kd nm ver) o.h).size ≤ 9223372036854775807) :
    Calls Try.prog 28 #[.agg #[.int .i64 kd, .string nm, .int .u64 ver, .int .i64 o.w.rep, .int .i64 o.w.cpu, .int .i64 o.w.mem, .slice o.w.L.ao o.w.L.la o.w.L.ca, .slice o.w.S.ao o.w.S.la o.w.S.ca, .slice o.w.T.ao o.w.T.la o.w.T.ca, .int .i64 o.w.warm, .string o.p.owner, .string o.p.node, .int .i64 o.p.phase, .int .i64 o.p.since, .int .i64 o.p.cpu, .int .i64 o.p.mem, .slice o.p.L.ao o.p.L.la o.p.L.ca, .slice o.p.S.ao o.p.S.la o.p.S.ca, .slice o.p.T.ao o.p.T.la o.p.T.ca, .int .i64 o.p.warm, .string o.n.group, .int .i64 o.n.cpu, .int .i64 o.n.mem, .slice o.n.L.ao o.n.L.la o.n.L.ca, .slice o.n.T.ao o.n.T.la o.n.T.ca, .int .i64 o.n.since, .bool o.n.closed, .int .i64 o.g.min, .int .i64 o.g.max, .int .i64 o.g.target, .int .i64 o.g.cpu, .int .i64 o.g.mem, .slice o.g.L.ao o.g.L.la o.g.L.ca, .slice o.g.T.ao o.g.T.la o.g.T.ca, .int .i64 o.g.prio, .string o.h.target, .int .i64 o.h.min, .int .i64 o.h.max, .slice o.h.M.ao o.h.M.la o.h.M.ca, .int .i64 o.h.tol, .int .i64 o.h.up.win, .int .i64 o.h.up.pick, .slice o.h.up.P.ao o.h.up.P.la o.h.up.P.ca, .int .i64 o.h.down.win, .int .i64 o.h.down.pick, .slice o.h.down.P.ao o.h.down.P.la o.h.down.P.ca, .slice o.h.past.ao o.h.past.la o.h.past.ca]] w fun e w' => e = .returned (.string (hpaS (headS kd nm ver) o.h)) ∧ Below w.heap.size w w' := by
  have q0 : (kd == 0) = false := by simpa using hk.1
  have q1 : (kd == 1) = false := by simpa using hk.2.1
  have q2 : (kd == 2) = false := by simpa using hk.2.2.1
  have q3 : (kd == 3) = false := by simpa using hk.2.2.2
  have TM := Lib.hid hm
  clear hk
  have Z := Nat.le_trans (hpaS_1 (headS kd nm ver) o.h) hm
  unfold hpa1S at Z
  rw [ByteArray.size_append, ByteArray.size_append, ByteArray.size_append, ByteArray.size_append, textS_size, intS_size, intS_size, putS_size, headS_size] at Z
  have ZZ := Lib.hid Z
  clear Z
  clear hm
  have HV := Lib.hid hv
  clear hv
  obtain ⟨hd, hhd⟩ : ∃ x, headS kd nm ver = x := ⟨_, rfl⟩
  rw [hhd] at TM ⊢
  have HH2 : Hid (((putS (u64 kd) 1 ++ textS nm) ++ putS ver 8) = hd) := hhd
  have hhs : hd.size = 10 + nm.size := by rw [← hhd]; exact headS_size _ _ _
  have HHS := Lib.hid hhs
  clear hhd hhs
  go_enter Try.func28, Try.ntmps28
  go_upto_region 1 with fail
  have hb0 : Below w.heap.size w (w.alloc (.cells #[.int .i64 kd, .string nm, .int .u64 ver, .int .i64 o.w.rep, .int .i64 o.w.cpu, .int .i64 o.w.mem, .slice o.w.L.ao o.w.L.la o.w.L.ca, .slice o.w.S.ao o.w.S.la o.w.S.ca, .slice o.w.T.ao o.w.T.la o.w.T.ca, .int .i64 o.w.warm, .string o.p.owner, .string o.p.node, .int .i64 o.p.phase, .int .i64 o.p.since, .int .i64 o.p.cpu, .int .i64 o.p.mem, .slice o.p.L.ao o.p.L.la o.p.L.ca, .slice o.p.S.ao o.p.S.la o.p.S.ca, .slice o.p.T.ao o.p.T.la o.p.T.ca, .int .i64 o.p.warm, .string o.n.group, .int .i64 o.n.cpu, .int .i64 o.n.mem, .slice o.n.L.ao o.n.L.la o.n.L.ca, .slice o.n.T.ao o.n.T.la o.n.T.ca, .int .i64 o.n.since, .bool o.n.closed, .int .i64 o.g.min, .int .i64 o.g.max, .int .i64 o.g.target, .int .i64 o.g.cpu, .int .i64 o.g.mem, .slice o.g.L.ao o.g.L.la o.g.L.ca, .slice o.g.T.ao o.g.T.la o.g.T.ca, .int .i64 o.g.prio, .string o.h.target, .int .i64 o.h.min, .int .i64 o.h.max, .slice o.h.M.ao o.h.M.la o.h.M.ca, .int .i64 o.h.tol, .int .i64 o.h.up.win, .int .i64 o.h.up.pick, .slice o.h.up.P.ao o.h.up.P.la o.h.up.P.ca, .int .i64 o.h.down.win, .int .i64 o.h.down.pick, .slice o.h.down.P.ao o.h.down.P.la o.h.down.P.ca, .slice o.h.past.ao o.h.past.la o.h.past.ca] 44)) := (Below.refl w.heap.size w).alloc (Nat.le_refl _) _
  have R : Hid (RowAt (w.alloc (.cells #[.int .i64 kd, .string nm, .int .u64 ver, .int .i64 o.w.rep, .int .i64 o.w.cpu, .int .i64 o.w.mem, .slice o.w.L.ao o.w.L.la o.w.L.ca, .slice o.w.S.ao o.w.S.la o.w.S.ca, .slice o.w.T.ao o.w.T.la o.w.T.ca, .int .i64 o.w.warm, .string o.p.owner, .string o.p.node, .int .i64 o.p.phase, .int .i64 o.p.since, .int .i64 o.p.cpu, .int .i64 o.p.mem, .slice o.p.L.ao o.p.L.la o.p.L.ca, .slice o.p.S.ao o.p.S.la o.p.S.ca, .slice o.p.T.ao o.p.T.la o.p.T.ca, .int .i64 o.p.warm, .string o.n.group, .int .i64 o.n.cpu, .int .i64 o.n.mem, .slice o.n.L.ao o.n.L.la o.n.L.ca, .slice o.n.T.ao o.n.T.la o.n.T.ca, .int .i64 o.n.since, .bool o.n.closed, .int .i64 o.g.min, .int .i64 o.g.max, .int .i64 o.g.target, .int .i64 o.g.cpu, .int .i64 o.g.mem, .slice o.g.L.ao o.g.L.la o.g.L.ca, .slice o.g.T.ao o.g.T.la o.g.T.ca, .int .i64 o.g.prio, .string o.h.target, .int .i64 o.h.min, .int .i64 o.h.max, .slice o.h.M.ao o.h.M.la o.h.M.ca, .int .i64 o.h.tol, .int .i64 o.h.up.win, .int .i64 o.h.up.pick, .slice o.h.up.P.ao o.h.up.P.la o.h.up.P.ca, .int .i64 o.h.down.win, .int .i64 o.h.down.pick, .slice o.h.down.P.ao o.h.down.P.la o.h.down.P.ca, .slice o.h.past.ao o.h.past.la o.h.past.ca] 44)) w.heap.size [.int .i64 kd, .string nm, .int .u64 ver, .int .i64 o.w.rep, .int .i64 o.w.cpu, .int .i64 o.w.mem, .slice o.w.L.ao o.w.L.la o.w.L.ca, .slice o.w.S.ao o.w.S.la o.w.S.ca, .slice o.w.T.ao o.w.T.la o.w.T.ca, .int .i64 o.w.warm, .string o.p.owner, .string o.p.node, .int .i64 o.p.phase, .int .i64 o.p.since, .int .i64 o.p.cpu, .int .i64 o.p.mem, .slice o.p.L.ao o.p.L.la o.p.L.ca, .slice o.p.S.ao o.p.S.la o.p.S.ca, .slice o.p.T.ao o.p.T.la o.p.T.ca, .int .i64 o.p.warm, .string o.n.group, .int .i64 o.n.cpu, .int .i64 o.n.mem, .slice o.n.L.ao o.n.L.la o.n.L.ca, .slice o.n.T.ao o.n.T.la o.n.T.ca, .int .i64 o.n.since, .bool o.n.closed, .int .i64 o.g.min, .int .i64 o.g.max, .int .i64 o.g.target, .int .i64 o.g.cpu, .int .i64 o.g.mem, .slice o.g.L.ao o.g.L.la o.g.L.ca, .slice o.g.T.ao o.g.T.la o.g.T.ca, .int .i64 o.g.prio, .string o.h.target, .int .i64 o.h.min, .int .i64 o.h.max, .slice o.h.M.ao o.h.M.la o.h.M.ca, .int .i64 o.h.tol, .int .i64 o.h.up.win, .int .i64 o.h.up.pick, .slice o.h.up.P.ao o.h.up.P.la o.h.up.P.ca, .int .i64 o.h.down.win, .int .i64 o.h.down.pick, .slice o.h.down.P.ao o.h.down.P.la o.h.down.P.ca, .slice o.h.past.ao o.h.past.la o.h.past.ca]) := RowAt.of_heap (t := 44) (fr := (0, 0)) (by rw [heap_alloc_new])
  have kk : (w.alloc (.cells #[.int .i64 kd, .string nm, .int .u64 ver, .int .i64 o.w.rep, .int .i64 o.w.cpu, .int .i64 o.w.mem, .slice o.w.L.ao o.w.L.la o.w.L.ca, .slice o.w.S.ao o.w.S.la o.w.S.ca, .slice o.w.T.ao o.w.T.la o.w.T.ca, .int .i64 o.w.warm, .string o.p.owner, .string o.p.node, .int .i64 o.p.phase, .int .i64 o.p.since, .int .i64 o.p.cpu, .int .i64 o.p.mem, .slice o.p.L.ao o.p.L.la o.p.L.ca, .slice o.p.S.ao o.p.S.la o.p.S.ca, .slice o.p.T.ao o.p.T.la o.p.T.ca, .int .i64 o.p.warm, .string o.n.group, .int .i64 o.n.cpu, .int .i64 o.n.mem, .slice o.n.L.ao o.n.L.la o.n.L.ca, .slice o.n.T.ao o.n.T.la o.n.T.ca, .int .i64 o.n.since, .bool o.n.closed, .int .i64 o.g.min, .int .i64 o.g.max, .int .i64 o.g.target, .int .i64 o.g.cpu, .int .i64 o.g.mem, .slice o.g.L.ao o.g.L.la o.g.L.ca, .slice o.g.T.ao o.g.T.la o.g.T.ca, .int .i64 o.g.prio, .string o.h.target, .int .i64 o.h.min, .int .i64 o.h.max, .slice o.h.M.ao o.h.M.la o.h.M.ca, .int .i64 o.h.tol, .int .i64 o.h.up.win, .int .i64 o.h.up.pick, .slice o.h.up.P.ao o.h.up.P.la o.h.up.P.ca, .int .i64 o.h.down.win, .int .i64 o.h.down.pick, .slice o.h.down.P.ao o.h.down.P.la o.h.down.P.ca, .slice o.h.past.ao o.h.past.la o.h.past.ca] 44)).cell? ⟨w.heap.size, 0, none⟩ = some (.int .i64 kd) := R.out 0 _ rfl
  generalize w.alloc (.cells #[.int .i64 kd, .string nm, .int .u64 ver, .int .i64 o.w.rep, .int .i64 o.w.cpu, .int .i64 o.w.mem, .slice o.w.L.ao o.w.L.la o.w.L.ca, .slice o.w.S.ao o.w.S.la o.w.S.ca, .slice o.w.T.ao o.w.T.la o.w.T.ca, .int .i64 o.w.warm, .string o.p.owner, .string o.p.node, .int .i64 o.p.phase, .int .i64 o.p.since, .int .i64 o.p.cpu, .int .i64 o.p.mem, .slice o.p.L.ao o.p.L.la o.p.L.ca, .slice o.p.S.ao o.p.S.la o.p.S.ca, .slice o.p.T.ao o.p.T.la o.p.T.ca, .int .i64 o.p.warm, .string o.n.group, .int .i64 o.n.cpu, .int .i64 o.n.mem, .slice o.n.L.ao o.n.L.la o.n.L.ca, .slice o.n.T.ao o.n.T.la o.n.T.ca, .int .i64 o.n.since, .bool o.n.closed, .int .i64 o.g.min, .int .i64 o.g.max, .int .i64 o.g.target, .int .i64 o.g.cpu, .int .i64 o.g.mem, .slice o.g.L.ao o.g.L.la o.g.L.ca, .slice o.g.T.ao o.g.T.la o.g.T.ca, .int .i64 o.g.prio, .string o.h.target, .int .i64 o.h.min, .int .i64 o.h.max, .slice o.h.M.ao o.h.M.la o.h.M.ca, .int .i64 o.h.tol, .int .i64 o.h.up.win, .int .i64 o.h.up.pick, .slice o.h.up.P.ao o.h.up.P.la o.h.up.P.ca, .int .i64 o.h.down.win, .int .i64 o.h.down.pick, .slice o.h.down.P.ao o.h.down.P.la o.h.down.P.ca, .slice o.h.past.ao o.h.past.la o.h.past.ca] 44) = w1 at hb0 R kk ⊢
  generalize Value.agg #[.int .i64 kd, .string nm, .int .u64 ver, .int .i64 o.w.rep, .int .i64 o.w.cpu, .int .i64 o.w.mem, .slice o.w.L.ao o.w.L.la o.w.L.ca, .slice o.w.S.ao o.w.S.la o.w.S.ca, .slice o.w.T.ao o.w.T.la o.w.T.ca, .int .i64 o.w.warm, .string o.p.owner, .string o.p.node, .int .i64 o.p.phase, .int .i64 o.p.since, .int .i64 o.p.cpu, .int .i64 o.p.mem, .slice o.p.L.ao o.p.L.la o.p.L.ca, .slice o.p.S.ao o.p.S.la o.p.S.ca, .slice o.p.T.ao o.p.T.la o.p.T.ca, .int .i64 o.p.warm, .string o.n.group, .int .i64 o.n.cpu, .int .i64 o.n.mem, .slice o.n.L.ao o.n.L.la o.n.L.ca, .slice o.n.T.ao o.n.T.la o.n.T.ca, .int .i64 o.n.since, .bool o.n.closed, .int .i64 o.g.min, .int .i64 o.g.max, .int .i64 o.g.target, .int .i64 o.g.cpu, .int .i64 o.g.mem, .slice o.g.L.ao o.g.L.la o.g.L.ca, .slice o.g.T.ao o.g.T.la o.g.T.ca, .int .i64 o.g.prio, .string o.h.target, .int .i64 o.h.min, .int .i64 o.h.max, .slice o.h.M.ao o.h.M.la o.h.M.ca, .int .i64 o.h.tol, .int .i64 o.h.up.win, .int .i64 o.h.up.pick, .slice o.h.up.P.ao o.h.up.P.la o.h.up.P.ca, .int .i64 o.h.down.win, .int .i64 o.h.down.pick, .slice o.h.down.P.ao o.h.down.P.la o.h.down.P.ca, .slice o.h.past.ao o.h.past.la o.h.past.ca] = v0
  have HS := Lib.hid (h.b hb0)
  have Hb := Lib.hid hb0
  obtain ⟨bo, hbo⟩ : ∃ n, w.heap.size = n := ⟨_, rfl⟩
  rw [hbo] at R kk ⊢
  clear h hb0 hbo
  have K0 := Lib.hid kk
  clear kk
  have hBlk : BlkOk (fun k => (bo, 0)) w1 [(0, [.int .i64 kd, .string nm, .int .u64 ver, .int .i64 o.w.rep, .int .i64 o.w.cpu, .int .i64 o.w.mem, .slice o.w.L.ao o.w.L.la o.w.L.ca, .slice o.w.S.ao o.w.S.la o.w.S.ca, .slice o.w.T.ao o.w.T.la o.w.T.ca, .int .i64 o.w.warm, .string o.p.owner, .string o.p.node, .int .i64 o.p.phase, .int .i64 o.p.since, .int .i64 o.p.cpu, .int .i64 o.p.mem, .slice o.p.L.ao o.p.L.la o.p.L.ca, .slice o.p.S.ao o.p.S.la o.p.S.ca, .slice o.p.T.ao o.p.T.la o.p.T.ca, .int .i64 o.p.warm, .string o.n.group, .int .i64 o.n.cpu, .int .i64 o.n.mem, .slice o.n.L.ao o.n.L.la o.n.L.ca, .slice o.n.T.ao o.n.T.la o.n.T.ca, .int .i64 o.n.since, .bool o.n.closed, .int .i64 o.g.min, .int .i64 o.g.max, .int .i64 o.g.target, .int .i64 o.g.cpu, .int .i64 o.g.mem, .slice o.g.L.ao o.g.L.la o.g.L.ca, .slice o.g.T.ao o.g.T.la o.g.T.ca, .int .i64 o.g.prio, .string o.h.target, .int .i64 o.h.min, .int .i64 o.h.max, .slice o.h.M.ao o.h.M.la o.h.M.ca, .int .i64 o.h.tol, .int .i64 o.h.up.win, .int .i64 o.h.up.pick, .slice o.h.up.P.ao o.h.up.P.la o.h.up.P.ca, .int .i64 o.h.down.win, .int .i64 o.h.down.pick, .slice o.h.down.P.ao o.h.down.P.la o.h.down.P.ca, .slice o.h.past.ao o.h.past.la o.h.past.ca])] := (blk_cons (k := 0) R.out.from_ blk_nil)
  refine region_chain_all (N := 242) (Kept w1) (fun k => (bo, 0)) ⟨objSta, [(0, [.int .i64 kd, .string nm, .int .u64 ver, .int .i64 o.w.rep, .int .i64 o.w.cpu, .int .i64 o.w.mem, .slice o.w.L.ao o.w.L.la o.w.L.ca, .slice o.w.S.ao o.w.S.la o.w.S.ca, .slice o.w.T.ao o.w.T.la o.w.T.ca, .int .i64 o.w.warm, .string o.p.owner, .string o.p.node, .int .i64 o.p.phase, .int .i64 o.p.since, .int .i64 o.p.cpu, .int .i64 o.p.mem, .slice o.p.L.ao o.p.L.la o.p.L.ca, .slice o.p.S.ao o.p.S.la o.p.S.ca, .slice o.p.T.ao o.p.T.la o.p.T.ca, .int .i64 o.p.warm, .string o.n.group, .int .i64 o.n.cpu, .int .i64 o.n.mem, .slice o.n.L.ao o.n.L.la o.n.L.ca, .slice o.n.T.ao o.n.T.la o.n.T.ca, .int .i64 o.n.since, .bool o.n.closed, .int .i64 o.g.min, .int .i64 o.g.max, .int .i64 o.g.target, .int .i64 o.g.cpu, .int .i64 o.g.mem, .slice o.g.L.ao o.g.L.la o.g.L.ca, .slice o.g.T.ao o.g.T.la o.g.T.ca, .int .i64 o.g.prio, .string o.h.target, .int .i64 o.h.min, .int .i64 o.h.max, .slice o.h.M.ao o.h.M.la o.h.M.ca, .int .i64 o.h.tol, .int .i64 o.h.up.win, .int .i64 o.h.up.pick, .slice o.h.up.P.ao o.h.up.P.la o.h.up.P.ca, .int .i64 o.h.down.win, .int .i64 o.h.down.pick, .slice o.h.down.P.ao o.h.down.P.la o.h.down.P.ca, .slice o.h.past.ao o.h.past.la o.h.past.ca])], [(16, .string (putS (u64 kd) 1)), (19, .string (textS nm)), (23, .string (putS ver 8))], []⟩ (by kernel_rfl) (by as_aux_lemma => kernel_rfl) (Kept.drawn w1) (tab_ok objSta_ok hBlk)
    [(1, .ptr 0 0)] [(1, .ptr 0 0), (3, .val (.string ((putS (u64 kd) 1 ++ textS nm) ++ putS ver 8)))] [.cat (putS (u64 kd) 1 ++ textS nm) (putS ver 8), .call 57 [.val (.int .u64 ver), .val (.int .i64 8)] (.string (putS ver 8)), .cat (putS (u64 kd) 1) (textS nm), .call 58 [.val (.string nm)] (.string (textS nm)), .call 57 [.val (.int .u64 (u64 kd)), .val (.int .i64 1)] (.string (putS (u64 kd) 1))] rfl (by as_aux_lemma => kernel_rfl) (by as_aux_lemma => kernel_rfl) ?_ none (by as_aux_lemma => kernel_rfl) (fun f => [f 0, .pointer (some ⟨bo, 0, none⟩), f 2, .string ((putS (u64 kd) 1 ++ textS nm) ++ putS ver 8), f 4, f 5, f 6, f 7, f 8, f 9, f 10, f 11, f 12, f 13, f 14, f 15, f 16, f 17, f 18, f 19, f 20, f 21, f 22, f 23, f 24, f 25, f 26, f 27, f 28, f 29, f 30, f 31, f 32, f 33, f 34, f 35, f 36, f 37, f 38, f 39, f 40, f 41, f 42, f 43, f 44, f 45, f 46, f 47, f 48, f 49, f 50, f 51, f 52, f 53, f 54, f 55, f 56, f 57, f 58, f 59, f 60, f 61, f 62, f 63, f 64, f 65, f 66, f 67, f 68, f 69, f 70, f 71, f 72, f 73, f 74, f 75, f 76, f 77, f 78, f 79, f 80, f 81, f 82, f 83, f 84, f 85, f 86, f 87, f 88, f 89, f 90, f 91, f 92, f 93, f 94, f 95, f 96, f 97, f 98, f 99, f 100, f 101, f 102, f 103, f 104, f 105, f 106, f 107, f 108, f 109, f 110, f 111, f 112, f 113, f 114, f 115, f 116, f 117, f 118, f 119, f 120, f 121, f 122, f 123, f 124, f 125, f 126, f 127, f 128, f 129, f 130, f 131, f 132, f 133, f 134, f 135, f 136, f 137, f 138, f 139, f 140, f 141, f 142, f 143, f 144, f 145, f 146, f 147, f 148, f 149, f 150, f 151, f 152, f 153, f 154, f 155, f 156, f 157, f 158, f 159, f 160, f 161, f 162, f 163, f 164, f 165, f 166, f 167, f 168, f 169, f 170, f 171, f 172, f 173, f 174, f 175, f 176, f 177, f 178, f 179, f 180, f 181, f 182, f 183, f 184, f 185, f 186, f 187, f 188, f 189, f 190, f 191, f 192, f 193, f 194, f 195, f 196, f 197, f 198, f 199, f 200, f 201, f 202, f 203, f 204, f 205, f 206, f 207, f 208, f 209, f 210, f 211, f 212, f 213, f 214, f 215, f 216, f 217, f 218, f 219, f 220, f 221, f 222, f 223, f 224, f 225, f 226, f 227, f 228, f 229, f 230, f 231, f 232, f 233, f 234, f 235, f 236, f 237, f 238, f 239, f 240, f 241]) (fun f => by as_aux_lemma => kernel_rfl) ?_
  · clear hBlk
    exact (ob_cons (show _ + _ ≤ _ by have := ZZ.out; rw [ByteArray.size_append, putS_size, textS_size, putS_size]; omega) (ob_cons (ob_kept Try.func57 (by kernel_rfl) rfl fun w' _ => put_any ver 8 (by decide) HV.out.1 HV.out.2 w') (ob_cons (show _ + _ ≤ _ by have := ZZ.out; rw [putS_size, textS_size]; omega) (ob_cons (ob_kept Try.func58 (by kernel_rfl) rfl fun w' _ => text_any _ (by have := ZZ.out; omega) w') (ob_cons (ob_kept Try.func57 (by kernel_rfl) rfl fun w' _ => put_any _ 1 (by decide) (u64_b _).1 (u64_b _).2 w') ob_nil)))))
  intro f w2 hb2
  clear hBlk
  replace R := Lib.hid (RowAt.below hb2 rfl R.out)
  replace HS := Lib.hid (HS.out.b hb2)
  replace Hb := Lib.hid (Hb.out.trans (Below.mono hb2 Hb.out.size))
  have kk := Below.cell_some hb2 K0.out
  clear hb2 K0 HV
  rw [HH2.out]
  clear HH2
  go_upto_region 15 with fail
  clear kk
  have hBlk : BlkOk (fun k => (bo, 0)) w2 [(0, [.int .i64 kd, .string nm, .int .u64 ver, .int .i64 o.w.rep, .int .i64 o.w.cpu, .int .i64 o.w.mem, .slice o.w.L.ao o.w.L.la o.w.L.ca, .slice o.w.S.ao o.w.S.la o.w.S.ca, .slice o.w.T.ao o.w.T.la o.w.T.ca, .int .i64 o.w.warm, .string o.p.owner, .string o.p.node, .int .i64 o.p.phase, .int .i64 o.p.since, .int .i64 o.p.cpu, .int .i64 o.p.mem, .slice o.p.L.ao o.p.L.la o.p.L.ca, .slice o.p.S.ao o.p.S.la o.p.S.ca, .slice o.p.T.ao o.p.T.la o.p.T.ca, .int .i64 o.p.warm, .string o.n.group, .int .i64 o.n.cpu, .int .i64 o.n.mem, .slice o.n.L.ao o.n.L.la o.n.L.ca, .slice o.n.T.ao o.n.T.la o.n.T.ca, .int .i64 o.n.since, .bool o.n.closed, .int .i64 o.g.min, .int .i64 o.g.max, .int .i64 o.g.target, .int .i64 o.g.cpu, .int .i64 o.g.mem, .slice o.g.L.ao o.g.L.la o.g.L.ca, .slice o.g.T.ao o.g.T.la o.g.T.ca, .int .i64 o.g.prio, .string o.h.target, .int .i64 o.h.min, .int .i64 o.h.max, .slice o.h.M.ao o.h.M.la o.h.M.ca, .int .i64 o.h.tol, .int .i64 o.h.up.win, .int .i64 o.h.up.pick, .slice o.h.up.P.ao o.h.up.P.la o.h.up.P.ca, .int .i64 o.h.down.win, .int .i64 o.h.down.pick, .slice o.h.down.P.ao o.h.down.P.la o.h.down.P.ca, .slice o.h.past.ao o.h.past.la o.h.past.ca])] := (blk_cons (k := 0) R.out.from_ blk_nil)
  refine region_chain (N := 242) (Kept w2) (fun k => (bo, 0)) ⟨objSta, [(0, [.int .i64 kd, .string nm, .int .u64 ver, .int .i64 o.w.rep, .int .i64 o.w.cpu, .int .i64 o.w.mem, .slice o.w.L.ao o.w.L.la o.w.L.ca, .slice o.w.S.ao o.w.S.la o.w.S.ca, .slice o.w.T.ao o.w.T.la o.w.T.ca, .int .i64 o.w.warm, .string o.p.owner, .string o.p.node, .int .i64 o.p.phase, .int .i64 o.p.since, .int .i64 o.p.cpu, .int .i64 o.p.mem, .slice o.p.L.ao o.p.L.la o.p.L.ca, .slice o.p.S.ao o.p.S.la o.p.S.ca, .slice o.p.T.ao o.p.T.la o.p.T.ca, .int .i64 o.p.warm, .string o.n.group, .int .i64 o.n.cpu, .int .i64 o.n.mem, .slice o.n.L.ao o.n.L.la o.n.L.ca, .slice o.n.T.ao o.n.T.la o.n.T.ca, .int .i64 o.n.since, .bool o.n.closed, .int .i64 o.g.min, .int .i64 o.g.max, .int .i64 o.g.target, .int .i64 o.g.cpu, .int .i64 o.g.mem, .slice o.g.L.ao o.g.L.la o.g.L.ca, .slice o.g.T.ao o.g.T.la o.g.T.ca, .int .i64 o.g.prio, .string o.h.target, .int .i64 o.h.min, .int .i64 o.h.max, .slice o.h.M.ao o.h.M.la o.h.M.ca, .int .i64 o.h.tol, .int .i64 o.h.up.win, .int .i64 o.h.up.pick, .slice o.h.up.P.ao o.h.up.P.la o.h.up.P.ca, .int .i64 o.h.down.win, .int .i64 o.h.down.pick, .slice o.h.down.P.ao o.h.down.P.la o.h.down.P.ca, .slice o.h.past.ao o.h.past.la o.h.past.ca])], [], []⟩ 2 (Kept.refl w2) (tab_ok objSta_ok hBlk)
    [(1, .ptr 0 0), (3, .val (.string hd))] [(1, .ptr 0 0), (3, .val (.string hd)), (160, .val (.agg #[.string o.h.target, .int .i64 o.h.min, .int .i64 o.h.max, .slice o.h.M.ao o.h.M.la o.h.M.ca, .int .i64 o.h.tol, .int .i64 o.h.up.win, .int .i64 o.h.up.pick, .slice o.h.up.P.ao o.h.up.P.la o.h.up.P.ca, .int .i64 o.h.down.win, .int .i64 o.h.down.pick, .slice o.h.down.P.ao o.h.down.P.la o.h.down.P.ca, .slice o.h.past.ao o.h.past.la o.h.past.ca]))] [] rfl (by as_aux_lemma => kernel_rfl) (by as_aux_lemma => kernel_rfl) ?_ none (by as_aux_lemma => kernel_rfl) (fun f3 => [f3 0, .pointer (some ⟨bo, 0, none⟩), f3 2, .string hd, f3 4, f3 5, f3 6, f3 7, f3 8, f3 9, f3 10, f3 11, f3 12, f3 13, f3 14, f3 15, f3 16, f3 17, f3 18, f3 19, f3 20, f3 21, f3 22, f3 23, f3 24, f3 25, f3 26, f3 27, f3 28, f3 29, f3 30, f3 31, f3 32, f3 33, f3 34, f3 35, f3 36, f3 37, f3 38, f3 39, f3 40, f3 41, f3 42, f3 43, f3 44, f3 45, f3 46, f3 47, f3 48, f3 49, f3 50, f3 51, f3 52, f3 53, f3 54, f3 55, f3 56, f3 57, f3 58, f3 59, f3 60, f3 61, f3 62, f3 63, f3 64, f3 65, f3 66, f3 67, f3 68, f3 69, f3 70, f3 71, f3 72, f3 73, f3 74, f3 75, f3 76, f3 77, f3 78, f3 79, f3 80, f3 81, f3 82, f3 83, f3 84, f3 85, f3 86, f3 87, f3 88, f3 89, f3 90, f3 91, f3 92, f3 93, f3 94, f3 95, f3 96, f3 97, f3 98, f3 99, f3 100, f3 101, f3 102, f3 103, f3 104, f3 105, f3 106, f3 107, f3 108, f3 109, f3 110, f3 111, f3 112, f3 113, f3 114, f3 115, f3 116, f3 117, f3 118, f3 119, f3 120, f3 121, f3 122, f3 123, f3 124, f3 125, f3 126, f3 127, f3 128, f3 129, f3 130, f3 131, f3 132, f3 133, f3 134, f3 135, f3 136, f3 137, f3 138, f3 139, f3 140, f3 141, f3 142, f3 143, f3 144, f3 145, f3 146, f3 147, f3 148, f3 149, f3 150, f3 151, f3 152, f3 153, f3 154, f3 155, f3 156, f3 157, f3 158, f3 159, .agg #[.string o.h.target, .int .i64 o.h.min, .int .i64 o.h.max, .slice o.h.M.ao o.h.M.la o.h.M.ca, .int .i64 o.h.tol, .int .i64 o.h.up.win, .int .i64 o.h.up.pick, .slice o.h.up.P.ao o.h.up.P.la o.h.up.P.ca, .int .i64 o.h.down.win, .int .i64 o.h.down.pick, .slice o.h.down.P.ao o.h.down.P.la o.h.down.P.ca, .slice o.h.past.ao o.h.past.la o.h.past.ca], f3 161, f3 162, f3 163, f3 164, f3 165, f3 166, f3 167, f3 168, f3 169, f3 170, f3 171, f3 172, f3 173, f3 174, f3 175, f3 176, f3 177, f3 178, f3 179, f3 180, f3 181, f3 182, f3 183, f3 184, f3 185, f3 186, f3 187, f3 188, f3 189, f3 190, f3 191, f3 192, f3 193, f3 194, f3 195, f3 196, f3 197, f3 198, f3 199, f3 200, f3 201, f3 202, f3 203, f3 204, f3 205, f3 206, f3 207, f3 208, f3 209, f3 210, f3 211, f3 212, f3 213, f3 214, f3 215, f3 216, f3 217, f3 218, f3 219, f3 220, f3 221, f3 222, f3 223, f3 224, f3 225, f3 226, f3 227, f3 228, f3 229, f3 230, f3 231, f3 232, f3 233, f3 234, f3 235, f3 236, f3 237, f3 238, f3 239, f3 240, f3 241]) (fun f3 => by as_aux_lemma => kernel_rfl) ?_
  · clear hBlk
    exact ob_nil
  intro f3 w4 hb4
  clear hBlk
  simp only [List.drop_succ_cons, List.drop_zero]
  replace HS := Lib.hid (HS.out.b hb4)
  replace Hb := Lib.hid (Hb.out.trans (Below.mono hb4 Hb.out.size))
  clear hb4 R
  refine wpList_var aggHpa rfl rfl rfl _ _ rfl rfl #[.string o.h.target, .int .i64 o.h.min, .int .i64 o.h.max, .slice o.h.M.ao o.h.M.la o.h.M.ca, .int .i64 o.h.tol, .int .i64 o.h.up.win, .int .i64 o.h.up.pick, .slice o.h.up.P.ao o.h.up.P.la o.h.up.P.ca, .int .i64 o.h.down.win, .int .i64 o.h.down.pick, .slice o.h.down.P.ao o.h.down.P.la o.h.down.P.ca, .slice o.h.past.ao o.h.past.la o.h.past.ca] rfl rfl rfl rfl ?_
  refine wpList_nil (act_to (L := ⟨#[f3 0, .pointer (some ⟨bo, 0, none⟩), f3 2, .string hd, f3 4, f3 5, f3 6, f3 7, .pointer (some ⟨w4.heap.size, 0, none⟩), f3 9, f3 10, f3 11, f3 12, f3 13, f3 14, f3 15, f3 16, f3 17, f3 18, f3 19, f3 20, f3 21, f3 22, f3 23, f3 24, f3 25, f3 26, f3 27, f3 28, f3 29, f3 30, f3 31, f3 32, f3 33, f3 34, f3 35, f3 36, f3 37, f3 38, f3 39, f3 40, f3 41, f3 42, f3 43, f3 44, f3 45, f3 46, f3 47, f3 48, f3 49, f3 50, f3 51, f3 52, f3 53, f3 54, f3 55, f3 56, f3 57, f3 58, f3 59, f3 60, f3 61, f3 62, f3 63, f3 64, f3 65, f3 66, f3 67, f3 68, f3 69, f3 70, f3 71, f3 72, f3 73, f3 74, f3 75, f3 76, f3 77, f3 78, f3 79, f3 80, f3 81, f3 82, f3 83, f3 84, f3 85, f3 86, f3 87, f3 88, f3 89, f3 90, f3 91, f3 92, f3 93, f3 94, f3 95, f3 96, f3 97, f3 98, f3 99, f3 100, f3 101, f3 102, f3 103, f3 104, f3 105, f3 106, f3 107, f3 108, f3 109, f3 110, f3 111, f3 112, f3 113, f3 114, f3 115, f3 116, f3 117, f3 118, f3 119, f3 120, f3 121, f3 122, f3 123, f3 124, f3 125, f3 126, f3 127, f3 128, f3 129, f3 130, f3 131, f3 132, f3 133, f3 134, f3 135, f3 136, f3 137, f3 138, f3 139, f3 140, f3 141, f3 142, f3 143, f3 144, f3 145, f3 146, f3 147, f3 148, f3 149, f3 150, f3 151, f3 152, f3 153, f3 154, f3 155, f3 156, f3 157, f3 158, f3 159, .agg #[.string o.h.target, .int .i64 o.h.min, .int .i64 o.h.max, .slice o.h.M.ao o.h.M.la o.h.M.ca, .int .i64 o.h.tol, .int .i64 o.h.up.win, .int .i64 o.h.up.pick, .slice o.h.up.P.ao o.h.up.P.la o.h.up.P.ca, .int .i64 o.h.down.win, .int .i64 o.h.down.pick, .slice o.h.down.P.ao o.h.down.P.la o.h.down.P.ca, .slice o.h.past.ao o.h.past.la o.h.past.ca], f3 161, f3 162, f3 163, f3 164, f3 165, f3 166, f3 167, f3 168, f3 169, f3 170, f3 171, f3 172, f3 173, f3 174, f3 175, f3 176, f3 177, f3 178, f3 179, f3 180, f3 181, f3 182, f3 183, f3 184, f3 185, f3 186, f3 187, f3 188, f3 189, f3 190, f3 191, f3 192, f3 193, f3 194, f3 195, f3 196, f3 197, f3 198, f3 199, f3 200, f3 201, f3 202, f3 203, f3 204, f3 205, f3 206, f3 207, f3 208, f3 209, f3 210, f3 211, f3 212, f3 213, f3 214, f3 215, f3 216, f3 217, f3 218, f3 219, f3 220, f3 221, f3 222, f3 223, f3 224, f3 225, f3 226, f3 227, f3 228, f3 229, f3 230, f3 231, f3 232, f3 233, f3 234, f3 235, f3 236, f3 237, f3 238, f3 239, f3 240, f3 241], []⟩) (by as_aux_lemma => kernel_rfl) ?_)
  have hb5 : Below w4.heap.size w4 (w4.alloc (.cells #[.string o.h.target, .int .i64 o.h.min, .int .i64 o.h.max, .slice o.h.M.ao o.h.M.la o.h.M.ca, .int .i64 o.h.tol, .int .i64 o.h.up.win, .int .i64 o.h.up.pick, .slice o.h.up.P.ao o.h.up.P.la o.h.up.P.ca, .int .i64 o.h.down.win, .int .i64 o.h.down.pick, .slice o.h.down.P.ao o.h.down.P.la o.h.down.P.ca, .slice o.h.past.ao o.h.past.la o.h.past.ca] 42)) := (Below.refl w4.heap.size w4).alloc (Nat.le_refl _) _
  have RV : Hid (RowAt (w4.alloc (.cells #[.string o.h.target, .int .i64 o.h.min, .int .i64 o.h.max, .slice o.h.M.ao o.h.M.la o.h.M.ca, .int .i64 o.h.tol, .int .i64 o.h.up.win, .int .i64 o.h.up.pick, .slice o.h.up.P.ao o.h.up.P.la o.h.up.P.ca, .int .i64 o.h.down.win, .int .i64 o.h.down.pick, .slice o.h.down.P.ao o.h.down.P.la o.h.down.P.ca, .slice o.h.past.ao o.h.past.la o.h.past.ca] 42)) w4.heap.size [.string o.h.target, .int .i64 o.h.min, .int .i64 o.h.max, .slice o.h.M.ao o.h.M.la o.h.M.ca, .int .i64 o.h.tol, .int .i64 o.h.up.win, .int .i64 o.h.up.pick, .slice o.h.up.P.ao o.h.up.P.la o.h.up.P.ca, .int .i64 o.h.down.win, .int .i64 o.h.down.pick, .slice o.h.down.P.ao o.h.down.P.la o.h.down.P.ca, .slice o.h.past.ao o.h.past.la o.h.past.ca]) := RowAt.of_heap (t := 42) (fr := (0, 0)) (by rw [heap_alloc_new])
  generalize w4.alloc (.cells #[.string o.h.target, .int .i64 o.h.min, .int .i64 o.h.max, .slice o.h.M.ao o.h.M.la o.h.M.ca, .int .i64 o.h.tol, .int .i64 o.h.up.win, .int .i64 o.h.up.pick, .slice o.h.up.P.ao o.h.up.P.la o.h.up.P.ca, .int .i64 o.h.down.win, .int .i64 o.h.down.pick, .slice o.h.down.P.ao o.h.down.P.la o.h.down.P.ca, .slice o.h.past.ao o.h.past.la o.h.past.ca] 42) = w5 at hb5 RV ⊢
  replace HS := Lib.hid (HS.out.b hb5)
  replace Hb := Lib.hid (Hb.out.trans (Below.mono hb5 Hb.out.size))
  clear hb5
  obtain ⟨bv, hbv⟩ : ∃ n, w4.heap.size = n := ⟨_, rfl⟩
  rw [hbv] at RV ⊢
  clear hbv
  go_upto_region 16 with fail
  have hBlk : BlkOk (fun k => (bv, 0)) w5 [(0, [.string o.h.target, .int .i64 o.h.min, .int .i64 o.h.max, .slice o.h.M.ao o.h.M.la o.h.M.ca, .int .i64 o.h.tol, .int .i64 o.h.up.win, .int .i64 o.h.up.pick, .slice o.h.up.P.ao o.h.up.P.la o.h.up.P.ca, .int .i64 o.h.down.win, .int .i64 o.h.down.pick, .slice o.h.down.P.ao o.h.down.P.la o.h.down.P.ca, .slice o.h.past.ao o.h.past.la o.h.past.ca])] := (blk_cons (k := 0) RV.out.from_ blk_nil)
  refine region_chain_all (N := 242) (Kept w5) (fun k => (bv, 0)) ⟨objSta, [(0, [.string o.h.target, .int .i64 o.h.min, .int .i64 o.h.max, .slice o.h.M.ao o.h.M.la o.h.M.ca, .int .i64 o.h.tol, .int .i64 o.h.up.win, .int .i64 o.h.up.pick, .slice o.h.up.P.ao o.h.up.P.la o.h.up.P.ca, .int .i64 o.h.down.win, .int .i64 o.h.down.pick, .slice o.h.down.P.ao o.h.down.P.la o.h.down.P.ca, .slice o.h.past.ao o.h.past.la o.h.past.ca])], [(164, .string (textS o.h.target)), (168, .string (intS o.h.min)), (172, .string (intS o.h.max)), (178, .string (putS (u64 (o.h.M.la : Int)) 1))], []⟩ (by kernel_rfl) (by as_aux_lemma => kernel_rfl) (Kept.drawn w5) (tab_ok objSta_ok hBlk)
    [(8, .ptr 0 0), (3, .val (.string hd))] [(8, .ptr 0 0), (3, .val (.string ((((hd ++ textS o.h.target) ++ intS o.h.min) ++ intS o.h.max) ++ putS (u64 (o.h.M.la : Int)) 1)))] [.cat ((((hd ++ textS o.h.target) ++ intS o.h.min) ++ intS o.h.max)) (putS (u64 (o.h.M.la : Int)) 1), .call 57 [.val (.int .u64 ((u64 (o.h.M.la : Int)))), .val (.int .i64 1)] (.string (putS (u64 (o.h.M.la : Int)) 1)), .cat (((hd ++ textS o.h.target) ++ intS o.h.min)) (intS o.h.max), .call 59 [.val (.int .i64 o.h.max)] (.string (intS o.h.max)), .cat ((hd ++ textS o.h.target)) (intS o.h.min), .call 59 [.val (.int .i64 o.h.min)] (.string (intS o.h.min)), .cat (hd) (textS o.h.target), .call 58 [.val (.string o.h.target)] (.string (textS o.h.target))] rfl (by as_aux_lemma => kernel_rfl) (by as_aux_lemma => kernel_rfl) ?_ none (by as_aux_lemma => kernel_rfl) (fun f4 => [f4 0, f4 1, f4 2, .string ((((hd ++ textS o.h.target) ++ intS o.h.min) ++ intS o.h.max) ++ putS (u64 (o.h.M.la : Int)) 1), f4 4, f4 5, f4 6, f4 7, .pointer (some ⟨bv, 0, none⟩), f4 9, f4 10, f4 11, f4 12, f4 13, f4 14, f4 15, f4 16, f4 17, f4 18, f4 19, f4 20, f4 21, f4 22, f4 23, f4 24, f4 25, f4 26, f4 27, f4 28, f4 29, f4 30, f4 31, f4 32, f4 33, f4 34, f4 35, f4 36, f4 37, f4 38, f4 39, f4 40, f4 41, f4 42, f4 43, f4 44, f4 45, f4 46, f4 47, f4 48, f4 49, f4 50, f4 51, f4 52, f4 53, f4 54, f4 55, f4 56, f4 57, f4 58, f4 59, f4 60, f4 61, f4 62, f4 63, f4 64, f4 65, f4 66, f4 67, f4 68, f4 69, f4 70, f4 71, f4 72, f4 73, f4 74, f4 75, f4 76, f4 77, f4 78, f4 79, f4 80, f4 81, f4 82, f4 83, f4 84, f4 85, f4 86, f4 87, f4 88, f4 89, f4 90, f4 91, f4 92, f4 93, f4 94, f4 95, f4 96, f4 97, f4 98, f4 99, f4 100, f4 101, f4 102, f4 103, f4 104, f4 105, f4 106, f4 107, f4 108, f4 109, f4 110, f4 111, f4 112, f4 113, f4 114, f4 115, f4 116, f4 117, f4 118, f4 119, f4 120, f4 121, f4 122, f4 123, f4 124, f4 125, f4 126, f4 127, f4 128, f4 129, f4 130, f4 131, f4 132, f4 133, f4 134, f4 135, f4 136, f4 137, f4 138, f4 139, f4 140, f4 141, f4 142, f4 143, f4 144, f4 145, f4 146, f4 147, f4 148, f4 149, f4 150, f4 151, f4 152, f4 153, f4 154, f4 155, f4 156, f4 157, f4 158, f4 159, f4 160, f4 161, f4 162, f4 163, f4 164, f4 165, f4 166, f4 167, f4 168, f4 169, f4 170, f4 171, f4 172, f4 173, f4 174, f4 175, f4 176, f4 177, f4 178, f4 179, f4 180, f4 181, f4 182, f4 183, f4 184, f4 185, f4 186, f4 187, f4 188, f4 189, f4 190, f4 191, f4 192, f4 193, f4 194, f4 195, f4 196, f4 197, f4 198, f4 199, f4 200, f4 201, f4 202, f4 203, f4 204, f4 205, f4 206, f4 207, f4 208, f4 209, f4 210, f4 211, f4 212, f4 213, f4 214, f4 215, f4 216, f4 217, f4 218, f4 219, f4 220, f4 221, f4 222, f4 223, f4 224, f4 225, f4 226, f4 227, f4 228, f4 229, f4 230, f4 231, f4 232, f4 233, f4 234, f4 235, f4 236, f4 237, f4 238, f4 239, f4 240, f4 241]) (fun f4 => by as_aux_lemma => kernel_rfl) ?_
  · clear hBlk
    exact (ob_cons (show _ + _ ≤ _ by have := ZZ.out; have := HHS.out; rw [ByteArray.size_append, ByteArray.size_append, ByteArray.size_append, textS_size, intS_size, intS_size, putS_size]; omega) (ob_cons (ob_kept Try.func57 (by kernel_rfl) rfl fun w' _ => put_any _ 1 (by decide) (u64_b _).1 (u64_b _).2 w') (ob_cons (show _ + _ ≤ _ by have := ZZ.out; have := HHS.out; rw [ByteArray.size_append, ByteArray.size_append, textS_size, intS_size, intS_size]; omega) (ob_cons (ob_kept Try.func59 (by kernel_rfl) rfl fun w' _ => int_any _ w') (ob_cons (show _ + _ ≤ _ by have := ZZ.out; have := HHS.out; rw [ByteArray.size_append, textS_size, intS_size]; omega) (ob_cons (ob_kept Try.func59 (by kernel_rfl) rfl fun w' _ => int_any _ w') (ob_cons (show _ + _ ≤ _ by have := ZZ.out; have := HHS.out; rw [textS_size]; omega) (ob_cons (ob_kept Try.func58 (by kernel_rfl) rfl fun w' _ => text_any _ (by have := ZZ.out; omega) w') ob_nil))))))))
  intro f4 w6 hb6
  clear hBlk
  replace RV := Lib.hid (RowAt.below hb6 rfl RV.out)
  replace HS := Lib.hid (HS.out.b hb6)
  replace Hb := Lib.hid (Hb.out.trans (Below.mono hb6 Hb.out.size))
  clear hb6
  obtain ⟨TT, hTT⟩ : ∃ t, hpaS hd o.h = t := ⟨_, rfl⟩
  obtain ⟨TB, hTB⟩ : ∃ t, hpa2S (o.h.M.xs.foldl metS (hpa1S hd o.h)) o.h = t := ⟨_, rfl⟩
  obtain ⟨TA, hTA⟩ : ∃ t, o.h.M.xs.foldl metS (hpa1S hd o.h) = t := ⟨_, rfl⟩
  have TMB : Hid (TB.size ≤ 9223372036854775807) := by rw [← hTB]; exact Nat.le_trans (hpaS_2 hd o.h) TM.out
  have TMA : Hid (TA.size ≤ 9223372036854775807) := by
    have h1 := hpa2S_le TA o.h
    rw [← hTA, hTB] at h1
    rw [← hTA]
    exact Nat.le_trans h1 TMB.out
  have TMT : Hid (TT.size ≤ 9223372036854775807) := by rw [← hTT]; exact TM.out
  have HTT : Hid (hpaS hd o.h = TT) := hTT
  have HTB0 : Hid (hpa2S TA o.h = TB) := by rw [← hTA]; exact hTB
  have HTT0 : Hid (TT = o.h.past.xs.foldl scS TB) := by rw [← hTT, ← hTB]; rfl
  obtain ⟨a1, ha1⟩ : ∃ oo : ByteArray, ((((hd ++ textS o.h.target) ++ intS o.h.min) ++ intS o.h.max) ++ putS (u64 (o.h.M.la : Int)) 1) = oo := ⟨_, rfl⟩
  have HTTA : Hid (TA = (o.h.M.xs.drop 0).foldl metS a1) := by rw [← hTA, ← ha1]; rfl
  rw [ha1]
  clear ha1 hTT hTB hTA TM
  have gP : SlR (Flat Scaled.cells) 3 w6 o.h.past.ao o.h.past.la o.h.past.ca o.h.past.xs := HS.out.h.P
  have gM : SlR (Flat Metric.cells) 3 w6 o.h.M.ao o.h.M.la o.h.M.ca o.h.M.xs := HS.out.h.M
  have aP := gP.hmax; have aPc := gP.hcap; have lP := gP.hlen
  have aM := gM.hmax; have aMc := gM.hcap; have lM := gM.hlen
  unfold maxLen at aP aM
  obtain ⟨ma, hma⟩ : ∃ a, o.h.M.ao = a := ⟨_, rfl⟩
  obtain ⟨pa, hpa⟩ : ∃ a, o.h.past.ao = a := ⟨_, rfl⟩
  rw [hma] at gM; rw [hpa] at gP
  rw [hma, hpa] at RV
  have GP := Lib.hid gP; have GM := Lib.hid gM
  have LP := Lib.hid lP; have LM := Lib.hid lM
  clear gP gM lP lM hma hpa
  go_upto_region 17 with fail
  have hBlk : BlkOk (fun k => (bv, 0)) w6 [(0, [.string o.h.target, .int .i64 o.h.min, .int .i64 o.h.max, .slice ma o.h.M.la o.h.M.ca, .int .i64 o.h.tol, .int .i64 o.h.up.win, .int .i64 o.h.up.pick, .slice o.h.up.P.ao o.h.up.P.la o.h.up.P.ca, .int .i64 o.h.down.win, .int .i64 o.h.down.pick, .slice o.h.down.P.ao o.h.down.P.la o.h.down.P.ca, .slice pa o.h.past.la o.h.past.ca])] := (blk_cons (k := 0) RV.out.from_ blk_nil)
  refine region_chain (N := 242) (Kept w6) (fun k => (bv, 0)) ⟨objSta, [(0, [.string o.h.target, .int .i64 o.h.min, .int .i64 o.h.max, .slice ma o.h.M.la o.h.M.ca, .int .i64 o.h.tol, .int .i64 o.h.up.win, .int .i64 o.h.up.pick, .slice o.h.up.P.ao o.h.up.P.la o.h.up.P.ca, .int .i64 o.h.down.win, .int .i64 o.h.down.pick, .slice o.h.down.P.ao o.h.down.P.la o.h.down.P.ca, .slice pa o.h.past.la o.h.past.ca])], [], []⟩ 4 (Kept.refl w6) (tab_ok objSta_ok hBlk)
    [(8, .ptr 0 0), (3, .val (.string a1))] [(8, .ptr 0 0), (3, .val (.string a1)), (181, .val (.slice ma o.h.M.la o.h.M.ca)), (182, .val (.int .i64 (o.h.M.la : Int))), (183, .val (.int .i64 0))] [] rfl (by as_aux_lemma => kernel_rfl) (by as_aux_lemma => kernel_rfl) ?_ none (by as_aux_lemma => kernel_rfl) (fun f5 => [f5 0, f5 1, f5 2, .string a1, f5 4, f5 5, f5 6, f5 7, .pointer (some ⟨bv, 0, none⟩), f5 9, f5 10, f5 11, f5 12, f5 13, f5 14, f5 15, f5 16, f5 17, f5 18, f5 19, f5 20, f5 21, f5 22, f5 23, f5 24, f5 25, f5 26, f5 27, f5 28, f5 29, f5 30, f5 31, f5 32, f5 33, f5 34, f5 35, f5 36, f5 37, f5 38, f5 39, f5 40, f5 41, f5 42, f5 43, f5 44, f5 45, f5 46, f5 47, f5 48, f5 49, f5 50, f5 51, f5 52, f5 53, f5 54, f5 55, f5 56, f5 57, f5 58, f5 59, f5 60, f5 61, f5 62, f5 63, f5 64, f5 65, f5 66, f5 67, f5 68, f5 69, f5 70, f5 71, f5 72, f5 73, f5 74, f5 75, f5 76, f5 77, f5 78, f5 79, f5 80, f5 81, f5 82, f5 83, f5 84, f5 85, f5 86, f5 87, f5 88, f5 89, f5 90, f5 91, f5 92, f5 93, f5 94, f5 95, f5 96, f5 97, f5 98, f5 99, f5 100, f5 101, f5 102, f5 103, f5 104, f5 105, f5 106, f5 107, f5 108, f5 109, f5 110, f5 111, f5 112, f5 113, f5 114, f5 115, f5 116, f5 117, f5 118, f5 119, f5 120, f5 121, f5 122, f5 123, f5 124, f5 125, f5 126, f5 127, f5 128, f5 129, f5 130, f5 131, f5 132, f5 133, f5 134, f5 135, f5 136, f5 137, f5 138, f5 139, f5 140, f5 141, f5 142, f5 143, f5 144, f5 145, f5 146, f5 147, f5 148, f5 149, f5 150, f5 151, f5 152, f5 153, f5 154, f5 155, f5 156, f5 157, f5 158, f5 159, f5 160, f5 161, f5 162, f5 163, f5 164, f5 165, f5 166, f5 167, f5 168, f5 169, f5 170, f5 171, f5 172, f5 173, f5 174, f5 175, f5 176, f5 177, f5 178, f5 179, f5 180, .slice ma o.h.M.la o.h.M.ca, .int .i64 (o.h.M.la : Int), .int .i64 0, f5 184, f5 185, f5 186, f5 187, f5 188, f5 189, f5 190, f5 191, f5 192, f5 193, f5 194, f5 195, f5 196, f5 197, f5 198, f5 199, f5 200, f5 201, f5 202, f5 203, f5 204, f5 205, f5 206, f5 207, f5 208, f5 209, f5 210, f5 211, f5 212, f5 213, f5 214, f5 215, f5 216, f5 217, f5 218, f5 219, f5 220, f5 221, f5 222, f5 223, f5 224, f5 225, f5 226, f5 227, f5 228, f5 229, f5 230, f5 231, f5 232, f5 233, f5 234, f5 235, f5 236, f5 237, f5 238, f5 239, f5 240, f5 241]) (fun f5 => by as_aux_lemma => kernel_rfl) ?_
  · clear hBlk
    exact ob_nil
  intro f5 w7 hb7
  clear hBlk
  simp only [List.drop_succ_cons, List.drop_zero]
  replace RV := Lib.hid (RowAt.below hb7 rfl RV.out)
  replace HS := Lib.hid (HS.out.b hb7)
  replace GP := Lib.hid (GP.out.flatKeeps (Keeps.below hb7))
  replace GM := Lib.hid (GM.out.flatKeeps (Keeps.below hb7))
  replace Hb := Lib.hid (Hb.out.trans (Below.mono hb7 Hb.out.size))
  clear hb7
  go_wp2_with fail
  go_loopw [3, 183] (fun vo vi wr => ∃ (k : Nat) (out : ByteArray), k ≤ o.h.M.la ∧ vo = .string out ∧ vi = .int .i64 k ∧ Hid (TA = (o.h.M.xs.drop k).foldl metS out) ∧ Hid (Below w7.heap.size w7 wr)) (fun _ vi _ => o.h.M.la - (intOf vi).toNat)
  case atStart => exact ⟨0, _, Nat.zero_le _, rfl, rfl, HTTA.out, Below.refl _ _⟩
  case round =>
    obtain ⟨k, out, hk, rfl, rfl, HP, HB⟩ := hrel
    obtain ⟨wqf6, rfl⟩ : ∃ wq : World, wq = wr := ⟨_, rfl⟩
    by_cases hlt : k < o.h.M.la
    · obtain ⟨b, off, rfl⟩ := GM.out.ptr (by decide) (by omega)
      have kx : k < o.h.M.xs.length := by rw [LM.out]; exact hlt
      have hc := (GM.out.flatKeeps (Keeps.below HB.out)).flat kx
      have c0 := hc 0 _ rfl
      have c1 := hc 1 _ rfl
      have c2 := hc 2 _ rfl
      rw [Nat.add_zero] at c0
      have HN : Hid (TA = (o.h.M.xs.drop (k + 1)).foldl metS (metS out o.h.M.xs[k])) := by
        show _ = _
        rw [HP.out, List.drop_eq_getElem_cons kx, List.foldl_cons]
      have HZ : Hid ((metS out o.h.M.xs[k]).size ≤ 9223372036854775807) := Nat.le_trans (foldl_le metS_le (o.h.M.xs.drop (k + 1)) _) (by rw [← HN.out]; exact TMA.out)
      obtain ⟨y, hy⟩ : ∃ y, o.h.M.xs[k] = y := ⟨_, rfl⟩
      rw [hy] at c0 c1 c2 HN HZ
      clear hy hc HP
      obtain ⟨xk, xn, xt⟩ := y
      dsimp only at c0 c1 c2
      have Z : out.size + 8 + (1 + xn.size) + 8 ≤ 9223372036854775807 := by
        have := HZ.out
        unfold metS at this
        rw [ByteArray.size_append, ByteArray.size_append, ByteArray.size_append, intS_size, textS_size, intS_size] at this
        omega
      clear ZZ
      have ZZ := Lib.hid Z
      clear Z kx
      go_upto_region 20 with fail
      have hbn : Below wqf6.heap.size wqf6 (wqf6.alloc (.cells #[.int .i64 xk, .string xn, .int .i64 xt] 83)) := (Below.refl wqf6.heap.size wqf6).alloc (Nat.le_refl _) _
      have RN : Hid (RowAt (wqf6.alloc (.cells #[.int .i64 xk, .string xn, .int .i64 xt] 83)) wqf6.heap.size [.int .i64 xk, .string xn, .int .i64 xt]) := RowAt.of_heap (t := 83) (fr := (0, 0)) (by rw [heap_alloc_new])
      generalize wqf6.alloc (.cells #[.int .i64 xk, .string xn, .int .i64 xt] 83) = wn at hbn RN ⊢
      replace HB := Lib.hid (HB.out.trans (Below.mono hbn HB.out.size))
      obtain ⟨bn, hbn2⟩ : ∃ n, wqf6.heap.size = n := ⟨_, rfl⟩
      rw [hbn2] at RN ⊢
      clear hbn hbn2 c0 c1 c2
      have hBlk : BlkOk (fun k => if k = 0 then (bn, 0) else (bv, 0)) wn [(0, [.int .i64 xk, .string xn, .int .i64 xt])] := (blk_cons (k := 0) RN.out.from_ blk_nil)
      refine region_chain_all (N := 242) (Kept wn) (fun k => if k = 0 then (bn, 0) else (bv, 0)) ⟨objSta, [(0, [.int .i64 xk, .string xn, .int .i64 xt])], [(190, .string (intS xk)), (194, .string (textS xn)), (198, .string (intS xt))], []⟩ (by kernel_rfl) (by as_aux_lemma => kernel_rfl) (Kept.drawn wn) (tab_ok objSta_ok hBlk)
        [(181, .val (.slice (some ⟨b, off, none⟩) o.h.M.la o.h.M.ca)), (182, .val (.int .i64 (o.h.M.la : Int))), (183, .val (.int .i64 (k : Int))), (8, .ptr 1 0), (3, .val (.string out)), (10, .ptr 0 0)] [(181, .val (.slice (some ⟨b, off, none⟩) o.h.M.la o.h.M.ca)), (182, .val (.int .i64 (o.h.M.la : Int))), (183, .val (.int .i64 (k : Int))), (8, .ptr 1 0), (3, .val (.string (((out ++ intS xk) ++ textS xn) ++ intS xt)))] [.cat ((out ++ intS xk) ++ textS xn) (intS xt), .call 59 [.val (.int .i64 xt)] (.string (intS xt)), .cat (out ++ intS xk) (textS xn), .call 58 [.val (.string xn)] (.string (textS xn)), .cat (out) (intS xk), .call 59 [.val (.int .i64 xk)] (.string (intS xk))] rfl (by as_aux_lemma => kernel_rfl) (by as_aux_lemma => kernel_rfl) ?_ (some [3, 10, 183, 184, 185, 186, 187, 188, 189, 190, 191, 192, 193, 194, 195, 196, 197, 198, 199, 200]) (by as_aux_lemma => kernel_rfl) (fun f6 => [f5 0, f5 1, f5 2, .string (((out ++ intS xk) ++ textS xn) ++ intS xt), f5 4, f5 5, f5 6, f5 7, .pointer (some ⟨bv, 0, none⟩), f5 9, f6 10, f5 11, f5 12, f5 13, f5 14, f5 15, f5 16, f5 17, f5 18, f5 19, f5 20, f5 21, f5 22, f5 23, f5 24, f5 25, f5 26, f5 27, f5 28, f5 29, f5 30, f5 31, f5 32, f5 33, f5 34, f5 35, f5 36, f5 37, f5 38, f5 39, f5 40, f5 41, f5 42, f5 43, f5 44, f5 45, f5 46, f5 47, f5 48, f5 49, f5 50, f5 51, f5 52, f5 53, f5 54, f5 55, f5 56, f5 57, f5 58, f5 59, f5 60, f5 61, f5 62, f5 63, f5 64, f5 65, f5 66, f5 67, f5 68, f5 69, f5 70, f5 71, f5 72, f5 73, f5 74, f5 75, f5 76, f5 77, f5 78, f5 79, f5 80, f5 81, f5 82, f5 83, f5 84, f5 85, f5 86, f5 87, f5 88, f5 89, f5 90, f5 91, f5 92, f5 93, f5 94, f5 95, f5 96, f5 97, f5 98, f5 99, f5 100, f5 101, f5 102, f5 103, f5 104, f5 105, f5 106, f5 107, f5 108, f5 109, f5 110, f5 111, f5 112, f5 113, f5 114, f5 115, f5 116, f5 117, f5 118, f5 119, f5 120, f5 121, f5 122, f5 123, f5 124, f5 125, f5 126, f5 127, f5 128, f5 129, f5 130, f5 131, f5 132, f5 133, f5 134, f5 135, f5 136, f5 137, f5 138, f5 139, f5 140, f5 141, f5 142, f5 143, f5 144, f5 145, f5 146, f5 147, f5 148, f5 149, f5 150, f5 151, f5 152, f5 153, f5 154, f5 155, f5 156, f5 157, f5 158, f5 159, f5 160, f5 161, f5 162, f5 163, f5 164, f5 165, f5 166, f5 167, f5 168, f5 169, f5 170, f5 171, f5 172, f5 173, f5 174, f5 175, f5 176, f5 177, f5 178, f5 179, f5 180, .slice (some ⟨b, off, none⟩) o.h.M.la o.h.M.ca, .int .i64 (o.h.M.la : Int), .int .i64 (k : Int), f6 184, f6 185, f6 186, f6 187, f6 188, f6 189, f6 190, f6 191, f6 192, f6 193, f6 194, f6 195, f6 196, f6 197, f6 198, f6 199, f6 200, f5 201, f5 202, f5 203, f5 204, f5 205, f5 206, f5 207, f5 208, f5 209, f5 210, f5 211, f5 212, f5 213, f5 214, f5 215, f5 216, f5 217, f5 218, f5 219, f5 220, f5 221, f5 222, f5 223, f5 224, f5 225, f5 226, f5 227, f5 228, f5 229, f5 230, f5 231, f5 232, f5 233, f5 234, f5 235, f5 236, f5 237, f5 238, f5 239, f5 240, f5 241]) (fun f6 => by as_aux_lemma => kernel_rfl) ?_
      · clear hBlk
        exact (ob_cons (show _ + _ ≤ _ by have := ZZ.out; rw [ByteArray.size_append, ByteArray.size_append, intS_size, textS_size, intS_size]; omega) (ob_cons (ob_kept Try.func59 (by kernel_rfl) rfl fun w' _ => int_any xt w') (ob_cons (show _ + _ ≤ _ by have := ZZ.out; rw [ByteArray.size_append, intS_size, textS_size]; omega) (ob_cons (ob_kept Try.func58 (by kernel_rfl) rfl fun w' _ => text_any xn (by have := ZZ.out; omega) w') (ob_cons (show _ + _ ≤ _ by have := ZZ.out; rw [intS_size]; omega) (ob_cons (ob_kept Try.func59 (by kernel_rfl) rfl fun w' _ => int_any xk w') ob_nil))))))
      intro f6 wm hbm
      clear hBlk
      replace HB := Lib.hid (HB.out.trans (Below.mono hbm HB.out.size))
      have HN2 : Hid (TA = (o.h.M.xs.drop (k + 1)).foldl metS (((out ++ intS xk) ++ textS xn) ++ intS xt)) := HN.out
      obtain ⟨o2, ho2⟩ : ∃ oo, (((out ++ intS xk) ++ textS xn) ++ intS xt) = oo := ⟨_, rfl⟩
      rw [ho2] at HN2 ⊢
      clear ho2 hbm RN HN HZ ZZ
      go_wp2_with fail
      go_roundw
      case rel => exact ⟨k + 1, o2, by omega, rfl, by go_num, HN2.out, HB.out⟩
      case measure => simp [intOf]; omega
    · obtain rfl : k = o.h.M.la := by omega
      have HE : Hid (TA = out) := by
        show _ = _
        rw [HP.out, List.drop_of_length_le (Nat.le_of_eq LM.out)]
        rfl
      clear HP
      have RV1 := Lib.hid (RowAt.below HB.out rfl RV.out)
      have HS1 := Lib.hid (HS.out.b HB.out)
      have GP1 := Lib.hid (GP.out.flatKeeps (Keeps.below HB.out))
      replace Hb := Lib.hid (Hb.out.trans (Below.mono HB.out Hb.out.size))
      have Z : out.size + 8 + (behS o.h.up.win o.h.up.pick o.h.up.P.xs).size + (behS o.h.down.win o.h.down.pick o.h.down.P.xs).size + 1 ≤ 9223372036854775807 := by
        have := TMB.out
        rw [← HTB0.out, HE.out] at this
        unfold hpa2S at this
        rw [ByteArray.size_append, ByteArray.size_append, ByteArray.size_append, ByteArray.size_append, intS_size, putS_size] at this
        exact this
      clear ZZ
      have ZZ := Lib.hid Z
      clear Z RV HS GP GM HB
      go_upto_region 22 with fail
      have hBlk : BlkOk (fun k => (bv, 0)) wqf6 [(0, [.string o.h.target, .int .i64 o.h.min, .int .i64 o.h.max, .slice ma o.h.M.la o.h.M.ca, .int .i64 o.h.tol, .int .i64 o.h.up.win, .int .i64 o.h.up.pick, .slice o.h.up.P.ao o.h.up.P.la o.h.up.P.ca, .int .i64 o.h.down.win, .int .i64 o.h.down.pick, .slice o.h.down.P.ao o.h.down.P.la o.h.down.P.ca, .slice pa o.h.past.la o.h.past.ca])] := (blk_cons (k := 0) RV1.out.from_ blk_nil)
      refine region_chain_all (N := 242) (Kept wqf6) (fun k => (bv, 0)) ⟨objSta, [(0, [.string o.h.target, .int .i64 o.h.min, .int .i64 o.h.max, .slice ma o.h.M.la o.h.M.ca, .int .i64 o.h.tol, .int .i64 o.h.up.win, .int .i64 o.h.up.pick, .slice o.h.up.P.ao o.h.up.P.la o.h.up.P.ca, .int .i64 o.h.down.win, .int .i64 o.h.down.pick, .slice o.h.down.P.ao o.h.down.P.la o.h.down.P.ca, .slice pa o.h.past.la o.h.past.ca])], [(204, .string (intS o.h.tol)), (208, .string (behS o.h.up.win o.h.up.pick o.h.up.P.xs)), (212, .string (behS o.h.down.win o.h.down.pick o.h.down.P.xs)), (218, .string (putS (u64 (o.h.past.la : Int)) 1))], []⟩ (by kernel_rfl) (by as_aux_lemma => kernel_rfl) (Kept.drawn wqf6) (tab_ok objSta_ok hBlk)
        [(8, .ptr 0 0), (3, .val (.string out))] [(8, .ptr 0 0), (3, .val (.string ((((out ++ intS o.h.tol) ++ behS o.h.up.win o.h.up.pick o.h.up.P.xs) ++ behS o.h.down.win o.h.down.pick o.h.down.P.xs) ++ putS (u64 (o.h.past.la : Int)) 1)))] [.cat ((((out ++ intS o.h.tol) ++ behS o.h.up.win o.h.up.pick o.h.up.P.xs) ++ behS o.h.down.win o.h.down.pick o.h.down.P.xs)) (putS (u64 (o.h.past.la : Int)) 1), .call 57 [.val (.int .u64 ((u64 (o.h.past.la : Int)))), .val (.int .i64 1)] (.string (putS (u64 (o.h.past.la : Int)) 1)), .cat (((out ++ intS o.h.tol) ++ behS o.h.up.win o.h.up.pick o.h.up.P.xs)) (behS o.h.down.win o.h.down.pick o.h.down.P.xs), .call 64 [.val (.agg #[.int .i64 o.h.down.win, .int .i64 o.h.down.pick, .slice o.h.down.P.ao o.h.down.P.la o.h.down.P.ca])] (.string (behS o.h.down.win o.h.down.pick o.h.down.P.xs)), .cat ((out ++ intS o.h.tol)) (behS o.h.up.win o.h.up.pick o.h.up.P.xs), .call 64 [.val (.agg #[.int .i64 o.h.up.win, .int .i64 o.h.up.pick, .slice o.h.up.P.ao o.h.up.P.la o.h.up.P.ca])] (.string (behS o.h.up.win o.h.up.pick o.h.up.P.xs)), .cat (out) (intS o.h.tol), .call 59 [.val (.int .i64 o.h.tol)] (.string (intS o.h.tol))] rfl (by as_aux_lemma => kernel_rfl) (by as_aux_lemma => kernel_rfl) ?_ none (by as_aux_lemma => kernel_rfl) (fun f7 => [f7 0, f7 1, f7 2, .string ((((out ++ intS o.h.tol) ++ behS o.h.up.win o.h.up.pick o.h.up.P.xs) ++ behS o.h.down.win o.h.down.pick o.h.down.P.xs) ++ putS (u64 (o.h.past.la : Int)) 1), f7 4, f7 5, f7 6, f7 7, .pointer (some ⟨bv, 0, none⟩), f7 9, f7 10, f7 11, f7 12, f7 13, f7 14, f7 15, f7 16, f7 17, f7 18, f7 19, f7 20, f7 21, f7 22, f7 23, f7 24, f7 25, f7 26, f7 27, f7 28, f7 29, f7 30, f7 31, f7 32, f7 33, f7 34, f7 35, f7 36, f7 37, f7 38, f7 39, f7 40, f7 41, f7 42, f7 43, f7 44, f7 45, f7 46, f7 47, f7 48, f7 49, f7 50, f7 51, f7 52, f7 53, f7 54, f7 55, f7 56, f7 57, f7 58, f7 59, f7 60, f7 61, f7 62, f7 63, f7 64, f7 65, f7 66, f7 67, f7 68, f7 69, f7 70, f7 71, f7 72, f7 73, f7 74, f7 75, f7 76, f7 77, f7 78, f7 79, f7 80, f7 81, f7 82, f7 83, f7 84, f7 85, f7 86, f7 87, f7 88, f7 89, f7 90, f7 91, f7 92, f7 93, f7 94, f7 95, f7 96, f7 97, f7 98, f7 99, f7 100, f7 101, f7 102, f7 103, f7 104, f7 105, f7 106, f7 107, f7 108, f7 109, f7 110, f7 111, f7 112, f7 113, f7 114, f7 115, f7 116, f7 117, f7 118, f7 119, f7 120, f7 121, f7 122, f7 123, f7 124, f7 125, f7 126, f7 127, f7 128, f7 129, f7 130, f7 131, f7 132, f7 133, f7 134, f7 135, f7 136, f7 137, f7 138, f7 139, f7 140, f7 141, f7 142, f7 143, f7 144, f7 145, f7 146, f7 147, f7 148, f7 149, f7 150, f7 151, f7 152, f7 153, f7 154, f7 155, f7 156, f7 157, f7 158, f7 159, f7 160, f7 161, f7 162, f7 163, f7 164, f7 165, f7 166, f7 167, f7 168, f7 169, f7 170, f7 171, f7 172, f7 173, f7 174, f7 175, f7 176, f7 177, f7 178, f7 179, f7 180, f7 181, f7 182, f7 183, f7 184, f7 185, f7 186, f7 187, f7 188, f7 189, f7 190, f7 191, f7 192, f7 193, f7 194, f7 195, f7 196, f7 197, f7 198, f7 199, f7 200, f7 201, f7 202, f7 203, f7 204, f7 205, f7 206, f7 207, f7 208, f7 209, f7 210, f7 211, f7 212, f7 213, f7 214, f7 215, f7 216, f7 217, f7 218, f7 219, f7 220, f7 221, f7 222, f7 223, f7 224, f7 225, f7 226, f7 227, f7 228, f7 229, f7 230, f7 231, f7 232, f7 233, f7 234, f7 235, f7 236, f7 237, f7 238, f7 239, f7 240, f7 241]) (fun f7 => by as_aux_lemma => kernel_rfl) ?_
      · clear hBlk
        exact (ob_cons (show _ + _ ≤ _ by have := ZZ.out; rw [ByteArray.size_append, ByteArray.size_append, ByteArray.size_append, intS_size, putS_size]; omega) (ob_cons (ob_kept Try.func57 (by kernel_rfl) rfl fun w' _ => put_any _ 1 (by decide) (u64_b _).1 (u64_b _).2 w') (ob_cons (show _ + _ ≤ _ by have := ZZ.out; rw [ByteArray.size_append, ByteArray.size_append, intS_size]; omega) (ob_cons (ob_kept Try.func64 (by kernel_rfl) rfl fun w' hw' => refBeh_any _ _ _ _ _ _ w' (HS1.out.h.b hw').D (by have := ZZ.out; omega)) (ob_cons (show _ + _ ≤ _ by have := ZZ.out; rw [ByteArray.size_append, intS_size]; omega) (ob_cons (ob_kept Try.func64 (by kernel_rfl) rfl fun w' hw' => refBeh_any _ _ _ _ _ _ w' (HS1.out.h.b hw').U (by have := ZZ.out; omega)) (ob_cons (show _ + _ ≤ _ by have := ZZ.out; rw [intS_size]; omega) (ob_cons (ob_kept Try.func59 (by kernel_rfl) rfl fun w' _ => int_any _ w') ob_nil))))))))
      intro f7 w8 hb8
      clear hBlk
      replace RV1 := Lib.hid (RowAt.below hb8 rfl RV1.out)
      replace GP1 := Lib.hid (GP1.out.flatKeeps (Keeps.below hb8))
      replace Hb := Lib.hid (Hb.out.trans (Below.mono hb8 Hb.out.size))
      clear hb8 HS1
      obtain ⟨a2, ha2⟩ : ∃ oo : ByteArray, ((((out ++ intS o.h.tol) ++ behS o.h.up.win o.h.up.pick o.h.up.P.xs) ++ behS o.h.down.win o.h.down.pick o.h.down.P.xs) ++ putS (u64 (o.h.past.la : Int)) 1) = oo := ⟨_, rfl⟩
      have HTTT : Hid (TT = (o.h.past.xs.drop 0).foldl scS a2) := by
        show _ = _
        rw [HTT0.out, ← HTB0.out, HE.out, ← ha2]
        rfl
      rw [ha2]
      clear ha2 HE HTT0 HTB0 HTTA
      go_upto_region 23 with fail
      have hBlk : BlkOk (fun k => (bv, 0)) w8 [(0, [.string o.h.target, .int .i64 o.h.min, .int .i64 o.h.max, .slice ma o.h.M.la o.h.M.ca, .int .i64 o.h.tol, .int .i64 o.h.up.win, .int .i64 o.h.up.pick, .slice o.h.up.P.ao o.h.up.P.la o.h.up.P.ca, .int .i64 o.h.down.win, .int .i64 o.h.down.pick, .slice o.h.down.P.ao o.h.down.P.la o.h.down.P.ca, .slice pa o.h.past.la o.h.past.ca])] := (blk_cons (k := 0) RV1.out.from_ blk_nil)
      refine region_chain (N := 242) (Kept w8) (fun k => (bv, 0)) ⟨objSta, [(0, [.string o.h.target, .int .i64 o.h.min, .int .i64 o.h.max, .slice ma o.h.M.la o.h.M.ca, .int .i64 o.h.tol, .int .i64 o.h.up.win, .int .i64 o.h.up.pick, .slice o.h.up.P.ao o.h.up.P.la o.h.up.P.ca, .int .i64 o.h.down.win, .int .i64 o.h.down.pick, .slice o.h.down.P.ao o.h.down.P.la o.h.down.P.ca, .slice pa o.h.past.la o.h.past.ca])], [], []⟩ 4 (Kept.refl w8) (tab_ok objSta_ok hBlk)
        [(8, .ptr 0 0), (3, .val (.string a2))] [(3, .val (.string a2)), (221, .val (.slice pa o.h.past.la o.h.past.ca)), (222, .val (.int .i64 (o.h.past.la : Int))), (223, .val (.int .i64 0))] [] rfl (by as_aux_lemma => kernel_rfl) (by as_aux_lemma => kernel_rfl) ?_ none (by as_aux_lemma => kernel_rfl) (fun f8 => [f8 0, f8 1, f8 2, .string a2, f8 4, f8 5, f8 6, f8 7, f8 8, f8 9, f8 10, f8 11, f8 12, f8 13, f8 14, f8 15, f8 16, f8 17, f8 18, f8 19, f8 20, f8 21, f8 22, f8 23, f8 24, f8 25, f8 26, f8 27, f8 28, f8 29, f8 30, f8 31, f8 32, f8 33, f8 34, f8 35, f8 36, f8 37, f8 38, f8 39, f8 40, f8 41, f8 42, f8 43, f8 44, f8 45, f8 46, f8 47, f8 48, f8 49, f8 50, f8 51, f8 52, f8 53, f8 54, f8 55, f8 56, f8 57, f8 58, f8 59, f8 60, f8 61, f8 62, f8 63, f8 64, f8 65, f8 66, f8 67, f8 68, f8 69, f8 70, f8 71, f8 72, f8 73, f8 74, f8 75, f8 76, f8 77, f8 78, f8 79, f8 80, f8 81, f8 82, f8 83, f8 84, f8 85, f8 86, f8 87, f8 88, f8 89, f8 90, f8 91, f8 92, f8 93, f8 94, f8 95, f8 96, f8 97, f8 98, f8 99, f8 100, f8 101, f8 102, f8 103, f8 104, f8 105, f8 106, f8 107, f8 108, f8 109, f8 110, f8 111, f8 112, f8 113, f8 114, f8 115, f8 116, f8 117, f8 118, f8 119, f8 120, f8 121, f8 122, f8 123, f8 124, f8 125, f8 126, f8 127, f8 128, f8 129, f8 130, f8 131, f8 132, f8 133, f8 134, f8 135, f8 136, f8 137, f8 138, f8 139, f8 140, f8 141, f8 142, f8 143, f8 144, f8 145, f8 146, f8 147, f8 148, f8 149, f8 150, f8 151, f8 152, f8 153, f8 154, f8 155, f8 156, f8 157, f8 158, f8 159, f8 160, f8 161, f8 162, f8 163, f8 164, f8 165, f8 166, f8 167, f8 168, f8 169, f8 170, f8 171, f8 172, f8 173, f8 174, f8 175, f8 176, f8 177, f8 178, f8 179, f8 180, f8 181, f8 182, f8 183, f8 184, f8 185, f8 186, f8 187, f8 188, f8 189, f8 190, f8 191, f8 192, f8 193, f8 194, f8 195, f8 196, f8 197, f8 198, f8 199, f8 200, f8 201, f8 202, f8 203, f8 204, f8 205, f8 206, f8 207, f8 208, f8 209, f8 210, f8 211, f8 212, f8 213, f8 214, f8 215, f8 216, f8 217, f8 218, f8 219, f8 220, .slice pa o.h.past.la o.h.past.ca, .int .i64 (o.h.past.la : Int), .int .i64 0, f8 224, f8 225, f8 226, f8 227, f8 228, f8 229, f8 230, f8 231, f8 232, f8 233, f8 234, f8 235, f8 236, f8 237, f8 238, f8 239, f8 240, f8 241]) (fun f8 => by as_aux_lemma => kernel_rfl) ?_
      · clear hBlk
        exact ob_nil
      intro f8 w9 hb9
      clear hBlk
      simp only [List.drop_succ_cons, List.drop_zero]
      replace GP1 := Lib.hid (GP1.out.flatKeeps (Keeps.below hb9))
      replace Hb := Lib.hid (Hb.out.trans (Below.mono hb9 Hb.out.size))
      clear hb9 RV1
      go_wp2_with fail
      go_loopw [3, 223] (fun vo vi wr => ∃ (k : Nat) (out : ByteArray), k ≤ o.h.past.la ∧ vo = .string out ∧ vi = .int .i64 k ∧ Hid (TT = (o.h.past.xs.drop k).foldl scS out) ∧ Hid (Below w9.heap.size w9 wr)) (fun _ vi _ => o.h.past.la - (intOf vi).toNat)
      case atStart => exact ⟨0, _, Nat.zero_le _, rfl, rfl, HTTT.out, Below.refl _ _⟩
      case round =>
        obtain ⟨k, out, hk, rfl, rfl, HP, HB⟩ := hrel
        obtain ⟨wqf9, rfl⟩ : ∃ wq : World, wq = wr := ⟨_, rfl⟩
        by_cases hlt : k < o.h.past.la
        · obtain ⟨b, off, rfl⟩ := GP1.out.ptr (by decide) (by omega)
          have kx : k < o.h.past.xs.length := by rw [LP.out]; exact hlt
          have hc := (GP1.out.flatKeeps (Keeps.below HB.out)).flat kx
          have c0 := hc 0 _ rfl
          have c1 := hc 1 _ rfl
          have c2 := hc 2 _ rfl
          rw [Nat.add_zero] at c0
          have HN : Hid (TT = (o.h.past.xs.drop (k + 1)).foldl scS (scS out o.h.past.xs[k])) := by
            show _ = _
            rw [HP.out, List.drop_eq_getElem_cons kx, List.foldl_cons]
          have HZ : Hid ((scS out o.h.past.xs[k]).size ≤ 9223372036854775807) := Nat.le_trans (foldl_le scS_le (o.h.past.xs.drop (k + 1)) _) (by rw [← HN.out]; exact TMT.out)
          obtain ⟨y, hy⟩ : ∃ y, o.h.past.xs[k] = y := ⟨_, rfl⟩
          rw [hy] at c0 c1 c2 HN HZ
          clear hy hc HP
          obtain ⟨xa, xf, xo⟩ := y
          dsimp only at c0 c1 c2
          have Z : out.size + 8 + 8 + 8 ≤ 9223372036854775807 := by
            have := HZ.out
            unfold scS at this
            rw [ByteArray.size_append, ByteArray.size_append, ByteArray.size_append, intS_size, intS_size, intS_size] at this
            omega
          clear ZZ
          have ZZ := Lib.hid Z
          clear Z kx
          go_upto_region 26 with fail
          have hbn : Below wqf9.heap.size wqf9 (wqf9.alloc (.cells #[.int .i64 xa, .int .i64 xf, .int .i64 xo] 87)) := (Below.refl wqf9.heap.size wqf9).alloc (Nat.le_refl _) _
          have RN : Hid (RowAt (wqf9.alloc (.cells #[.int .i64 xa, .int .i64 xf, .int .i64 xo] 87)) wqf9.heap.size [.int .i64 xa, .int .i64 xf, .int .i64 xo]) := RowAt.of_heap (t := 87) (fr := (0, 0)) (by rw [heap_alloc_new])
          generalize wqf9.alloc (.cells #[.int .i64 xa, .int .i64 xf, .int .i64 xo] 87) = wn at hbn RN ⊢
          replace HB := Lib.hid (HB.out.trans (Below.mono hbn HB.out.size))
          obtain ⟨bn, hbn2⟩ : ∃ n, wqf9.heap.size = n := ⟨_, rfl⟩
          rw [hbn2] at RN ⊢
          clear hbn hbn2 c0 c1 c2
          have hBlk : BlkOk (fun k => if k = 0 then (bn, 0) else (bv, 0)) wn [(0, [.int .i64 xa, .int .i64 xf, .int .i64 xo])] := (blk_cons (k := 0) RN.out.from_ blk_nil)
          refine region_chain_all (N := 242) (Kept wn) (fun k => if k = 0 then (bn, 0) else (bv, 0)) ⟨objSta, [(0, [.int .i64 xa, .int .i64 xf, .int .i64 xo])], [(230, .string (intS xa)), (234, .string (intS xf)), (238, .string (intS xo))], []⟩ (by kernel_rfl) (by as_aux_lemma => kernel_rfl) (Kept.drawn wn) (tab_ok objSta_ok hBlk)
            [(221, .val (.slice (some ⟨b, off, none⟩) o.h.past.la o.h.past.ca)), (222, .val (.int .i64 (o.h.past.la : Int))), (223, .val (.int .i64 (k : Int))), (3, .val (.string out)), (12, .ptr 0 0)] [(221, .val (.slice (some ⟨b, off, none⟩) o.h.past.la o.h.past.ca)), (222, .val (.int .i64 (o.h.past.la : Int))), (223, .val (.int .i64 (k : Int))), (3, .val (.string (((out ++ intS xa) ++ intS xf) ++ intS xo)))] [.cat ((out ++ intS xa) ++ intS xf) (intS xo), .call 59 [.val (.int .i64 xo)] (.string (intS xo)), .cat (out ++ intS xa) (intS xf), .call 59 [.val (.int .i64 xf)] (.string (intS xf)), .cat (out) (intS xa), .call 59 [.val (.int .i64 xa)] (.string (intS xa))] rfl (by as_aux_lemma => kernel_rfl) (by as_aux_lemma => kernel_rfl) ?_ (some [3, 12, 223, 224, 225, 226, 227, 228, 229, 230, 231, 232, 233, 234, 235, 236, 237, 238, 239, 240]) (by as_aux_lemma => kernel_rfl) (fun f9 => [f8 0, f8 1, f8 2, .string (((out ++ intS xa) ++ intS xf) ++ intS xo), f8 4, f8 5, f8 6, f8 7, f8 8, f8 9, f8 10, f8 11, f9 12, f8 13, f8 14, f8 15, f8 16, f8 17, f8 18, f8 19, f8 20, f8 21, f8 22, f8 23, f8 24, f8 25, f8 26, f8 27, f8 28, f8 29, f8 30, f8 31, f8 32, f8 33, f8 34, f8 35, f8 36, f8 37, f8 38, f8 39, f8 40, f8 41, f8 42, f8 43, f8 44, f8 45, f8 46, f8 47, f8 48, f8 49, f8 50, f8 51, f8 52, f8 53, f8 54, f8 55, f8 56, f8 57, f8 58, f8 59, f8 60, f8 61, f8 62, f8 63, f8 64, f8 65, f8 66, f8 67, f8 68, f8 69, f8 70, f8 71, f8 72, f8 73, f8 74, f8 75, f8 76, f8 77, f8 78, f8 79, f8 80, f8 81, f8 82, f8 83, f8 84, f8 85, f8 86, f8 87, f8 88, f8 89, f8 90, f8 91, f8 92, f8 93, f8 94, f8 95, f8 96, f8 97, f8 98, f8 99, f8 100, f8 101, f8 102, f8 103, f8 104, f8 105, f8 106, f8 107, f8 108, f8 109, f8 110, f8 111, f8 112, f8 113, f8 114, f8 115, f8 116, f8 117, f8 118, f8 119, f8 120, f8 121, f8 122, f8 123, f8 124, f8 125, f8 126, f8 127, f8 128, f8 129, f8 130, f8 131, f8 132, f8 133, f8 134, f8 135, f8 136, f8 137, f8 138, f8 139, f8 140, f8 141, f8 142, f8 143, f8 144, f8 145, f8 146, f8 147, f8 148, f8 149, f8 150, f8 151, f8 152, f8 153, f8 154, f8 155, f8 156, f8 157, f8 158, f8 159, f8 160, f8 161, f8 162, f8 163, f8 164, f8 165, f8 166, f8 167, f8 168, f8 169, f8 170, f8 171, f8 172, f8 173, f8 174, f8 175, f8 176, f8 177, f8 178, f8 179, f8 180, f8 181, f8 182, f8 183, f8 184, f8 185, f8 186, f8 187, f8 188, f8 189, f8 190, f8 191, f8 192, f8 193, f8 194, f8 195, f8 196, f8 197, f8 198, f8 199, f8 200, f8 201, f8 202, f8 203, f8 204, f8 205, f8 206, f8 207, f8 208, f8 209, f8 210, f8 211, f8 212, f8 213, f8 214, f8 215, f8 216, f8 217, f8 218, f8 219, f8 220, .slice (some ⟨b, off, none⟩) o.h.past.la o.h.past.ca, .int .i64 (o.h.past.la : Int), .int .i64 (k : Int), f9 224, f9 225, f9 226, f9 227, f9 228, f9 229, f9 230, f9 231, f9 232, f9 233, f9 234, f9 235, f9 236, f9 237, f9 238, f9 239, f9 240, f8 241]) (fun f9 => by as_aux_lemma => kernel_rfl) ?_
          · clear hBlk
            exact (ob_cons (show _ + _ ≤ _ by have := ZZ.out; rw [ByteArray.size_append, ByteArray.size_append, intS_size, intS_size, intS_size]; omega) (ob_cons (ob_kept Try.func59 (by kernel_rfl) rfl fun w' _ => int_any xo w') (ob_cons (show _ + _ ≤ _ by have := ZZ.out; rw [ByteArray.size_append, intS_size, intS_size]; omega) (ob_cons (ob_kept Try.func59 (by kernel_rfl) rfl fun w' _ => int_any xf w') (ob_cons (show _ + _ ≤ _ by have := ZZ.out; rw [intS_size]; omega) (ob_cons (ob_kept Try.func59 (by kernel_rfl) rfl fun w' _ => int_any xa w') ob_nil))))))
          intro f9 wm hbm
          clear hBlk
          replace HB := Lib.hid (HB.out.trans (Below.mono hbm HB.out.size))
          have HN2 : Hid (TT = (o.h.past.xs.drop (k + 1)).foldl scS (((out ++ intS xa) ++ intS xf) ++ intS xo)) := HN.out
          obtain ⟨o2, ho2⟩ : ∃ oo, (((out ++ intS xa) ++ intS xf) ++ intS xo) = oo := ⟨_, rfl⟩
          rw [ho2] at HN2 ⊢
          clear ho2 hbm RN HN HZ ZZ
          go_wp2_with fail
          go_roundw
          case rel => exact ⟨k + 1, o2, by omega, rfl, by go_num, HN2.out, HB.out⟩
          case measure => simp [intOf]; omega
        · obtain rfl : k = o.h.past.la := by omega
          have HE : Hid (TT = out) := by
            show _ = _
            rw [HP.out, List.drop_of_length_le (Nat.le_of_eq LP.out)]
            rfl
          clear HP
          replace Hb := Lib.hid (Hb.out.trans (Below.mono HB.out Hb.out.size))
          go_wp2_with fail
          go_ret
          exact ⟨by rw [HTT.out, HE.out]; rfl, Hb.out⟩
end Go.Proofs.Ytpbppgfogepjeaa
