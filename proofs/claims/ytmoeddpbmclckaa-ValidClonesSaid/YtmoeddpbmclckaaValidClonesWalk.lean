/- ValidClones: the law's walk. Condition: the object's rows are within the reach; its version is a number. -/
import Derived.Test.YtmoeddpbmclckaaCloneLaw
import Derived.Test.YtmoeddpbmclckaaClone
import Derived.Test.YtmoeddpbmclckaaValidLives
import Derived.Test.YtmoeddpbmclckaaObjBound
import Derived.Test.YtmoeddpbmclckaaMulti4
import Derived.Test.YtmoeddpbmclckaaCloneKeep
namespace Go.Proofs.Ytmoeddpbmclckaa
open Go.ChangeShapes Go.WideShapes Go.ChangeAt Go.RowKit Go.Deep

theorem wpList_load_at_g {P : Program} {ops : Array Oper} {rest : List Oper} {o : Oper} {a : Act} {w : World} {Q : Exit → Act → World → Prop} {T : TypeId} {size : Nat} (A : AggOK P T size) (hgd : Region.wanted o (yielded ops a.tmps) = true) (x : Operand) (ho : o.op = .load T x)
    (p : Addr) (hx : a.eval x = .pointer (some p)) (cs : List Value) (hs : cs.length = size) (hc : ∀ j u, cs[j]? = some u → w.cell? (p.add j) = some u)
    (h : wpList P ops Q rest (a.put o.dst (.agg cs.toArray)) w) : wpList P ops Q (o :: rest) a w := by
  refine wpList_step fun _ hK => ?_
  rw [if_pos hgd]
  unfold Oper.wp execOp
  simp only [ho, hx, Instr.loadAt, Instr.sureAddr, Sem.run_bind, Sem.run_pure, Result.andThen_ok, run_loadVar_at A w p cs hs hc]
  exact hK _ _ h

set_option maxRecDepth 100000 in
set_option maxHeartbeats 12800000 in
theorem validClones_core (kd : Int) (nm : ByteArray) (ver : Int) (o : ShapesV) (w : World) (h : ShapesAt w o) (hr : Reach6 o) (hv : 0 ≤ ver ∧ ver ≤ 18446744073709551615) :
    Calls Try.prog 4 #[.agg #[.int .i64 kd, .string nm, .int .u64 ver, .int .i64 o.w.rep, .int .i64 o.w.cpu, .int .i64 o.w.mem, .slice o.w.L.ao o.w.L.la o.w.L.ca, .slice o.w.S.ao o.w.S.la o.w.S.ca, .slice o.w.T.ao o.w.T.la o.w.T.ca, .int .i64 o.w.warm, .string o.p.owner, .string o.p.node, .int .i64 o.p.phase, .int .i64 o.p.since, .int .i64 o.p.cpu, .int .i64 o.p.mem, .slice o.p.L.ao o.p.L.la o.p.L.ca, .slice o.p.S.ao o.p.S.la o.p.S.ca, .slice o.p.T.ao o.p.T.la o.p.T.ca, .int .i64 o.p.warm, .string o.n.group, .int .i64 o.n.cpu, .int .i64 o.n.mem, .slice o.n.L.ao o.n.L.la o.n.L.ca, .slice o.n.T.ao o.n.T.la o.n.T.ca, .int .i64 o.n.since, .bool o.n.closed, .int .i64 o.g.min, .int .i64 o.g.max, .int .i64 o.g.target, .int .i64 o.g.cpu, .int .i64 o.g.mem, .slice o.g.L.ao o.g.L.la o.g.L.ca, .slice o.g.T.ao o.g.T.la o.g.T.ca, .int .i64 o.g.prio, .string o.h.target, .int .i64 o.h.min, .int .i64 o.h.max, .slice o.h.M.ao o.h.M.la o.h.M.ca, .int .i64 o.h.tol, .int .i64 o.h.up.win, .int .i64 o.h.up.pick, .slice o.h.up.P.ao o.h.up.P.la o.h.up.P.ca, .int .i64 o.h.down.win, .int .i64 o.h.down.pick, .slice o.h.down.P.ao o.h.down.P.la o.h.down.P.ca, .slice o.h.past.ao o.h.past.la o.h.past.ca]] w fun e w' => e = .returned (.bool true) ∧ Below w.heap.size w w' := by
  have HR := Lib.hid hr
  have HV := Lib.hid hv
  clear hr hv
  go_enter Try.func4, Try.ntmps4
  go_upto_region 1 with fail
  have hb0 : Below w.heap.size w (w.alloc (.cells #[.int .i64 kd, .string nm, .int .u64 ver, .int .i64 o.w.rep, .int .i64 o.w.cpu, .int .i64 o.w.mem, .slice o.w.L.ao o.w.L.la o.w.L.ca, .slice o.w.S.ao o.w.S.la o.w.S.ca, .slice o.w.T.ao o.w.T.la o.w.T.ca, .int .i64 o.w.warm, .string o.p.owner, .string o.p.node, .int .i64 o.p.phase, .int .i64 o.p.since, .int .i64 o.p.cpu, .int .i64 o.p.mem, .slice o.p.L.ao o.p.L.la o.p.L.ca, .slice o.p.S.ao o.p.S.la o.p.S.ca, .slice o.p.T.ao o.p.T.la o.p.T.ca, .int .i64 o.p.warm, .string o.n.group, .int .i64 o.n.cpu, .int .i64 o.n.mem, .slice o.n.L.ao o.n.L.la o.n.L.ca, .slice o.n.T.ao o.n.T.la o.n.T.ca, .int .i64 o.n.since, .bool o.n.closed, .int .i64 o.g.min, .int .i64 o.g.max, .int .i64 o.g.target, .int .i64 o.g.cpu, .int .i64 o.g.mem, .slice o.g.L.ao o.g.L.la o.g.L.ca, .slice o.g.T.ao o.g.T.la o.g.T.ca, .int .i64 o.g.prio, .string o.h.target, .int .i64 o.h.min, .int .i64 o.h.max, .slice o.h.M.ao o.h.M.la o.h.M.ca, .int .i64 o.h.tol, .int .i64 o.h.up.win, .int .i64 o.h.up.pick, .slice o.h.up.P.ao o.h.up.P.la o.h.up.P.ca, .int .i64 o.h.down.win, .int .i64 o.h.down.pick, .slice o.h.down.P.ao o.h.down.P.la o.h.down.P.ca, .slice o.h.past.ao o.h.past.la o.h.past.ca] 44)) := (Below.refl w.heap.size w).alloc (Nat.le_refl _) _
  have R : Hid (RowAt (w.alloc (.cells #[.int .i64 kd, .string nm, .int .u64 ver, .int .i64 o.w.rep, .int .i64 o.w.cpu, .int .i64 o.w.mem, .slice o.w.L.ao o.w.L.la o.w.L.ca, .slice o.w.S.ao o.w.S.la o.w.S.ca, .slice o.w.T.ao o.w.T.la o.w.T.ca, .int .i64 o.w.warm, .string o.p.owner, .string o.p.node, .int .i64 o.p.phase, .int .i64 o.p.since, .int .i64 o.p.cpu, .int .i64 o.p.mem, .slice o.p.L.ao o.p.L.la o.p.L.ca, .slice o.p.S.ao o.p.S.la o.p.S.ca, .slice o.p.T.ao o.p.T.la o.p.T.ca, .int .i64 o.p.warm, .string o.n.group, .int .i64 o.n.cpu, .int .i64 o.n.mem, .slice o.n.L.ao o.n.L.la o.n.L.ca, .slice o.n.T.ao o.n.T.la o.n.T.ca, .int .i64 o.n.since, .bool o.n.closed, .int .i64 o.g.min, .int .i64 o.g.max, .int .i64 o.g.target, .int .i64 o.g.cpu, .int .i64 o.g.mem, .slice o.g.L.ao o.g.L.la o.g.L.ca, .slice o.g.T.ao o.g.T.la o.g.T.ca, .int .i64 o.g.prio, .string o.h.target, .int .i64 o.h.min, .int .i64 o.h.max, .slice o.h.M.ao o.h.M.la o.h.M.ca, .int .i64 o.h.tol, .int .i64 o.h.up.win, .int .i64 o.h.up.pick, .slice o.h.up.P.ao o.h.up.P.la o.h.up.P.ca, .int .i64 o.h.down.win, .int .i64 o.h.down.pick, .slice o.h.down.P.ao o.h.down.P.la o.h.down.P.ca, .slice o.h.past.ao o.h.past.la o.h.past.ca] 44)) w.heap.size [.int .i64 kd, .string nm, .int .u64 ver, .int .i64 o.w.rep, .int .i64 o.w.cpu, .int .i64 o.w.mem, .slice o.w.L.ao o.w.L.la o.w.L.ca, .slice o.w.S.ao o.w.S.la o.w.S.ca, .slice o.w.T.ao o.w.T.la o.w.T.ca, .int .i64 o.w.warm, .string o.p.owner, .string o.p.node, .int .i64 o.p.phase, .int .i64 o.p.since, .int .i64 o.p.cpu, .int .i64 o.p.mem, .slice o.p.L.ao o.p.L.la o.p.L.ca, .slice o.p.S.ao o.p.S.la o.p.S.ca, .slice o.p.T.ao o.p.T.la o.p.T.ca, .int .i64 o.p.warm, .string o.n.group, .int .i64 o.n.cpu, .int .i64 o.n.mem, .slice o.n.L.ao o.n.L.la o.n.L.ca, .slice o.n.T.ao o.n.T.la o.n.T.ca, .int .i64 o.n.since, .bool o.n.closed, .int .i64 o.g.min, .int .i64 o.g.max, .int .i64 o.g.target, .int .i64 o.g.cpu, .int .i64 o.g.mem, .slice o.g.L.ao o.g.L.la o.g.L.ca, .slice o.g.T.ao o.g.T.la o.g.T.ca, .int .i64 o.g.prio, .string o.h.target, .int .i64 o.h.min, .int .i64 o.h.max, .slice o.h.M.ao o.h.M.la o.h.M.ca, .int .i64 o.h.tol, .int .i64 o.h.up.win, .int .i64 o.h.up.pick, .slice o.h.up.P.ao o.h.up.P.la o.h.up.P.ca, .int .i64 o.h.down.win, .int .i64 o.h.down.pick, .slice o.h.down.P.ao o.h.down.P.la o.h.down.P.ca, .slice o.h.past.ao o.h.past.la o.h.past.ca]) := RowAt.of_heap (t := 44) (fr := (0, 0)) (by rw [heap_alloc_new])
  have kk : (w.alloc (.cells #[.int .i64 kd, .string nm, .int .u64 ver, .int .i64 o.w.rep, .int .i64 o.w.cpu, .int .i64 o.w.mem, .slice o.w.L.ao o.w.L.la o.w.L.ca, .slice o.w.S.ao o.w.S.la o.w.S.ca, .slice o.w.T.ao o.w.T.la o.w.T.ca, .int .i64 o.w.warm, .string o.p.owner, .string o.p.node, .int .i64 o.p.phase, .int .i64 o.p.since, .int .i64 o.p.cpu, .int .i64 o.p.mem, .slice o.p.L.ao o.p.L.la o.p.L.ca, .slice o.p.S.ao o.p.S.la o.p.S.ca, .slice o.p.T.ao o.p.T.la o.p.T.ca, .int .i64 o.p.warm, .string o.n.group, .int .i64 o.n.cpu, .int .i64 o.n.mem, .slice o.n.L.ao o.n.L.la o.n.L.ca, .slice o.n.T.ao o.n.T.la o.n.T.ca, .int .i64 o.n.since, .bool o.n.closed, .int .i64 o.g.min, .int .i64 o.g.max, .int .i64 o.g.target, .int .i64 o.g.cpu, .int .i64 o.g.mem, .slice o.g.L.ao o.g.L.la o.g.L.ca, .slice o.g.T.ao o.g.T.la o.g.T.ca, .int .i64 o.g.prio, .string o.h.target, .int .i64 o.h.min, .int .i64 o.h.max, .slice o.h.M.ao o.h.M.la o.h.M.ca, .int .i64 o.h.tol, .int .i64 o.h.up.win, .int .i64 o.h.up.pick, .slice o.h.up.P.ao o.h.up.P.la o.h.up.P.ca, .int .i64 o.h.down.win, .int .i64 o.h.down.pick, .slice o.h.down.P.ao o.h.down.P.la o.h.down.P.ca, .slice o.h.past.ao o.h.past.la o.h.past.ca] 44)).cell? ⟨w.heap.size, 0, none⟩ = some (.int .i64 kd) := R.out 0 _ rfl
  generalize w.alloc (.cells #[.int .i64 kd, .string nm, .int .u64 ver, .int .i64 o.w.rep, .int .i64 o.w.cpu, .int .i64 o.w.mem, .slice o.w.L.ao o.w.L.la o.w.L.ca, .slice o.w.S.ao o.w.S.la o.w.S.ca, .slice o.w.T.ao o.w.T.la o.w.T.ca, .int .i64 o.w.warm, .string o.p.owner, .string o.p.node, .int .i64 o.p.phase, .int .i64 o.p.since, .int .i64 o.p.cpu, .int .i64 o.p.mem, .slice o.p.L.ao o.p.L.la o.p.L.ca, .slice o.p.S.ao o.p.S.la o.p.S.ca, .slice o.p.T.ao o.p.T.la o.p.T.ca, .int .i64 o.p.warm, .string o.n.group, .int .i64 o.n.cpu, .int .i64 o.n.mem, .slice o.n.L.ao o.n.L.la o.n.L.ca, .slice o.n.T.ao o.n.T.la o.n.T.ca, .int .i64 o.n.since, .bool o.n.closed, .int .i64 o.g.min, .int .i64 o.g.max, .int .i64 o.g.target, .int .i64 o.g.cpu, .int .i64 o.g.mem, .slice o.g.L.ao o.g.L.la o.g.L.ca, .slice o.g.T.ao o.g.T.la o.g.T.ca, .int .i64 o.g.prio, .string o.h.target, .int .i64 o.h.min, .int .i64 o.h.max, .slice o.h.M.ao o.h.M.la o.h.M.ca, .int .i64 o.h.tol, .int .i64 o.h.up.win, .int .i64 o.h.up.pick, .slice o.h.up.P.ao o.h.up.P.la o.h.up.P.ca, .int .i64 o.h.down.win, .int .i64 o.h.down.pick, .slice o.h.down.P.ao o.h.down.P.la o.h.down.P.ca, .slice o.h.past.ao o.h.past.la o.h.past.ca] 44) = w1 at hb0 R kk ⊢
  generalize Value.agg #[.int .i64 kd, .string nm, .int .u64 ver, .int .i64 o.w.rep, .int .i64 o.w.cpu, .int .i64 o.w.mem, .slice o.w.L.ao o.w.L.la o.w.L.ca, .slice o.w.S.ao o.w.S.la o.w.S.ca, .slice o.w.T.ao o.w.T.la o.w.T.ca, .int .i64 o.w.warm, .string o.p.owner, .string o.p.node, .int .i64 o.p.phase, .int .i64 o.p.since, .int .i64 o.p.cpu, .int .i64 o.p.mem, .slice o.p.L.ao o.p.L.la o.p.L.ca, .slice o.p.S.ao o.p.S.la o.p.S.ca, .slice o.p.T.ao o.p.T.la o.p.T.ca, .int .i64 o.p.warm, .string o.n.group, .int .i64 o.n.cpu, .int .i64 o.n.mem, .slice o.n.L.ao o.n.L.la o.n.L.ca, .slice o.n.T.ao o.n.T.la o.n.T.ca, .int .i64 o.n.since, .bool o.n.closed, .int .i64 o.g.min, .int .i64 o.g.max, .int .i64 o.g.target, .int .i64 o.g.cpu, .int .i64 o.g.mem, .slice o.g.L.ao o.g.L.la o.g.L.ca, .slice o.g.T.ao o.g.T.la o.g.T.ca, .int .i64 o.g.prio, .string o.h.target, .int .i64 o.h.min, .int .i64 o.h.max, .slice o.h.M.ao o.h.M.la o.h.M.ca, .int .i64 o.h.tol, .int .i64 o.h.up.win, .int .i64 o.h.up.pick, .slice o.h.up.P.ao o.h.up.P.la o.h.up.P.ca, .int .i64 o.h.down.win, .int .i64 o.h.down.pick, .slice o.h.down.P.ao o.h.down.P.la o.h.down.P.ca, .slice o.h.past.ao o.h.past.la o.h.past.ca] = v0
  have HS := Lib.hid (h.b hb0)
  have Hb := Lib.hid hb0
  obtain ⟨bo, hbo⟩ : ∃ n, w.heap.size = n := ⟨_, rfl⟩
  rw [hbo] at R kk ⊢
  clear h hb0 hbo
  have K0 := Lib.hid kk
  clear kk
  go_wp2_with fail
  refine (lives07 _).mono ?_
  rintro e w2 ⟨rfl, hb2⟩
  replace R := Lib.hid (RowAt.below hb2 rfl R.out)
  replace HS := Lib.hid (HS.out.b hb2)
  have kk := Below.cell_some hb2 K0.out
  clear K0
  have K0 := Lib.hid kk
  clear kk
  replace Hb := Lib.hid (Hb.out.trans (Below.mono hb2 Hb.out.size))
  clear hb2
  go_wp2_with ((with_reducible refine at_slot 24 ?_); go_must (refine wpList_load_at_g aggObjT (by first | rfl | (simp [Region.wanted, yielded, n0, n1]; done)) _ rfl ⟨bo, 0, none⟩ rfl [.int .i64 kd, .string nm, .int .u64 ver, .int .i64 o.w.rep, .int .i64 o.w.cpu, .int .i64 o.w.mem, .slice o.w.L.ao o.w.L.la o.w.L.ca, .slice o.w.S.ao o.w.S.la o.w.S.ca, .slice o.w.T.ao o.w.T.la o.w.T.ca, .int .i64 o.w.warm, .string o.p.owner, .string o.p.node, .int .i64 o.p.phase, .int .i64 o.p.since, .int .i64 o.p.cpu, .int .i64 o.p.mem, .slice o.p.L.ao o.p.L.la o.p.L.ca, .slice o.p.S.ao o.p.S.la o.p.S.ca, .slice o.p.T.ao o.p.T.la o.p.T.ca, .int .i64 o.p.warm, .string o.n.group, .int .i64 o.n.cpu, .int .i64 o.n.mem, .slice o.n.L.ao o.n.L.la o.n.L.ca, .slice o.n.T.ao o.n.T.la o.n.T.ca, .int .i64 o.n.since, .bool o.n.closed, .int .i64 o.g.min, .int .i64 o.g.max, .int .i64 o.g.target, .int .i64 o.g.cpu, .int .i64 o.g.mem, .slice o.g.L.ao o.g.L.la o.g.L.ca, .slice o.g.T.ao o.g.T.la o.g.T.ca, .int .i64 o.g.prio, .string o.h.target, .int .i64 o.h.min, .int .i64 o.h.max, .slice o.h.M.ao o.h.M.la o.h.M.ca, .int .i64 o.h.tol, .int .i64 o.h.up.win, .int .i64 o.h.up.pick, .slice o.h.up.P.ao o.h.up.P.la o.h.up.P.ca, .int .i64 o.h.down.win, .int .i64 o.h.down.pick, .slice o.h.down.P.ao o.h.down.P.la o.h.down.P.ca, .slice o.h.past.ao o.h.past.la o.h.past.ca] rfl (fun j u hu => by rw [Addr.add_lit, Nat.zero_add]; exact R.out j u hu) ?_))
  refine (few_says kd nm ver o _ HR.out).mono ?_
  rintro e w3 ⟨⟨b, rfl, HF⟩, hb3⟩
  replace R := Lib.hid (RowAt.below hb3 rfl R.out)
  replace HS := Lib.hid (HS.out.b hb3)
  have kk := Below.cell_some hb3 K0.out
  clear K0
  have K0 := Lib.hid kk
  clear kk
  replace Hb := Lib.hid (Hb.out.trans (Below.mono hb3 Hb.out.size))
  clear hb3
  rcases b with _ | _
  · go_wp2_with fail
    refine (lives07 _).mono ?_
    rintro e w4 ⟨rfl, hb4⟩
    replace Hb := Lib.hid (Hb.out.trans (Below.mono hb4 Hb.out.size))
    clear hb4
    go_wp2_with fail
    go_ret
    exact ⟨rfl, Hb.out⟩
  replace HF := Lib.hid (HF rfl)
  have kk := K0.out
  by_cases n0 : kd < 0
  · go_wp2_with fail
    refine (lives07 _).mono ?_
    rintro e w4 ⟨rfl, hb4⟩
    replace Hb := Lib.hid (Hb.out.trans (Below.mono hb4 Hb.out.size))
    clear hb4
    go_wp2_with fail
    go_ret
    exact ⟨rfl, Hb.out⟩
  by_cases n1 : 5 ≤ kd
  · go_wp2_with fail
    refine (lives07 _).mono ?_
    rintro e w4 ⟨rfl, hb4⟩
    replace Hb := Lib.hid (Hb.out.trans (Below.mono hb4 Hb.out.size))
    clear hb4
    go_wp2_with fail
    go_ret
    exact ⟨rfl, Hb.out⟩
  go_wp2_with ((with_reducible refine at_slot 39 ?_); go_must (refine wpList_load_at_g aggObjT (by first | rfl | (simp [Region.wanted, yielded, n0, n1]; done)) _ rfl ⟨bo, 0, none⟩ rfl [.int .i64 kd, .string nm, .int .u64 ver, .int .i64 o.w.rep, .int .i64 o.w.cpu, .int .i64 o.w.mem, .slice o.w.L.ao o.w.L.la o.w.L.ca, .slice o.w.S.ao o.w.S.la o.w.S.ca, .slice o.w.T.ao o.w.T.la o.w.T.ca, .int .i64 o.w.warm, .string o.p.owner, .string o.p.node, .int .i64 o.p.phase, .int .i64 o.p.since, .int .i64 o.p.cpu, .int .i64 o.p.mem, .slice o.p.L.ao o.p.L.la o.p.L.ca, .slice o.p.S.ao o.p.S.la o.p.S.ca, .slice o.p.T.ao o.p.T.la o.p.T.ca, .int .i64 o.p.warm, .string o.n.group, .int .i64 o.n.cpu, .int .i64 o.n.mem, .slice o.n.L.ao o.n.L.la o.n.L.ca, .slice o.n.T.ao o.n.T.la o.n.T.ca, .int .i64 o.n.since, .bool o.n.closed, .int .i64 o.g.min, .int .i64 o.g.max, .int .i64 o.g.target, .int .i64 o.g.cpu, .int .i64 o.g.mem, .slice o.g.L.ao o.g.L.la o.g.L.ca, .slice o.g.T.ao o.g.T.la o.g.T.ca, .int .i64 o.g.prio, .string o.h.target, .int .i64 o.h.min, .int .i64 o.h.max, .slice o.h.M.ao o.h.M.la o.h.M.ca, .int .i64 o.h.tol, .int .i64 o.h.up.win, .int .i64 o.h.up.pick, .slice o.h.up.P.ao o.h.up.P.la o.h.up.P.ca, .int .i64 o.h.down.win, .int .i64 o.h.down.pick, .slice o.h.down.P.ao o.h.down.P.la o.h.down.P.ca, .slice o.h.past.ao o.h.past.la o.h.past.ca] rfl (fun j u hu => by rw [Addr.add_lit, Nat.zero_add]; exact R.out j u hu) ?_))
  clear kk
  refine (short_any kd nm ver o _ HS.out).mono ?_
  rintro e w4 ⟨rfl, hb4⟩
  replace R := Lib.hid (RowAt.below hb4 rfl R.out)
  replace HS := Lib.hid (HS.out.b hb4)
  have kk := Below.cell_some hb4 K0.out
  clear K0
  have K0 := Lib.hid kk
  clear kk
  replace Hb := Lib.hid (Hb.out.trans (Below.mono hb4 Hb.out.size))
  clear hb4
  obtain ⟨c, hc⟩ : ∃ c, shortO kd nm o = c := ⟨_, rfl⟩
  rw [hc]
  cases c with
  | false =>
    go_wp2_with fail
    refine (lives07 _).mono ?_
    rintro e w5 ⟨rfl, hb5⟩
    replace Hb := Lib.hid (Hb.out.trans (Below.mono hb5 Hb.out.size))
    clear hb5
    go_wp2_with fail
    go_ret
    exact ⟨rfl, Hb.out⟩
  | true =>
    have TM : Hid ((objS kd nm ver o).size ≤ 9223372036854775807) := short_text HS.out hc
    clear hc K0
    go_upto_region 3 with fail
    have hBlk : BlkOk (fun k => (bo, 0)) w4 [(0, [.int .i64 kd, .string nm, .int .u64 ver, .int .i64 o.w.rep, .int .i64 o.w.cpu, .int .i64 o.w.mem, .slice o.w.L.ao o.w.L.la o.w.L.ca, .slice o.w.S.ao o.w.S.la o.w.S.ca, .slice o.w.T.ao o.w.T.la o.w.T.ca, .int .i64 o.w.warm, .string o.p.owner, .string o.p.node, .int .i64 o.p.phase, .int .i64 o.p.since, .int .i64 o.p.cpu, .int .i64 o.p.mem, .slice o.p.L.ao o.p.L.la o.p.L.ca, .slice o.p.S.ao o.p.S.la o.p.S.ca, .slice o.p.T.ao o.p.T.la o.p.T.ca, .int .i64 o.p.warm, .string o.n.group, .int .i64 o.n.cpu, .int .i64 o.n.mem, .slice o.n.L.ao o.n.L.la o.n.L.ca, .slice o.n.T.ao o.n.T.la o.n.T.ca, .int .i64 o.n.since, .bool o.n.closed, .int .i64 o.g.min, .int .i64 o.g.max, .int .i64 o.g.target, .int .i64 o.g.cpu, .int .i64 o.g.mem, .slice o.g.L.ao o.g.L.la o.g.L.ca, .slice o.g.T.ao o.g.T.la o.g.T.ca, .int .i64 o.g.prio, .string o.h.target, .int .i64 o.h.min, .int .i64 o.h.max, .slice o.h.M.ao o.h.M.la o.h.M.ca, .int .i64 o.h.tol, .int .i64 o.h.up.win, .int .i64 o.h.up.pick, .slice o.h.up.P.ao o.h.up.P.la o.h.up.P.ca, .int .i64 o.h.down.win, .int .i64 o.h.down.pick, .slice o.h.down.P.ao o.h.down.P.la o.h.down.P.ca, .slice o.h.past.ao o.h.past.la o.h.past.ca])] := (blk_cons (k := 0) R.out.from_ blk_nil)
    refine region_chain (N := 167) (Kept w4) (fun k => (bo, 0)) ⟨objSta, [(0, [.int .i64 kd, .string nm, .int .u64 ver, .int .i64 o.w.rep, .int .i64 o.w.cpu, .int .i64 o.w.mem, .slice o.w.L.ao o.w.L.la o.w.L.ca, .slice o.w.S.ao o.w.S.la o.w.S.ca, .slice o.w.T.ao o.w.T.la o.w.T.ca, .int .i64 o.w.warm, .string o.p.owner, .string o.p.node, .int .i64 o.p.phase, .int .i64 o.p.since, .int .i64 o.p.cpu, .int .i64 o.p.mem, .slice o.p.L.ao o.p.L.la o.p.L.ca, .slice o.p.S.ao o.p.S.la o.p.S.ca, .slice o.p.T.ao o.p.T.la o.p.T.ca, .int .i64 o.p.warm, .string o.n.group, .int .i64 o.n.cpu, .int .i64 o.n.mem, .slice o.n.L.ao o.n.L.la o.n.L.ca, .slice o.n.T.ao o.n.T.la o.n.T.ca, .int .i64 o.n.since, .bool o.n.closed, .int .i64 o.g.min, .int .i64 o.g.max, .int .i64 o.g.target, .int .i64 o.g.cpu, .int .i64 o.g.mem, .slice o.g.L.ao o.g.L.la o.g.L.ca, .slice o.g.T.ao o.g.T.la o.g.T.ca, .int .i64 o.g.prio, .string o.h.target, .int .i64 o.h.min, .int .i64 o.h.max, .slice o.h.M.ao o.h.M.la o.h.M.ca, .int .i64 o.h.tol, .int .i64 o.h.up.win, .int .i64 o.h.up.pick, .slice o.h.up.P.ao o.h.up.P.la o.h.up.P.ca, .int .i64 o.h.down.win, .int .i64 o.h.down.pick, .slice o.h.down.P.ao o.h.down.P.la o.h.down.P.ca, .slice o.h.past.ao o.h.past.la o.h.past.ca])], [(45, .string (objS kd nm ver o))], []⟩ 3 (Kept.refl w4) (tab_ok objSta_ok hBlk)
      [(1, .ptr 0 0), (2, .val (.bool false))] [(1, .ptr 0 0), (2, .val (.bool false)), (3, .val (.string (objS kd nm ver o)))] [.call 11 [.val (.agg #[.int .i64 kd, .string nm, .int .u64 ver, .int .i64 o.w.rep, .int .i64 o.w.cpu, .int .i64 o.w.mem, .slice o.w.L.ao o.w.L.la o.w.L.ca, .slice o.w.S.ao o.w.S.la o.w.S.ca, .slice o.w.T.ao o.w.T.la o.w.T.ca, .int .i64 o.w.warm, .string o.p.owner, .string o.p.node, .int .i64 o.p.phase, .int .i64 o.p.since, .int .i64 o.p.cpu, .int .i64 o.p.mem, .slice o.p.L.ao o.p.L.la o.p.L.ca, .slice o.p.S.ao o.p.S.la o.p.S.ca, .slice o.p.T.ao o.p.T.la o.p.T.ca, .int .i64 o.p.warm, .string o.n.group, .int .i64 o.n.cpu, .int .i64 o.n.mem, .slice o.n.L.ao o.n.L.la o.n.L.ca, .slice o.n.T.ao o.n.T.la o.n.T.ca, .int .i64 o.n.since, .bool o.n.closed, .int .i64 o.g.min, .int .i64 o.g.max, .int .i64 o.g.target, .int .i64 o.g.cpu, .int .i64 o.g.mem, .slice o.g.L.ao o.g.L.la o.g.L.ca, .slice o.g.T.ao o.g.T.la o.g.T.ca, .int .i64 o.g.prio, .string o.h.target, .int .i64 o.h.min, .int .i64 o.h.max, .slice o.h.M.ao o.h.M.la o.h.M.ca, .int .i64 o.h.tol, .int .i64 o.h.up.win, .int .i64 o.h.up.pick, .slice o.h.up.P.ao o.h.up.P.la o.h.up.P.ca, .int .i64 o.h.down.win, .int .i64 o.h.down.pick, .slice o.h.down.P.ao o.h.down.P.la o.h.down.P.ca, .slice o.h.past.ao o.h.past.la o.h.past.ca])] (.string (objS kd nm ver o))] rfl (by as_aux_lemma => kernel_rfl) (by as_aux_lemma => kernel_rfl) ?_ none (by as_aux_lemma => kernel_rfl) (fun f => [f 0, .pointer (some ⟨bo, 0, none⟩), .bool false, .string (objS kd nm ver o), f 4, f 5, f 6, f 7, f 8, f 9, f 10, f 11, f 12, f 13, f 14, f 15, f 16, f 17, f 18, f 19, f 20, f 21, f 22, f 23, f 24, f 25, f 26, f 27, f 28, f 29, f 30, f 31, f 32, f 33, f 34, f 35, f 36, f 37, f 38, f 39, f 40, f 41, f 42, f 43, f 44, f 45, f 46, f 47, f 48, f 49, f 50, f 51, f 52, f 53, f 54, f 55, f 56, f 57, f 58, f 59, f 60, f 61, f 62, f 63, f 64, f 65, f 66, f 67, f 68, f 69, f 70, f 71, f 72, f 73, f 74, f 75, f 76, f 77, f 78, f 79, f 80, f 81, f 82, f 83, f 84, f 85, f 86, f 87, f 88, f 89, f 90, f 91, f 92, f 93, f 94, f 95, f 96, f 97, f 98, f 99, f 100, f 101, f 102, f 103, f 104, f 105, f 106, f 107, f 108, f 109, f 110, f 111, f 112, f 113, f 114, f 115, f 116, f 117, f 118, f 119, f 120, f 121, f 122, f 123, f 124, f 125, f 126, f 127, f 128, f 129, f 130, f 131, f 132, f 133, f 134, f 135, f 136, f 137, f 138, f 139, f 140, f 141, f 142, f 143, f 144, f 145, f 146, f 147, f 148, f 149, f 150, f 151, f 152, f 153, f 154, f 155, f 156, f 157, f 158, f 159, f 160, f 161, f 162, f 163, f 164, f 165, f 166]) (fun f => by as_aux_lemma => kernel_rfl) ?_
    · clear hBlk
      exact (ob_cons (ob_kept Try.func11 (by kernel_rfl) rfl fun w' hw' => object_any kd nm ver HV.out o w' (HS.out.b hw') TM.out) ob_nil)
    intro f w5 hb5
    clear hBlk
    simp only [List.drop_succ_cons, List.drop_zero]
    replace R := Lib.hid (RowAt.below hb5 rfl R.out)
    replace HS := Lib.hid (HS.out.b hb5)
    replace Hb := Lib.hid (Hb.out.trans (Below.mono hb5 Hb.out.size))
    clear hb5
    have R5 := Lib.hid R.out
    have HS5 := Lib.hid HS.out
    have few : o.rows.Few := by
      have := HF.out.sum
      exact ⟨Nat.le_trans HF.out.h0 (by decide), Nat.le_trans HF.out.h1 (by decide), Nat.le_trans HF.out.h2 (by decide), Nat.le_trans HF.out.h3 (by decide), Nat.le_trans HF.out.h4 (by decide), Nat.le_trans HF.out.h5 (by decide), Nat.le_trans HF.out.h6 (by decide), Nat.le_trans HF.out.h7 (by decide), (by show o.w.S.la ≤ _; omega), (by show o.p.S.la ≤ _; omega), (by show o.h.M.la ≤ _; omega), (by show o.h.up.P.la ≤ _; omega), (by show o.h.down.P.la ≤ _; omega), (by show o.h.past.la ≤ _; omega)⟩
    have FW := Lib.hid few
    clear few
    go_upto_region 4 with fail
    go_wp2_with ((with_reducible refine at_slot 46 ?_); go_must (refine wpList_load_at_g aggObjT (by first | rfl | (simp [Region.wanted, yielded, n0, n1]; done)) _ rfl ⟨bo, 0, none⟩ rfl [.int .i64 kd, .string nm, .int .u64 ver, .int .i64 o.w.rep, .int .i64 o.w.cpu, .int .i64 o.w.mem, .slice o.w.L.ao o.w.L.la o.w.L.ca, .slice o.w.S.ao o.w.S.la o.w.S.ca, .slice o.w.T.ao o.w.T.la o.w.T.ca, .int .i64 o.w.warm, .string o.p.owner, .string o.p.node, .int .i64 o.p.phase, .int .i64 o.p.since, .int .i64 o.p.cpu, .int .i64 o.p.mem, .slice o.p.L.ao o.p.L.la o.p.L.ca, .slice o.p.S.ao o.p.S.la o.p.S.ca, .slice o.p.T.ao o.p.T.la o.p.T.ca, .int .i64 o.p.warm, .string o.n.group, .int .i64 o.n.cpu, .int .i64 o.n.mem, .slice o.n.L.ao o.n.L.la o.n.L.ca, .slice o.n.T.ao o.n.T.la o.n.T.ca, .int .i64 o.n.since, .bool o.n.closed, .int .i64 o.g.min, .int .i64 o.g.max, .int .i64 o.g.target, .int .i64 o.g.cpu, .int .i64 o.g.mem, .slice o.g.L.ao o.g.L.la o.g.L.ca, .slice o.g.T.ao o.g.T.la o.g.T.ca, .int .i64 o.g.prio, .string o.h.target, .int .i64 o.h.min, .int .i64 o.h.max, .slice o.h.M.ao o.h.M.la o.h.M.ca, .int .i64 o.h.tol, .int .i64 o.h.up.win, .int .i64 o.h.up.pick, .slice o.h.up.P.ao o.h.up.P.la o.h.up.P.ca, .int .i64 o.h.down.win, .int .i64 o.h.down.pick, .slice o.h.down.P.ao o.h.down.P.la o.h.down.P.ca, .slice o.h.past.ao o.h.past.la o.h.past.ca] rfl (fun j u hu => by rw [Addr.add_lit, Nat.zero_add]; exact R.out j u hu) ?_))
    refine (clone_any kd nm ver o _ HS.out FW.out).mono ?_
    rintro e w6 ⟨r, rfl, hL, hO, hb6⟩
    replace R := Lib.hid (RowAt.below hb6 rfl R.out)
    replace HS := Lib.hid (HS.out.b hb6)
    have hs6 := hb6.size
    go_upto_region 5 with ((with_reducible refine at_slot 4 ?_); go_must (refine wpList_var aggObjT rfl rfl rfl _ _ rfl rfl #[.int .i64 kd, .string nm, .int .u64 ver, .int .i64 (o.with r).w.rep, .int .i64 (o.with r).w.cpu, .int .i64 (o.with r).w.mem, .slice (o.with r).w.L.ao (o.with r).w.L.la (o.with r).w.L.ca, .slice (o.with r).w.S.ao (o.with r).w.S.la (o.with r).w.S.ca, .slice (o.with r).w.T.ao (o.with r).w.T.la (o.with r).w.T.ca, .int .i64 (o.with r).w.warm, .string (o.with r).p.owner, .string (o.with r).p.node, .int .i64 (o.with r).p.phase, .int .i64 (o.with r).p.since, .int .i64 (o.with r).p.cpu, .int .i64 (o.with r).p.mem, .slice (o.with r).p.L.ao (o.with r).p.L.la (o.with r).p.L.ca, .slice (o.with r).p.S.ao (o.with r).p.S.la (o.with r).p.S.ca, .slice (o.with r).p.T.ao (o.with r).p.T.la (o.with r).p.T.ca, .int .i64 (o.with r).p.warm, .string (o.with r).n.group, .int .i64 (o.with r).n.cpu, .int .i64 (o.with r).n.mem, .slice (o.with r).n.L.ao (o.with r).n.L.la (o.with r).n.L.ca, .slice (o.with r).n.T.ao (o.with r).n.T.la (o.with r).n.T.ca, .int .i64 (o.with r).n.since, .bool (o.with r).n.closed, .int .i64 (o.with r).g.min, .int .i64 (o.with r).g.max, .int .i64 (o.with r).g.target, .int .i64 (o.with r).g.cpu, .int .i64 (o.with r).g.mem, .slice (o.with r).g.L.ao (o.with r).g.L.la (o.with r).g.L.ca, .slice (o.with r).g.T.ao (o.with r).g.T.la (o.with r).g.T.ca, .int .i64 (o.with r).g.prio, .string (o.with r).h.target, .int .i64 (o.with r).h.min, .int .i64 (o.with r).h.max, .slice (o.with r).h.M.ao (o.with r).h.M.la (o.with r).h.M.ca, .int .i64 (o.with r).h.tol, .int .i64 (o.with r).h.up.win, .int .i64 (o.with r).h.up.pick, .slice (o.with r).h.up.P.ao (o.with r).h.up.P.la (o.with r).h.up.P.ca, .int .i64 (o.with r).h.down.win, .int .i64 (o.with r).h.down.pick, .slice (o.with r).h.down.P.ao (o.with r).h.down.P.la (o.with r).h.down.P.ca, .slice (o.with r).h.past.ao (o.with r).h.past.la (o.with r).h.past.ca] rfl rfl rfl rfl ?_))
    have hb7 : Below w6.heap.size w6 (w6.alloc (.cells #[.int .i64 kd, .string nm, .int .u64 ver, .int .i64 (o.with r).w.rep, .int .i64 (o.with r).w.cpu, .int .i64 (o.with r).w.mem, .slice (o.with r).w.L.ao (o.with r).w.L.la (o.with r).w.L.ca, .slice (o.with r).w.S.ao (o.with r).w.S.la (o.with r).w.S.ca, .slice (o.with r).w.T.ao (o.with r).w.T.la (o.with r).w.T.ca, .int .i64 (o.with r).w.warm, .string (o.with r).p.owner, .string (o.with r).p.node, .int .i64 (o.with r).p.phase, .int .i64 (o.with r).p.since, .int .i64 (o.with r).p.cpu, .int .i64 (o.with r).p.mem, .slice (o.with r).p.L.ao (o.with r).p.L.la (o.with r).p.L.ca, .slice (o.with r).p.S.ao (o.with r).p.S.la (o.with r).p.S.ca, .slice (o.with r).p.T.ao (o.with r).p.T.la (o.with r).p.T.ca, .int .i64 (o.with r).p.warm, .string (o.with r).n.group, .int .i64 (o.with r).n.cpu, .int .i64 (o.with r).n.mem, .slice (o.with r).n.L.ao (o.with r).n.L.la (o.with r).n.L.ca, .slice (o.with r).n.T.ao (o.with r).n.T.la (o.with r).n.T.ca, .int .i64 (o.with r).n.since, .bool (o.with r).n.closed, .int .i64 (o.with r).g.min, .int .i64 (o.with r).g.max, .int .i64 (o.with r).g.target, .int .i64 (o.with r).g.cpu, .int .i64 (o.with r).g.mem, .slice (o.with r).g.L.ao (o.with r).g.L.la (o.with r).g.L.ca, .slice (o.with r).g.T.ao (o.with r).g.T.la (o.with r).g.T.ca, .int .i64 (o.with r).g.prio, .string (o.with r).h.target, .int .i64 (o.with r).h.min, .int .i64 (o.with r).h.max, .slice (o.with r).h.M.ao (o.with r).h.M.la (o.with r).h.M.ca, .int .i64 (o.with r).h.tol, .int .i64 (o.with r).h.up.win, .int .i64 (o.with r).h.up.pick, .slice (o.with r).h.up.P.ao (o.with r).h.up.P.la (o.with r).h.up.P.ca, .int .i64 (o.with r).h.down.win, .int .i64 (o.with r).h.down.pick, .slice (o.with r).h.down.P.ao (o.with r).h.down.P.la (o.with r).h.down.P.ca, .slice (o.with r).h.past.ao (o.with r).h.past.la (o.with r).h.past.ca] 44)) := (Below.refl w6.heap.size w6).alloc (Nat.le_refl _) _
    have RC : Hid (RowAt (w6.alloc (.cells #[.int .i64 kd, .string nm, .int .u64 ver, .int .i64 (o.with r).w.rep, .int .i64 (o.with r).w.cpu, .int .i64 (o.with r).w.mem, .slice (o.with r).w.L.ao (o.with r).w.L.la (o.with r).w.L.ca, .slice (o.with r).w.S.ao (o.with r).w.S.la (o.with r).w.S.ca, .slice (o.with r).w.T.ao (o.with r).w.T.la (o.with r).w.T.ca, .int .i64 (o.with r).w.warm, .string (o.with r).p.owner, .string (o.with r).p.node, .int .i64 (o.with r).p.phase, .int .i64 (o.with r).p.since, .int .i64 (o.with r).p.cpu, .int .i64 (o.with r).p.mem, .slice (o.with r).p.L.ao (o.with r).p.L.la (o.with r).p.L.ca, .slice (o.with r).p.S.ao (o.with r).p.S.la (o.with r).p.S.ca, .slice (o.with r).p.T.ao (o.with r).p.T.la (o.with r).p.T.ca, .int .i64 (o.with r).p.warm, .string (o.with r).n.group, .int .i64 (o.with r).n.cpu, .int .i64 (o.with r).n.mem, .slice (o.with r).n.L.ao (o.with r).n.L.la (o.with r).n.L.ca, .slice (o.with r).n.T.ao (o.with r).n.T.la (o.with r).n.T.ca, .int .i64 (o.with r).n.since, .bool (o.with r).n.closed, .int .i64 (o.with r).g.min, .int .i64 (o.with r).g.max, .int .i64 (o.with r).g.target, .int .i64 (o.with r).g.cpu, .int .i64 (o.with r).g.mem, .slice (o.with r).g.L.ao (o.with r).g.L.la (o.with r).g.L.ca, .slice (o.with r).g.T.ao (o.with r).g.T.la (o.with r).g.T.ca, .int .i64 (o.with r).g.prio, .string (o.with r).h.target, .int .i64 (o.with r).h.min, .int .i64 (o.with r).h.max, .slice (o.with r).h.M.ao (o.with r).h.M.la (o.with r).h.M.ca, .int .i64 (o.with r).h.tol, .int .i64 (o.with r).h.up.win, .int .i64 (o.with r).h.up.pick, .slice (o.with r).h.up.P.ao (o.with r).h.up.P.la (o.with r).h.up.P.ca, .int .i64 (o.with r).h.down.win, .int .i64 (o.with r).h.down.pick, .slice (o.with r).h.down.P.ao (o.with r).h.down.P.la (o.with r).h.down.P.ca, .slice (o.with r).h.past.ao (o.with r).h.past.la (o.with r).h.past.ca] 44)) w6.heap.size [.int .i64 kd, .string nm, .int .u64 ver, .int .i64 (o.with r).w.rep, .int .i64 (o.with r).w.cpu, .int .i64 (o.with r).w.mem, .slice (o.with r).w.L.ao (o.with r).w.L.la (o.with r).w.L.ca, .slice (o.with r).w.S.ao (o.with r).w.S.la (o.with r).w.S.ca, .slice (o.with r).w.T.ao (o.with r).w.T.la (o.with r).w.T.ca, .int .i64 (o.with r).w.warm, .string (o.with r).p.owner, .string (o.with r).p.node, .int .i64 (o.with r).p.phase, .int .i64 (o.with r).p.since, .int .i64 (o.with r).p.cpu, .int .i64 (o.with r).p.mem, .slice (o.with r).p.L.ao (o.with r).p.L.la (o.with r).p.L.ca, .slice (o.with r).p.S.ao (o.with r).p.S.la (o.with r).p.S.ca, .slice (o.with r).p.T.ao (o.with r).p.T.la (o.with r).p.T.ca, .int .i64 (o.with r).p.warm, .string (o.with r).n.group, .int .i64 (o.with r).n.cpu, .int .i64 (o.with r).n.mem, .slice (o.with r).n.L.ao (o.with r).n.L.la (o.with r).n.L.ca, .slice (o.with r).n.T.ao (o.with r).n.T.la (o.with r).n.T.ca, .int .i64 (o.with r).n.since, .bool (o.with r).n.closed, .int .i64 (o.with r).g.min, .int .i64 (o.with r).g.max, .int .i64 (o.with r).g.target, .int .i64 (o.with r).g.cpu, .int .i64 (o.with r).g.mem, .slice (o.with r).g.L.ao (o.with r).g.L.la (o.with r).g.L.ca, .slice (o.with r).g.T.ao (o.with r).g.T.la (o.with r).g.T.ca, .int .i64 (o.with r).g.prio, .string (o.with r).h.target, .int .i64 (o.with r).h.min, .int .i64 (o.with r).h.max, .slice (o.with r).h.M.ao (o.with r).h.M.la (o.with r).h.M.ca, .int .i64 (o.with r).h.tol, .int .i64 (o.with r).h.up.win, .int .i64 (o.with r).h.up.pick, .slice (o.with r).h.up.P.ao (o.with r).h.up.P.la (o.with r).h.up.P.ca, .int .i64 (o.with r).h.down.win, .int .i64 (o.with r).h.down.pick, .slice (o.with r).h.down.P.ao (o.with r).h.down.P.la (o.with r).h.down.P.ca, .slice (o.with r).h.past.ao (o.with r).h.past.la (o.with r).h.past.ca]) := RowAt.of_heap (t := 44) (fr := (0, 0)) (by rw [heap_alloc_new])
    have HC0 := hO.shapes hL HS.out
    have WR0 := hO.wr
    generalize w6.alloc (.cells #[.int .i64 kd, .string nm, .int .u64 ver, .int .i64 (o.with r).w.rep, .int .i64 (o.with r).w.cpu, .int .i64 (o.with r).w.mem, .slice (o.with r).w.L.ao (o.with r).w.L.la (o.with r).w.L.ca, .slice (o.with r).w.S.ao (o.with r).w.S.la (o.with r).w.S.ca, .slice (o.with r).w.T.ao (o.with r).w.T.la (o.with r).w.T.ca, .int .i64 (o.with r).w.warm, .string (o.with r).p.owner, .string (o.with r).p.node, .int .i64 (o.with r).p.phase, .int .i64 (o.with r).p.since, .int .i64 (o.with r).p.cpu, .int .i64 (o.with r).p.mem, .slice (o.with r).p.L.ao (o.with r).p.L.la (o.with r).p.L.ca, .slice (o.with r).p.S.ao (o.with r).p.S.la (o.with r).p.S.ca, .slice (o.with r).p.T.ao (o.with r).p.T.la (o.with r).p.T.ca, .int .i64 (o.with r).p.warm, .string (o.with r).n.group, .int .i64 (o.with r).n.cpu, .int .i64 (o.with r).n.mem, .slice (o.with r).n.L.ao (o.with r).n.L.la (o.with r).n.L.ca, .slice (o.with r).n.T.ao (o.with r).n.T.la (o.with r).n.T.ca, .int .i64 (o.with r).n.since, .bool (o.with r).n.closed, .int .i64 (o.with r).g.min, .int .i64 (o.with r).g.max, .int .i64 (o.with r).g.target, .int .i64 (o.with r).g.cpu, .int .i64 (o.with r).g.mem, .slice (o.with r).g.L.ao (o.with r).g.L.la (o.with r).g.L.ca, .slice (o.with r).g.T.ao (o.with r).g.T.la (o.with r).g.T.ca, .int .i64 (o.with r).g.prio, .string (o.with r).h.target, .int .i64 (o.with r).h.min, .int .i64 (o.with r).h.max, .slice (o.with r).h.M.ao (o.with r).h.M.la (o.with r).h.M.ca, .int .i64 (o.with r).h.tol, .int .i64 (o.with r).h.up.win, .int .i64 (o.with r).h.up.pick, .slice (o.with r).h.up.P.ao (o.with r).h.up.P.la (o.with r).h.up.P.ca, .int .i64 (o.with r).h.down.win, .int .i64 (o.with r).h.down.pick, .slice (o.with r).h.down.P.ao (o.with r).h.down.P.la (o.with r).h.down.P.ca, .slice (o.with r).h.past.ao (o.with r).h.past.la (o.with r).h.past.ca] 44) = w7 at hb7 RC ⊢
    have HC := Lib.hid (HC0.b hb7)
    have WR := Lib.hid (WR0.below hb7)
    replace R := Lib.hid (RowAt.below hb7 rfl R.out)
    replace HS := Lib.hid (HS.out.b hb7)
    have H5 := Lib.hid (hb6.trans (Below.mono hb7 hs6))
    have HL := Lib.hid hL
    obtain ⟨bc, hbc⟩ : ∃ n, w6.heap.size = n := ⟨_, rfl⟩
    rw [hbc] at RC ⊢
    clear hbc hb7 hb6 hs6 HC0 WR0 hO hL
    have hBlk : BlkOk (fun k => if k = 0 then (bo, 0) else (bc, 0)) w7 [(0, [.int .i64 kd, .string nm, .int .u64 ver, .int .i64 o.w.rep, .int .i64 o.w.cpu, .int .i64 o.w.mem, .slice o.w.L.ao o.w.L.la o.w.L.ca, .slice o.w.S.ao o.w.S.la o.w.S.ca, .slice o.w.T.ao o.w.T.la o.w.T.ca, .int .i64 o.w.warm, .string o.p.owner, .string o.p.node, .int .i64 o.p.phase, .int .i64 o.p.since, .int .i64 o.p.cpu, .int .i64 o.p.mem, .slice o.p.L.ao o.p.L.la o.p.L.ca, .slice o.p.S.ao o.p.S.la o.p.S.ca, .slice o.p.T.ao o.p.T.la o.p.T.ca, .int .i64 o.p.warm, .string o.n.group, .int .i64 o.n.cpu, .int .i64 o.n.mem, .slice o.n.L.ao o.n.L.la o.n.L.ca, .slice o.n.T.ao o.n.T.la o.n.T.ca, .int .i64 o.n.since, .bool o.n.closed, .int .i64 o.g.min, .int .i64 o.g.max, .int .i64 o.g.target, .int .i64 o.g.cpu, .int .i64 o.g.mem, .slice o.g.L.ao o.g.L.la o.g.L.ca, .slice o.g.T.ao o.g.T.la o.g.T.ca, .int .i64 o.g.prio, .string o.h.target, .int .i64 o.h.min, .int .i64 o.h.max, .slice o.h.M.ao o.h.M.la o.h.M.ca, .int .i64 o.h.tol, .int .i64 o.h.up.win, .int .i64 o.h.up.pick, .slice o.h.up.P.ao o.h.up.P.la o.h.up.P.ca, .int .i64 o.h.down.win, .int .i64 o.h.down.pick, .slice o.h.down.P.ao o.h.down.P.la o.h.down.P.ca, .slice o.h.past.ao o.h.past.la o.h.past.ca]), (1, [.int .i64 kd, .string nm, .int .u64 ver, .int .i64 (o.with r).w.rep, .int .i64 (o.with r).w.cpu, .int .i64 (o.with r).w.mem, .slice (o.with r).w.L.ao (o.with r).w.L.la (o.with r).w.L.ca, .slice (o.with r).w.S.ao (o.with r).w.S.la (o.with r).w.S.ca, .slice (o.with r).w.T.ao (o.with r).w.T.la (o.with r).w.T.ca, .int .i64 (o.with r).w.warm, .string (o.with r).p.owner, .string (o.with r).p.node, .int .i64 (o.with r).p.phase, .int .i64 (o.with r).p.since, .int .i64 (o.with r).p.cpu, .int .i64 (o.with r).p.mem, .slice (o.with r).p.L.ao (o.with r).p.L.la (o.with r).p.L.ca, .slice (o.with r).p.S.ao (o.with r).p.S.la (o.with r).p.S.ca, .slice (o.with r).p.T.ao (o.with r).p.T.la (o.with r).p.T.ca, .int .i64 (o.with r).p.warm, .string (o.with r).n.group, .int .i64 (o.with r).n.cpu, .int .i64 (o.with r).n.mem, .slice (o.with r).n.L.ao (o.with r).n.L.la (o.with r).n.L.ca, .slice (o.with r).n.T.ao (o.with r).n.T.la (o.with r).n.T.ca, .int .i64 (o.with r).n.since, .bool (o.with r).n.closed, .int .i64 (o.with r).g.min, .int .i64 (o.with r).g.max, .int .i64 (o.with r).g.target, .int .i64 (o.with r).g.cpu, .int .i64 (o.with r).g.mem, .slice (o.with r).g.L.ao (o.with r).g.L.la (o.with r).g.L.ca, .slice (o.with r).g.T.ao (o.with r).g.T.la (o.with r).g.T.ca, .int .i64 (o.with r).g.prio, .string (o.with r).h.target, .int .i64 (o.with r).h.min, .int .i64 (o.with r).h.max, .slice (o.with r).h.M.ao (o.with r).h.M.la (o.with r).h.M.ca, .int .i64 (o.with r).h.tol, .int .i64 (o.with r).h.up.win, .int .i64 (o.with r).h.up.pick, .slice (o.with r).h.up.P.ao (o.with r).h.up.P.la (o.with r).h.up.P.ca, .int .i64 (o.with r).h.down.win, .int .i64 (o.with r).h.down.pick, .slice (o.with r).h.down.P.ao (o.with r).h.down.P.la (o.with r).h.down.P.ca, .slice (o.with r).h.past.ao (o.with r).h.past.la (o.with r).h.past.ca])] := (blk_cons (k := 0) R.out.from_ (blk_cons (k := 1) RC.out.from_ blk_nil))
    refine region_chain (N := 167) (Kept w7) (fun k => if k = 0 then (bo, 0) else (bc, 0)) ⟨objSta, [(0, [.int .i64 kd, .string nm, .int .u64 ver, .int .i64 o.w.rep, .int .i64 o.w.cpu, .int .i64 o.w.mem, .slice o.w.L.ao o.w.L.la o.w.L.ca, .slice o.w.S.ao o.w.S.la o.w.S.ca, .slice o.w.T.ao o.w.T.la o.w.T.ca, .int .i64 o.w.warm, .string o.p.owner, .string o.p.node, .int .i64 o.p.phase, .int .i64 o.p.since, .int .i64 o.p.cpu, .int .i64 o.p.mem, .slice o.p.L.ao o.p.L.la o.p.L.ca, .slice o.p.S.ao o.p.S.la o.p.S.ca, .slice o.p.T.ao o.p.T.la o.p.T.ca, .int .i64 o.p.warm, .string o.n.group, .int .i64 o.n.cpu, .int .i64 o.n.mem, .slice o.n.L.ao o.n.L.la o.n.L.ca, .slice o.n.T.ao o.n.T.la o.n.T.ca, .int .i64 o.n.since, .bool o.n.closed, .int .i64 o.g.min, .int .i64 o.g.max, .int .i64 o.g.target, .int .i64 o.g.cpu, .int .i64 o.g.mem, .slice o.g.L.ao o.g.L.la o.g.L.ca, .slice o.g.T.ao o.g.T.la o.g.T.ca, .int .i64 o.g.prio, .string o.h.target, .int .i64 o.h.min, .int .i64 o.h.max, .slice o.h.M.ao o.h.M.la o.h.M.ca, .int .i64 o.h.tol, .int .i64 o.h.up.win, .int .i64 o.h.up.pick, .slice o.h.up.P.ao o.h.up.P.la o.h.up.P.ca, .int .i64 o.h.down.win, .int .i64 o.h.down.pick, .slice o.h.down.P.ao o.h.down.P.la o.h.down.P.ca, .slice o.h.past.ao o.h.past.la o.h.past.ca]), (1, [.int .i64 kd, .string nm, .int .u64 ver, .int .i64 (o.with r).w.rep, .int .i64 (o.with r).w.cpu, .int .i64 (o.with r).w.mem, .slice (o.with r).w.L.ao (o.with r).w.L.la (o.with r).w.L.ca, .slice (o.with r).w.S.ao (o.with r).w.S.la (o.with r).w.S.ca, .slice (o.with r).w.T.ao (o.with r).w.T.la (o.with r).w.T.ca, .int .i64 (o.with r).w.warm, .string (o.with r).p.owner, .string (o.with r).p.node, .int .i64 (o.with r).p.phase, .int .i64 (o.with r).p.since, .int .i64 (o.with r).p.cpu, .int .i64 (o.with r).p.mem, .slice (o.with r).p.L.ao (o.with r).p.L.la (o.with r).p.L.ca, .slice (o.with r).p.S.ao (o.with r).p.S.la (o.with r).p.S.ca, .slice (o.with r).p.T.ao (o.with r).p.T.la (o.with r).p.T.ca, .int .i64 (o.with r).p.warm, .string (o.with r).n.group, .int .i64 (o.with r).n.cpu, .int .i64 (o.with r).n.mem, .slice (o.with r).n.L.ao (o.with r).n.L.la (o.with r).n.L.ca, .slice (o.with r).n.T.ao (o.with r).n.T.la (o.with r).n.T.ca, .int .i64 (o.with r).n.since, .bool (o.with r).n.closed, .int .i64 (o.with r).g.min, .int .i64 (o.with r).g.max, .int .i64 (o.with r).g.target, .int .i64 (o.with r).g.cpu, .int .i64 (o.with r).g.mem, .slice (o.with r).g.L.ao (o.with r).g.L.la (o.with r).g.L.ca, .slice (o.with r).g.T.ao (o.with r).g.T.la (o.with r).g.T.ca, .int .i64 (o.with r).g.prio, .string (o.with r).h.target, .int .i64 (o.with r).h.min, .int .i64 (o.with r).h.max, .slice (o.with r).h.M.ao (o.with r).h.M.la (o.with r).h.M.ca, .int .i64 (o.with r).h.tol, .int .i64 (o.with r).h.up.win, .int .i64 (o.with r).h.up.pick, .slice (o.with r).h.up.P.ao (o.with r).h.up.P.la (o.with r).h.up.P.ca, .int .i64 (o.with r).h.down.win, .int .i64 (o.with r).h.down.pick, .slice (o.with r).h.down.P.ao (o.with r).h.down.P.la (o.with r).h.down.P.ca, .slice (o.with r).h.past.ao (o.with r).h.past.la (o.with r).h.past.ca])], [(50, .bool true)], []⟩ 4 (Kept.refl w7) (tab_ok objSta_ok hBlk)
      [(1, .ptr 0 0), (2, .val (.bool false)), (3, .val (.string (objS kd nm ver o))), (4, .ptr 1 0)] [(1, .ptr 0 0), (2, .val (.bool false)), (3, .val (.string (objS kd nm ver o))), (4, .ptr 1 0), (51, .val (.bool false))] [.call 13 [.val (.agg #[.int .i64 kd, .string nm, .int .u64 ver, .int .i64 o.w.rep, .int .i64 o.w.cpu, .int .i64 o.w.mem, .slice o.w.L.ao o.w.L.la o.w.L.ca, .slice o.w.S.ao o.w.S.la o.w.S.ca, .slice o.w.T.ao o.w.T.la o.w.T.ca, .int .i64 o.w.warm, .string o.p.owner, .string o.p.node, .int .i64 o.p.phase, .int .i64 o.p.since, .int .i64 o.p.cpu, .int .i64 o.p.mem, .slice o.p.L.ao o.p.L.la o.p.L.ca, .slice o.p.S.ao o.p.S.la o.p.S.ca, .slice o.p.T.ao o.p.T.la o.p.T.ca, .int .i64 o.p.warm, .string o.n.group, .int .i64 o.n.cpu, .int .i64 o.n.mem, .slice o.n.L.ao o.n.L.la o.n.L.ca, .slice o.n.T.ao o.n.T.la o.n.T.ca, .int .i64 o.n.since, .bool o.n.closed, .int .i64 o.g.min, .int .i64 o.g.max, .int .i64 o.g.target, .int .i64 o.g.cpu, .int .i64 o.g.mem, .slice o.g.L.ao o.g.L.la o.g.L.ca, .slice o.g.T.ao o.g.T.la o.g.T.ca, .int .i64 o.g.prio, .string o.h.target, .int .i64 o.h.min, .int .i64 o.h.max, .slice o.h.M.ao o.h.M.la o.h.M.ca, .int .i64 o.h.tol, .int .i64 o.h.up.win, .int .i64 o.h.up.pick, .slice o.h.up.P.ao o.h.up.P.la o.h.up.P.ca, .int .i64 o.h.down.win, .int .i64 o.h.down.pick, .slice o.h.down.P.ao o.h.down.P.la o.h.down.P.ca, .slice o.h.past.ao o.h.past.la o.h.past.ca]), .val (.agg #[.int .i64 kd, .string nm, .int .u64 ver, .int .i64 (o.with r).w.rep, .int .i64 (o.with r).w.cpu, .int .i64 (o.with r).w.mem, .slice (o.with r).w.L.ao (o.with r).w.L.la (o.with r).w.L.ca, .slice (o.with r).w.S.ao (o.with r).w.S.la (o.with r).w.S.ca, .slice (o.with r).w.T.ao (o.with r).w.T.la (o.with r).w.T.ca, .int .i64 (o.with r).w.warm, .string (o.with r).p.owner, .string (o.with r).p.node, .int .i64 (o.with r).p.phase, .int .i64 (o.with r).p.since, .int .i64 (o.with r).p.cpu, .int .i64 (o.with r).p.mem, .slice (o.with r).p.L.ao (o.with r).p.L.la (o.with r).p.L.ca, .slice (o.with r).p.S.ao (o.with r).p.S.la (o.with r).p.S.ca, .slice (o.with r).p.T.ao (o.with r).p.T.la (o.with r).p.T.ca, .int .i64 (o.with r).p.warm, .string (o.with r).n.group, .int .i64 (o.with r).n.cpu, .int .i64 (o.with r).n.mem, .slice (o.with r).n.L.ao (o.with r).n.L.la (o.with r).n.L.ca, .slice (o.with r).n.T.ao (o.with r).n.T.la (o.with r).n.T.ca, .int .i64 (o.with r).n.since, .bool (o.with r).n.closed, .int .i64 (o.with r).g.min, .int .i64 (o.with r).g.max, .int .i64 (o.with r).g.target, .int .i64 (o.with r).g.cpu, .int .i64 (o.with r).g.mem, .slice (o.with r).g.L.ao (o.with r).g.L.la (o.with r).g.L.ca, .slice (o.with r).g.T.ao (o.with r).g.T.la (o.with r).g.T.ca, .int .i64 (o.with r).g.prio, .string (o.with r).h.target, .int .i64 (o.with r).h.min, .int .i64 (o.with r).h.max, .slice (o.with r).h.M.ao (o.with r).h.M.la (o.with r).h.M.ca, .int .i64 (o.with r).h.tol, .int .i64 (o.with r).h.up.win, .int .i64 (o.with r).h.up.pick, .slice (o.with r).h.up.P.ao (o.with r).h.up.P.la (o.with r).h.up.P.ca, .int .i64 (o.with r).h.down.win, .int .i64 (o.with r).h.down.pick, .slice (o.with r).h.down.P.ao (o.with r).h.down.P.la (o.with r).h.down.P.ca, .slice (o.with r).h.past.ao (o.with r).h.past.la (o.with r).h.past.ca])] (.bool true)] rfl (by as_aux_lemma => kernel_rfl) (by as_aux_lemma => kernel_rfl) ?_ none (by as_aux_lemma => kernel_rfl) (fun f5 => [f5 0, .pointer (some ⟨bo, 0, none⟩), .bool false, .string (objS kd nm ver o), .pointer (some ⟨bc, 0, none⟩), f5 5, f5 6, f5 7, f5 8, f5 9, f5 10, f5 11, f5 12, f5 13, f5 14, f5 15, f5 16, f5 17, f5 18, f5 19, f5 20, f5 21, f5 22, f5 23, f5 24, f5 25, f5 26, f5 27, f5 28, f5 29, f5 30, f5 31, f5 32, f5 33, f5 34, f5 35, f5 36, f5 37, f5 38, f5 39, f5 40, f5 41, f5 42, f5 43, f5 44, f5 45, f5 46, f5 47, f5 48, f5 49, f5 50, .bool false, f5 52, f5 53, f5 54, f5 55, f5 56, f5 57, f5 58, f5 59, f5 60, f5 61, f5 62, f5 63, f5 64, f5 65, f5 66, f5 67, f5 68, f5 69, f5 70, f5 71, f5 72, f5 73, f5 74, f5 75, f5 76, f5 77, f5 78, f5 79, f5 80, f5 81, f5 82, f5 83, f5 84, f5 85, f5 86, f5 87, f5 88, f5 89, f5 90, f5 91, f5 92, f5 93, f5 94, f5 95, f5 96, f5 97, f5 98, f5 99, f5 100, f5 101, f5 102, f5 103, f5 104, f5 105, f5 106, f5 107, f5 108, f5 109, f5 110, f5 111, f5 112, f5 113, f5 114, f5 115, f5 116, f5 117, f5 118, f5 119, f5 120, f5 121, f5 122, f5 123, f5 124, f5 125, f5 126, f5 127, f5 128, f5 129, f5 130, f5 131, f5 132, f5 133, f5 134, f5 135, f5 136, f5 137, f5 138, f5 139, f5 140, f5 141, f5 142, f5 143, f5 144, f5 145, f5 146, f5 147, f5 148, f5 149, f5 150, f5 151, f5 152, f5 153, f5 154, f5 155, f5 156, f5 157, f5 158, f5 159, f5 160, f5 161, f5 162, f5 163, f5 164, f5 165, f5 166]) (fun f5 => by as_aux_lemma => kernel_rfl) ?_
    · clear hBlk
      exact (ob_cons (ob_kept Try.func13 (by kernel_rfl) rfl fun w' hw' => by (have := same_any kd nm ver o kd nm ver (o.with r) w' HV.out HV.out (HS.out.b hw') (HC.out.b hw') TM.out (by rw [like_text HL.out]; exact TM.out)); rw [same_like HL.out] at this; exact this) ob_nil)
    intro f5 w8 hb8
    clear hBlk
    simp only [List.drop_succ_cons, List.drop_zero]
    replace R := Lib.hid (RowAt.below hb8 rfl R.out)
    replace RC := Lib.hid (RowAt.below hb8 rfl RC.out)
    replace HS := Lib.hid (HS.out.b hb8)
    replace WR := Lib.hid (WR.out.below hb8)
    replace H5 := Lib.hid (H5.out.trans (Below.mono hb8 H5.out.size))
    replace HC := Lib.hid (HC.out.b hb8)
    have K0 : Hid (KV w5 w8 w8.heap.size r.list w8) := KV.start H5.out WR.out HC.out
    clear hb8 HC WR R HS
    go_upto_region 7 with fail
    have hcl : ∀ k, k < 5 → ∀ j u, ((objFive (o.with r) bc).cs k)[j]? = some u → w8.cell? ((⟨bc, (objFive (o.with r) bc).off k, none⟩ : Addr).add j) = some u := by
      refine five5 ?_ ?_ ?_ ?_ ?_ <;> intro j u hu
      · show w8.cell? ((⟨bc, 3, none⟩ : Addr).add j) = some u
        rw [Addr.add_lit]
        exact RC.out (3 + j) u (by rw [← List.getElem?_toArray]; exact mid_get [.int .i64 kd, .string nm, .int .u64 ver] _ [.string (o.with r).p.owner, .string (o.with r).p.node, .int .i64 (o.with r).p.phase, .int .i64 (o.with r).p.since, .int .i64 (o.with r).p.cpu, .int .i64 (o.with r).p.mem, .slice (o.with r).p.L.ao (o.with r).p.L.la (o.with r).p.L.ca, .slice (o.with r).p.S.ao (o.with r).p.S.la (o.with r).p.S.ca, .slice (o.with r).p.T.ao (o.with r).p.T.la (o.with r).p.T.ca, .int .i64 (o.with r).p.warm, .string (o.with r).n.group, .int .i64 (o.with r).n.cpu, .int .i64 (o.with r).n.mem, .slice (o.with r).n.L.ao (o.with r).n.L.la (o.with r).n.L.ca, .slice (o.with r).n.T.ao (o.with r).n.T.la (o.with r).n.T.ca, .int .i64 (o.with r).n.since, .bool (o.with r).n.closed, .int .i64 (o.with r).g.min, .int .i64 (o.with r).g.max, .int .i64 (o.with r).g.target, .int .i64 (o.with r).g.cpu, .int .i64 (o.with r).g.mem, .slice (o.with r).g.L.ao (o.with r).g.L.la (o.with r).g.L.ca, .slice (o.with r).g.T.ao (o.with r).g.T.la (o.with r).g.T.ca, .int .i64 (o.with r).g.prio, .string (o.with r).h.target, .int .i64 (o.with r).h.min, .int .i64 (o.with r).h.max, .slice (o.with r).h.M.ao (o.with r).h.M.la (o.with r).h.M.ca, .int .i64 (o.with r).h.tol, .int .i64 (o.with r).h.up.win, .int .i64 (o.with r).h.up.pick, .slice (o.with r).h.up.P.ao (o.with r).h.up.P.la (o.with r).h.up.P.ca, .int .i64 (o.with r).h.down.win, .int .i64 (o.with r).h.down.pick, .slice (o.with r).h.down.P.ao (o.with r).h.down.P.la (o.with r).h.down.P.ca, .slice (o.with r).h.past.ao (o.with r).h.past.la (o.with r).h.past.ca] j u hu)
      · show w8.cell? ((⟨bc, 10, none⟩ : Addr).add j) = some u
        rw [Addr.add_lit]
        exact RC.out (10 + j) u (by rw [← List.getElem?_toArray]; exact mid_get [.int .i64 kd, .string nm, .int .u64 ver, .int .i64 (o.with r).w.rep, .int .i64 (o.with r).w.cpu, .int .i64 (o.with r).w.mem, .slice (o.with r).w.L.ao (o.with r).w.L.la (o.with r).w.L.ca, .slice (o.with r).w.S.ao (o.with r).w.S.la (o.with r).w.S.ca, .slice (o.with r).w.T.ao (o.with r).w.T.la (o.with r).w.T.ca, .int .i64 (o.with r).w.warm] _ [.string (o.with r).n.group, .int .i64 (o.with r).n.cpu, .int .i64 (o.with r).n.mem, .slice (o.with r).n.L.ao (o.with r).n.L.la (o.with r).n.L.ca, .slice (o.with r).n.T.ao (o.with r).n.T.la (o.with r).n.T.ca, .int .i64 (o.with r).n.since, .bool (o.with r).n.closed, .int .i64 (o.with r).g.min, .int .i64 (o.with r).g.max, .int .i64 (o.with r).g.target, .int .i64 (o.with r).g.cpu, .int .i64 (o.with r).g.mem, .slice (o.with r).g.L.ao (o.with r).g.L.la (o.with r).g.L.ca, .slice (o.with r).g.T.ao (o.with r).g.T.la (o.with r).g.T.ca, .int .i64 (o.with r).g.prio, .string (o.with r).h.target, .int .i64 (o.with r).h.min, .int .i64 (o.with r).h.max, .slice (o.with r).h.M.ao (o.with r).h.M.la (o.with r).h.M.ca, .int .i64 (o.with r).h.tol, .int .i64 (o.with r).h.up.win, .int .i64 (o.with r).h.up.pick, .slice (o.with r).h.up.P.ao (o.with r).h.up.P.la (o.with r).h.up.P.ca, .int .i64 (o.with r).h.down.win, .int .i64 (o.with r).h.down.pick, .slice (o.with r).h.down.P.ao (o.with r).h.down.P.la (o.with r).h.down.P.ca, .slice (o.with r).h.past.ao (o.with r).h.past.la (o.with r).h.past.ca] j u hu)
      · show w8.cell? ((⟨bc, 20, none⟩ : Addr).add j) = some u
        rw [Addr.add_lit]
        exact RC.out (20 + j) u (by rw [← List.getElem?_toArray]; exact mid_get [.int .i64 kd, .string nm, .int .u64 ver, .int .i64 (o.with r).w.rep, .int .i64 (o.with r).w.cpu, .int .i64 (o.with r).w.mem, .slice (o.with r).w.L.ao (o.with r).w.L.la (o.with r).w.L.ca, .slice (o.with r).w.S.ao (o.with r).w.S.la (o.with r).w.S.ca, .slice (o.with r).w.T.ao (o.with r).w.T.la (o.with r).w.T.ca, .int .i64 (o.with r).w.warm, .string (o.with r).p.owner, .string (o.with r).p.node, .int .i64 (o.with r).p.phase, .int .i64 (o.with r).p.since, .int .i64 (o.with r).p.cpu, .int .i64 (o.with r).p.mem, .slice (o.with r).p.L.ao (o.with r).p.L.la (o.with r).p.L.ca, .slice (o.with r).p.S.ao (o.with r).p.S.la (o.with r).p.S.ca, .slice (o.with r).p.T.ao (o.with r).p.T.la (o.with r).p.T.ca, .int .i64 (o.with r).p.warm] _ [.int .i64 (o.with r).g.min, .int .i64 (o.with r).g.max, .int .i64 (o.with r).g.target, .int .i64 (o.with r).g.cpu, .int .i64 (o.with r).g.mem, .slice (o.with r).g.L.ao (o.with r).g.L.la (o.with r).g.L.ca, .slice (o.with r).g.T.ao (o.with r).g.T.la (o.with r).g.T.ca, .int .i64 (o.with r).g.prio, .string (o.with r).h.target, .int .i64 (o.with r).h.min, .int .i64 (o.with r).h.max, .slice (o.with r).h.M.ao (o.with r).h.M.la (o.with r).h.M.ca, .int .i64 (o.with r).h.tol, .int .i64 (o.with r).h.up.win, .int .i64 (o.with r).h.up.pick, .slice (o.with r).h.up.P.ao (o.with r).h.up.P.la (o.with r).h.up.P.ca, .int .i64 (o.with r).h.down.win, .int .i64 (o.with r).h.down.pick, .slice (o.with r).h.down.P.ao (o.with r).h.down.P.la (o.with r).h.down.P.ca, .slice (o.with r).h.past.ao (o.with r).h.past.la (o.with r).h.past.ca] j u hu)
      · show w8.cell? ((⟨bc, 27, none⟩ : Addr).add j) = some u
        rw [Addr.add_lit]
        exact RC.out (27 + j) u (by rw [← List.getElem?_toArray]; exact mid_get [.int .i64 kd, .string nm, .int .u64 ver, .int .i64 (o.with r).w.rep, .int .i64 (o.with r).w.cpu, .int .i64 (o.with r).w.mem, .slice (o.with r).w.L.ao (o.with r).w.L.la (o.with r).w.L.ca, .slice (o.with r).w.S.ao (o.with r).w.S.la (o.with r).w.S.ca, .slice (o.with r).w.T.ao (o.with r).w.T.la (o.with r).w.T.ca, .int .i64 (o.with r).w.warm, .string (o.with r).p.owner, .string (o.with r).p.node, .int .i64 (o.with r).p.phase, .int .i64 (o.with r).p.since, .int .i64 (o.with r).p.cpu, .int .i64 (o.with r).p.mem, .slice (o.with r).p.L.ao (o.with r).p.L.la (o.with r).p.L.ca, .slice (o.with r).p.S.ao (o.with r).p.S.la (o.with r).p.S.ca, .slice (o.with r).p.T.ao (o.with r).p.T.la (o.with r).p.T.ca, .int .i64 (o.with r).p.warm, .string (o.with r).n.group, .int .i64 (o.with r).n.cpu, .int .i64 (o.with r).n.mem, .slice (o.with r).n.L.ao (o.with r).n.L.la (o.with r).n.L.ca, .slice (o.with r).n.T.ao (o.with r).n.T.la (o.with r).n.T.ca, .int .i64 (o.with r).n.since, .bool (o.with r).n.closed] _ [.string (o.with r).h.target, .int .i64 (o.with r).h.min, .int .i64 (o.with r).h.max, .slice (o.with r).h.M.ao (o.with r).h.M.la (o.with r).h.M.ca, .int .i64 (o.with r).h.tol, .int .i64 (o.with r).h.up.win, .int .i64 (o.with r).h.up.pick, .slice (o.with r).h.up.P.ao (o.with r).h.up.P.la (o.with r).h.up.P.ca, .int .i64 (o.with r).h.down.win, .int .i64 (o.with r).h.down.pick, .slice (o.with r).h.down.P.ao (o.with r).h.down.P.la (o.with r).h.down.P.ca, .slice (o.with r).h.past.ao (o.with r).h.past.la (o.with r).h.past.ca] j u hu)
      · show w8.cell? ((⟨bc, 35, none⟩ : Addr).add j) = some u
        rw [Addr.add_lit]
        exact RC.out (35 + j) u (by rw [← List.getElem?_toArray]; exact mid_get [.int .i64 kd, .string nm, .int .u64 ver, .int .i64 (o.with r).w.rep, .int .i64 (o.with r).w.cpu, .int .i64 (o.with r).w.mem, .slice (o.with r).w.L.ao (o.with r).w.L.la (o.with r).w.L.ca, .slice (o.with r).w.S.ao (o.with r).w.S.la (o.with r).w.S.ca, .slice (o.with r).w.T.ao (o.with r).w.T.la (o.with r).w.T.ca, .int .i64 (o.with r).w.warm, .string (o.with r).p.owner, .string (o.with r).p.node, .int .i64 (o.with r).p.phase, .int .i64 (o.with r).p.since, .int .i64 (o.with r).p.cpu, .int .i64 (o.with r).p.mem, .slice (o.with r).p.L.ao (o.with r).p.L.la (o.with r).p.L.ca, .slice (o.with r).p.S.ao (o.with r).p.S.la (o.with r).p.S.ca, .slice (o.with r).p.T.ao (o.with r).p.T.la (o.with r).p.T.ca, .int .i64 (o.with r).p.warm, .string (o.with r).n.group, .int .i64 (o.with r).n.cpu, .int .i64 (o.with r).n.mem, .slice (o.with r).n.L.ao (o.with r).n.L.la (o.with r).n.L.ca, .slice (o.with r).n.T.ao (o.with r).n.T.la (o.with r).n.T.ca, .int .i64 (o.with r).n.since, .bool (o.with r).n.closed, .int .i64 (o.with r).g.min, .int .i64 (o.with r).g.max, .int .i64 (o.with r).g.target, .int .i64 (o.with r).g.cpu, .int .i64 (o.with r).g.mem, .slice (o.with r).g.L.ao (o.with r).g.L.la (o.with r).g.L.ca, .slice (o.with r).g.T.ao (o.with r).g.T.la (o.with r).g.T.ca, .int .i64 (o.with r).g.prio] _ [] j u hu)
    refine wp_five_at 4 (objFive (o.with r) bc) (sl := fun i => if i < 10 then 52 + i else i - 5) (by kernel_rfl) (objFive_ok (o.with r) bc)
        ⟨rfl, ord_of (by kernel_rfl), five5 ⟨_, rfl, rfl, rfl, rfl⟩ ⟨_, rfl, rfl, rfl, rfl⟩ ⟨_, rfl, rfl, rfl, rfl⟩ ⟨_, rfl, rfl, rfl, rfl⟩ ⟨_, rfl, rfl, rfl, rfl⟩,
          five5 ⟨_, rfl, rfl, rfl, rfl, by kernel_rfl⟩ ⟨_, rfl, rfl, rfl, rfl, by kernel_rfl⟩ ⟨_, rfl, rfl, rfl, rfl, by kernel_rfl⟩ ⟨_, rfl, rfl, rfl, rfl, by kernel_rfl⟩ ⟨_, rfl, rfl, rfl, rfl, by kernel_rfl⟩,
          five5 ⟨_, rfl, rfl, rfl, rfl⟩ ⟨_, rfl, rfl, rfl, rfl⟩ ⟨_, rfl, rfl, rfl, rfl⟩ ⟨_, rfl, rfl, rfl, rfl⟩ ⟨_, rfl, rfl, rfl, rfl⟩,
          five5 ⟨_, rfl, rfl, rfl, rfl, by kernel_rfl, by kernel_rfl⟩ ⟨_, rfl, rfl, rfl, rfl, by kernel_rfl, by kernel_rfl⟩ ⟨_, rfl, rfl, rfl, rfl, by kernel_rfl, by kernel_rfl⟩ ⟨_, rfl, rfl, rfl, rfl, by kernel_rfl, by kernel_rfl⟩ ⟨_, rfl, rfl, rfl, rfl, by kernel_rfl, by kernel_rfl⟩⟩
      (fun i hi => by show (if i < 10 then 52 + i else i - 5) < 167; split <;> omega) (fun i j hi hj e => by split at e <;> split at e <;> omega) (fun i hi => by split <;> omega) rfl hcl ?_
    intro Bk w9 hb9 hblk
    replace K0 := Lib.hid (K0.out.ext hb9)
    have hge : w8.heap.size ≤ Bk 0 ∧ w8.heap.size ≤ Bk 1 ∧ w8.heap.size ≤ Bk 4 := ⟨(hblk 0 (by decide)).1, (hblk 1 (by decide)).1, (hblk 4 (by decide)).1⟩
    obtain ⟨T8, hT8⟩ : ∃ n, w8.heap.size = n := ⟨_, rfl⟩
    rw [hT8] at K0 hge
    have HGE := Lib.hid hge
    have r0 := (hblk 0 (by decide)).2
    have r1 := (hblk 1 (by decide)).2
    have r2 := (hblk 2 (by decide)).2
    have r3 := (hblk 3 (by decide)).2
    have r4 := (hblk 4 (by decide)).2
    clear hge hT8 RC H5 hb9 hcl
    refine put_to (L := ⟨#[f5 0, .pointer (some ⟨bo, 0, none⟩), .bool false, .string (objS kd nm ver o), .pointer (some ⟨bc, 0, none⟩), .pointer (some ⟨Bk 0, 0, none⟩), .pointer (some ⟨Bk 1, 0, none⟩), .pointer (some ⟨Bk 2, 0, none⟩), .pointer (some ⟨Bk 3, 0, none⟩), .pointer (some ⟨Bk 4, 0, none⟩), f5 10, f5 11, f5 12, f5 13, f5 14, f5 15, f5 16, f5 17, f5 18, f5 19, f5 20, f5 21, f5 22, f5 23, f5 24, f5 25, f5 26, f5 27, f5 28, f5 29, f5 30, f5 31, f5 32, f5 33, f5 34, f5 35, f5 36, f5 37, f5 38, f5 39, f5 40, f5 41, f5 42, f5 43, f5 44, f5 45, f5 46, f5 47, f5 48, f5 49, f5 50, .bool false, .pointer (some ⟨bc, 3, none⟩), .agg #[.int .i64 (o.with r).w.rep, .int .i64 (o.with r).w.cpu, .int .i64 (o.with r).w.mem, .slice (o.with r).w.L.ao (o.with r).w.L.la (o.with r).w.L.ca, .slice (o.with r).w.S.ao (o.with r).w.S.la (o.with r).w.S.ca, .slice (o.with r).w.T.ao (o.with r).w.T.la (o.with r).w.T.ca, .int .i64 (o.with r).w.warm], .pointer (some ⟨bc, 10, none⟩), .agg #[.string (o.with r).p.owner, .string (o.with r).p.node, .int .i64 (o.with r).p.phase, .int .i64 (o.with r).p.since, .int .i64 (o.with r).p.cpu, .int .i64 (o.with r).p.mem, .slice (o.with r).p.L.ao (o.with r).p.L.la (o.with r).p.L.ca, .slice (o.with r).p.S.ao (o.with r).p.S.la (o.with r).p.S.ca, .slice (o.with r).p.T.ao (o.with r).p.T.la (o.with r).p.T.ca, .int .i64 (o.with r).p.warm], .pointer (some ⟨bc, 20, none⟩), .agg #[.string (o.with r).n.group, .int .i64 (o.with r).n.cpu, .int .i64 (o.with r).n.mem, .slice (o.with r).n.L.ao (o.with r).n.L.la (o.with r).n.L.ca, .slice (o.with r).n.T.ao (o.with r).n.T.la (o.with r).n.T.ca, .int .i64 (o.with r).n.since, .bool (o.with r).n.closed], .pointer (some ⟨bc, 27, none⟩), .agg #[.int .i64 (o.with r).g.min, .int .i64 (o.with r).g.max, .int .i64 (o.with r).g.target, .int .i64 (o.with r).g.cpu, .int .i64 (o.with r).g.mem, .slice (o.with r).g.L.ao (o.with r).g.L.la (o.with r).g.L.ca, .slice (o.with r).g.T.ao (o.with r).g.T.la (o.with r).g.T.ca, .int .i64 (o.with r).g.prio], .pointer (some ⟨bc, 35, none⟩), .agg #[.string (o.with r).h.target, .int .i64 (o.with r).h.min, .int .i64 (o.with r).h.max, .slice (o.with r).h.M.ao (o.with r).h.M.la (o.with r).h.M.ca, .int .i64 (o.with r).h.tol, .int .i64 (o.with r).h.up.win, .int .i64 (o.with r).h.up.pick, .slice (o.with r).h.up.P.ao (o.with r).h.up.P.la (o.with r).h.up.P.ca, .int .i64 (o.with r).h.down.win, .int .i64 (o.with r).h.down.pick, .slice (o.with r).h.down.P.ao (o.with r).h.down.P.la (o.with r).h.down.P.ca, .slice (o.with r).h.past.ao (o.with r).h.past.la (o.with r).h.past.ca], f5 62, f5 63, f5 64, f5 65, f5 66, f5 67, f5 68, f5 69, f5 70, f5 71, f5 72, f5 73, f5 74, f5 75, f5 76, f5 77, f5 78, f5 79, f5 80, f5 81, f5 82, f5 83, f5 84, f5 85, f5 86, f5 87, f5 88, f5 89, f5 90, f5 91, f5 92, f5 93, f5 94, f5 95, f5 96, f5 97, f5 98, f5 99, f5 100, f5 101, f5 102, f5 103, f5 104, f5 105, f5 106, f5 107, f5 108, f5 109, f5 110, f5 111, f5 112, f5 113, f5 114, f5 115, f5 116, f5 117, f5 118, f5 119, f5 120, f5 121, f5 122, f5 123, f5 124, f5 125, f5 126, f5 127, f5 128, f5 129, f5 130, f5 131, f5 132, f5 133, f5 134, f5 135, f5 136, f5 137, f5 138, f5 139, f5 140, f5 141, f5 142, f5 143, f5 144, f5 145, f5 146, f5 147, f5 148, f5 149, f5 150, f5 151, f5 152, f5 153, f5 154, f5 155, f5 156, f5 157, f5 158, f5 159, f5 160, f5 161, f5 162, f5 163, f5 164, f5 165, f5 166], []⟩) (by kernel_rfl) ?_
    have c0_3 : w9.cell? ⟨Bk 0, 3, none⟩ = some (.slice r.wL.ao r.wL.la r.wL.ca) := cell_of_row _ _ _ _ _ _ r0
    have c0_5 : w9.cell? ⟨Bk 0, 5, none⟩ = some (.slice r.wT.ao r.wT.la r.wT.ca) := cell_of_row _ _ _ _ _ _ r0
    have c0_4 : w9.cell? ⟨Bk 0, 4, none⟩ = some (.slice r.wS.ao r.wS.la r.wS.ca) := cell_of_row _ _ _ _ _ _ r0
    have c1_6 : w9.cell? ⟨Bk 1, 6, none⟩ = some (.slice r.pL.ao r.pL.la r.pL.ca) := cell_of_row _ _ _ _ _ _ r1
    have c1_8 : w9.cell? ⟨Bk 1, 8, none⟩ = some (.slice r.pT.ao r.pT.la r.pT.ca) := cell_of_row _ _ _ _ _ _ r1
    have c1_7 : w9.cell? ⟨Bk 1, 7, none⟩ = some (.slice r.pS.ao r.pS.la r.pS.ca) := cell_of_row _ _ _ _ _ _ r1
    have c2_3 : w9.cell? ⟨Bk 2, 3, none⟩ = some (.slice r.nL.ao r.nL.la r.nL.ca) := cell_of_row _ _ _ _ _ _ r2
    have c2_4 : w9.cell? ⟨Bk 2, 4, none⟩ = some (.slice r.nT.ao r.nT.la r.nT.ca) := cell_of_row _ _ _ _ _ _ r2
    have c3_5 : w9.cell? ⟨Bk 3, 5, none⟩ = some (.slice r.gL.ao r.gL.la r.gL.ca) := cell_of_row _ _ _ _ _ _ r3
    have c3_6 : w9.cell? ⟨Bk 3, 6, none⟩ = some (.slice r.gT.ao r.gT.la r.gT.ca) := cell_of_row _ _ _ _ _ _ r3
    have c4_3 : w9.cell? ⟨Bk 4, 3, none⟩ = some (.slice r.hM.ao r.hM.la r.hM.ca) := cell_of_row _ _ _ _ _ _ r4
    have c4_7 : w9.cell? ⟨Bk 4, 7, none⟩ = some (.slice r.hU.ao r.hU.la r.hU.ca) := cell_of_row _ _ _ _ _ _ r4
    have c4_10 : w9.cell? ⟨Bk 4, 10, none⟩ = some (.slice r.hD.ao r.hD.la r.hD.ca) := cell_of_row _ _ _ _ _ _ r4
    have c4_11 : w9.cell? ⟨Bk 4, 11, none⟩ = some (.slice r.hP.ao r.hP.la r.hP.ca) := cell_of_row _ _ _ _ _ _ r4
    have q0 := blk c0_3
    have q1 := blk c1_6
    have q2 := blk c2_3
    have q3 := blk c3_5
    have q4 := blk c4_3
    clear r0 r1 r2 r3 r4 hblk
    go_wp2_with fail
    have LF := Lib.hid (few_like HL.out FW.out)
    have hx : Below w9.heap.size w9 (w9.alloc (.cells #[.slice r.wL.ao r.wL.la r.wL.ca, .slice r.wT.ao r.wT.la r.wT.ca, .slice r.pL.ao r.pL.la r.pL.ca, .slice r.pT.ao r.pT.la r.pT.ca, .slice r.nL.ao r.nL.la r.nL.ca, .slice r.nT.ao r.nT.la r.nT.ca, .slice r.gL.ao r.gL.la r.gL.ca, .slice r.gT.ao r.gT.la r.gT.ca] 26)) := (Below.refl _ _).alloc (Nat.le_refl _) _
    have RB1 : Hid (RowAt (w9.alloc (.cells #[.slice r.wL.ao r.wL.la r.wL.ca, .slice r.wT.ao r.wT.la r.wT.ca, .slice r.pL.ao r.pL.la r.pL.ca, .slice r.pT.ao r.pT.la r.pT.ca, .slice r.nL.ao r.nL.la r.nL.ca, .slice r.nT.ao r.nT.la r.nT.ca, .slice r.gL.ao r.gL.la r.gL.ca, .slice r.gT.ao r.gT.la r.gT.ca] 26)) w9.heap.size [.slice r.wL.ao r.wL.la r.wL.ca, .slice r.wT.ao r.wT.la r.wT.ca, .slice r.pL.ao r.pL.la r.pL.ca, .slice r.pT.ao r.pT.la r.pT.ca, .slice r.nL.ao r.nL.la r.nL.ca, .slice r.nT.ao r.nT.la r.nT.ca, .slice r.gL.ao r.gL.la r.gL.ca, .slice r.gT.ao r.gT.la r.gT.ca]) := RowAt.of_heap (t := 26) (fr := (0, 0)) (by rw [heap_alloc_new])
    generalize w9.alloc (.cells #[.slice r.wL.ao r.wL.la r.wL.ca, .slice r.wT.ao r.wT.la r.wT.ca, .slice r.pL.ao r.pL.la r.pL.ca, .slice r.pT.ao r.pT.la r.pT.ca, .slice r.nL.ao r.nL.la r.nL.ca, .slice r.nT.ao r.nT.la r.nT.ca, .slice r.gL.ao r.gL.la r.gL.ca, .slice r.gT.ao r.gT.la r.gT.ca] 26) = wl1 at hx RB1 ⊢
    have C0_4 : Hid (wl1.cell? ⟨Bk 0, 4, none⟩ = some (.slice r.wS.ao r.wS.la r.wS.ca)) := Keeps.below hx _ _ c0_4
    have C1_7 : Hid (wl1.cell? ⟨Bk 1, 7, none⟩ = some (.slice r.pS.ao r.pS.la r.pS.ca)) := Keeps.below hx _ _ c1_7
    have C4_3 : Hid (wl1.cell? ⟨Bk 4, 3, none⟩ = some (.slice r.hM.ao r.hM.la r.hM.ca)) := Keeps.below hx _ _ c4_3
    have C4_7 : Hid (wl1.cell? ⟨Bk 4, 7, none⟩ = some (.slice r.hU.ao r.hU.la r.hU.ca)) := Keeps.below hx _ _ c4_7
    have C4_10 : Hid (wl1.cell? ⟨Bk 4, 10, none⟩ = some (.slice r.hD.ao r.hD.la r.hD.ca)) := Keeps.below hx _ _ c4_10
    have C4_11 : Hid (wl1.cell? ⟨Bk 4, 11, none⟩ = some (.slice r.hP.ao r.hP.la r.hP.ca)) := Keeps.below hx _ _ c4_11
    have NB1 := Lib.hid K0.out.size
    have K1 := Lib.hid (K0.out.ext hx)
    obtain ⟨nb1, hnb⟩ : ∃ n, w9.heap.size = n := ⟨_, rfl⟩
    rw [hnb] at RB1 NB1 ⊢
    clear hx hnb
    clear c0_3
    clear c0_5
    clear c0_4
    clear c1_6
    clear c1_8
    clear c1_7
    clear c2_3
    clear c2_4
    clear c3_5
    clear c3_6
    clear c4_3
    clear c4_7
    clear c4_10
    clear c4_11
    clear q0
    clear q1
    clear q2
    clear q3
    clear q4
    go_loopw [80] (fun vi wr => ∃ k : Nat, k ≤ 8 ∧ vi = .int .i64 k ∧ Hid (KV w5 wl1 T8 r.list wr)) (fun vi _ => 8 - (intOf vi).toNat)
    case atStart => exact ⟨0, by omega, rfl, K1⟩
    case round =>
      obtain ⟨k, hk, rfl, HK⟩ := hrel
      obtain ⟨wq1, rfl⟩ : ∃ wq : World, wq = wr := ⟨_, rfl⟩
      by_cases hlt : k < 8
      · obtain ⟨ao, la, ca, hcell, hin, hla⟩ := row_in (eight_in r LF.out) (k := k) hlt
        have hc0 : wq1.cell? ⟨nb1, k, none⟩ = some (.slice ao la ca) := HK.out.far nb1 k _ NB1.out (RB1.out k _ hcell)
        have IN := Lib.hid hin
        clear hin hcell
        go_wp2_with fail
        go_loopw [86] (fun vj wr => ∃ j : Nat, j ≤ la ∧ vj = .int .i64 j ∧ Hid (KV w5 wl1 T8 r.list wr)) (fun vj _ => la - (intOf vj).toNat)
        case atStart => exact ⟨0, Nat.zero_le _, rfl, HK⟩
        case round =>
          obtain ⟨j, hj, rfl, HK2⟩ := hrel
          obtain ⟨wp, rfl⟩ : ∃ wq : World, wq = wr := ⟨_, rfl⟩
          by_cases hjl : j < la
          · obtain ⟨g, rfl⟩ := HK2.out.at_ IN.out (by omega)
            obtain ⟨⟨u, hu⟩, hf⟩ := HK2.out.cell IN.out (j := j * 2) (by omega)
            have HK3 := Lib.hid (HK2.out.set IN.out (j := j * 2) (by omega) (.string ⟨#[63]⟩))
            go_wp2_with fail
            go_roundw
            case rel => exact ⟨j + 1, by omega, by go_num, HK3⟩
            case measure => simp [intOf]; omega
          · obtain rfl : j = la := by omega
            go_wp2_with fail
            go_roundw
            case rel => exact ⟨k + 1, by omega, by go_num, HK2⟩
            case measure => simp [intOf]; omega
      · obtain rfl : k = 8 := by omega
        have c0_4 : wq1.cell? ⟨Bk 0, 4, none⟩ = some (.slice r.wS.ao r.wS.la r.wS.ca) := HK.out.far _ _ _ HGE.out.1 C0_4.out
        have c1_7 : wq1.cell? ⟨Bk 1, 7, none⟩ = some (.slice r.pS.ao r.pS.la r.pS.ca) := HK.out.far _ _ _ HGE.out.2.1 C1_7.out
        have q0 := blk c0_4
        have q1 := blk c1_7
        go_wp2_with fail
        have hx : Below wq1.heap.size wq1 (wq1.alloc (.cells #[.slice r.wS.ao r.wS.la r.wS.ca, .slice r.pS.ao r.pS.la r.pS.ca] 27)) := (Below.refl _ _).alloc (Nat.le_refl _) _
        have RB2 : Hid (RowAt (wq1.alloc (.cells #[.slice r.wS.ao r.wS.la r.wS.ca, .slice r.pS.ao r.pS.la r.pS.ca] 27)) wq1.heap.size [.slice r.wS.ao r.wS.la r.wS.ca, .slice r.pS.ao r.pS.la r.pS.ca]) := RowAt.of_heap (t := 27) (fr := (0, 0)) (by rw [heap_alloc_new])
        generalize wq1.alloc (.cells #[.slice r.wS.ao r.wS.la r.wS.ca, .slice r.pS.ao r.pS.la r.pS.ca] 27) = wl2 at hx RB2 ⊢
        have C0_4 : Hid (wl2.cell? ⟨Bk 0, 4, none⟩ = some (.slice r.wS.ao r.wS.la r.wS.ca)) := Keeps.below hx _ _ c0_4
        have C1_7 : Hid (wl2.cell? ⟨Bk 1, 7, none⟩ = some (.slice r.pS.ao r.pS.la r.pS.ca)) := Keeps.below hx _ _ c1_7
        replace C4_3 := Lib.hid (Keeps.below hx _ _ (HK.out.far _ _ _ HGE.out.2.2 C4_3.out))
        replace C4_7 := Lib.hid (Keeps.below hx _ _ (HK.out.far _ _ _ HGE.out.2.2 C4_7.out))
        replace C4_10 := Lib.hid (Keeps.below hx _ _ (HK.out.far _ _ _ HGE.out.2.2 C4_10.out))
        replace C4_11 := Lib.hid (Keeps.below hx _ _ (HK.out.far _ _ _ HGE.out.2.2 C4_11.out))
        have NB2 := Lib.hid HK.out.size
        have K2 := Lib.hid (HK.out.ext hx)
        obtain ⟨nb2, hnb⟩ : ∃ n, wq1.heap.size = n := ⟨_, rfl⟩
        rw [hnb] at RB2 NB2 ⊢
        clear hx hnb
        clear c0_4
        clear c1_7
        clear q0
        clear q1
        go_loopw [101] (fun vi wr => ∃ k : Nat, k ≤ 2 ∧ vi = .int .i64 k ∧ Hid (KV w5 wl2 T8 r.list wr)) (fun vi _ => 2 - (intOf vi).toNat)
        case atStart => exact ⟨0, by omega, rfl, K2⟩
        case round =>
          obtain ⟨k, hk, rfl, HK⟩ := hrel
          obtain ⟨wq2, rfl⟩ : ∃ wq : World, wq = wr := ⟨_, rfl⟩
          by_cases hlt : k < 2
          · obtain ⟨ao, la, ca, hcell, hin, hla⟩ := row_in (twoS_in r LF.out) (k := k) hlt
            have hc0 : wq2.cell? ⟨nb2, k, none⟩ = some (.slice ao la ca) := HK.out.far nb2 k _ NB2.out (RB2.out k _ hcell)
            have IN := Lib.hid hin
            clear hin hcell
            go_wp2_with fail
            go_loopw [107] (fun vj wr => ∃ j : Nat, j ≤ la ∧ vj = .int .i64 j ∧ Hid (KV w5 wl2 T8 r.list wr)) (fun vj _ => la - (intOf vj).toNat)
            case atStart => exact ⟨0, Nat.zero_le _, rfl, HK⟩
            case round =>
              obtain ⟨j, hj, rfl, HK2⟩ := hrel
              obtain ⟨wp, rfl⟩ : ∃ wq : World, wq = wr := ⟨_, rfl⟩
              by_cases hjl : j < la
              · obtain ⟨g, rfl⟩ := HK2.out.at_ IN.out (by omega)
                obtain ⟨⟨u, hu⟩, hf⟩ := HK2.out.cell IN.out (j := j * 3 + 2) (by omega)
                have HK3 := Lib.hid (HK2.out.set IN.out (j := j * 3 + 2) (by omega) (.int .i64 99))
                go_wp2_with fail
                go_roundw
                case rel => exact ⟨j + 1, by omega, by go_num, HK3⟩
                case measure => simp [intOf]; omega
              · obtain rfl : j = la := by omega
                go_wp2_with fail
                go_roundw
                case rel => exact ⟨k + 1, by omega, by go_num, HK2⟩
                case measure => simp [intOf]; omega
          · obtain rfl : k = 2 := by omega
            have c4_3 : wq2.cell? ⟨Bk 4, 3, none⟩ = some (.slice r.hM.ao r.hM.la r.hM.ca) := HK.out.far _ _ _ HGE.out.2.2 C4_3.out
            have q4 := blk c4_3
            go_wp2_with fail
            clear q4
            replace C4_7 := Lib.hid (HK.out.far _ _ _ HGE.out.2.2 C4_7.out)
            replace C4_10 := Lib.hid (HK.out.far _ _ _ HGE.out.2.2 C4_10.out)
            replace C4_11 := Lib.hid (HK.out.far _ _ _ HGE.out.2.2 C4_11.out)
            have B3 := Lib.hid HK.out.base
            have C4_3 := Lib.hid c4_3
            clear c4_3
            have IN3 : Hid ((r.hM.ao, r.hM.la * 3) ∈ r.list) := by (show _ ∈ r.list); simp [Rows14.list]
            have LA : r.hM.la ≤ 1000000 := LF.out.hM
            obtain ⟨ao, la, ca, hao, hla, hca⟩ : ∃ ao la ca, r.hM.ao = ao ∧ r.hM.la = la ∧ r.hM.ca = ca := ⟨_, _, _, rfl, rfl, rfl⟩
            rw [hao, hla, hca] at C4_3 ⊢
            rw [hao, hla] at IN3
            rw [hla] at LA
            clear hao hla hca
            go_loopw [119] (fun vj wr => ∃ j : Nat, j ≤ la ∧ vj = .int .i64 j ∧ Hid (KV w5 wq2 T8 r.list wr)) (fun vj _ => la - (intOf vj).toNat)
            case atStart => exact ⟨0, Nat.zero_le _, rfl, B3⟩
            case round =>
              obtain ⟨j, hj, rfl, HK2⟩ := hrel
              obtain ⟨wq3, rfl⟩ : ∃ wq : World, wq = wr := ⟨_, rfl⟩
              have c4_3 := HK2.out.far _ _ _ HGE.out.2.2 C4_3.out
              by_cases hjl : j < la
              · obtain ⟨g, rfl⟩ := HK2.out.at_ IN3.out (by omega)
                obtain ⟨⟨u, hu⟩, hf⟩ := HK2.out.cell IN3.out (j := j * 3 + 1) (by omega)
                have HK3 := Lib.hid (HK2.out.set IN3.out (j := j * 3 + 1) (by omega) (.string ⟨#[63]⟩))
                go_wp2_with fail
                go_roundw
                case rel => exact ⟨j + 1, by omega, by go_num, HK3⟩
                case measure => simp [intOf]; omega
              · obtain rfl : j = la := by omega
                clear c4_3
                have c4_7 : wq3.cell? ⟨Bk 4, 7, none⟩ = some (.slice r.hU.ao r.hU.la r.hU.ca) := HK2.out.far _ _ _ HGE.out.2.2 C4_7.out
                have c4_10 : wq3.cell? ⟨Bk 4, 10, none⟩ = some (.slice r.hD.ao r.hD.la r.hD.ca) := HK2.out.far _ _ _ HGE.out.2.2 C4_10.out
                have q4 := blk c4_7
                go_wp2_with fail
                have hx : Below wq3.heap.size wq3 (wq3.alloc (.cells #[.slice r.hU.ao r.hU.la r.hU.ca, .slice r.hD.ao r.hD.la r.hD.ca] 37)) := (Below.refl _ _).alloc (Nat.le_refl _) _
                have RB4 : Hid (RowAt (wq3.alloc (.cells #[.slice r.hU.ao r.hU.la r.hU.ca, .slice r.hD.ao r.hD.la r.hD.ca] 37)) wq3.heap.size [.slice r.hU.ao r.hU.la r.hU.ca, .slice r.hD.ao r.hD.la r.hD.ca]) := RowAt.of_heap (t := 37) (fr := (0, 0)) (by rw [heap_alloc_new])
                generalize wq3.alloc (.cells #[.slice r.hU.ao r.hU.la r.hU.ca, .slice r.hD.ao r.hD.la r.hD.ca] 37) = wl4 at hx RB4 ⊢
                have C4_7 : Hid (wl4.cell? ⟨Bk 4, 7, none⟩ = some (.slice r.hU.ao r.hU.la r.hU.ca)) := Keeps.below hx _ _ c4_7
                have C4_10 : Hid (wl4.cell? ⟨Bk 4, 10, none⟩ = some (.slice r.hD.ao r.hD.la r.hD.ca)) := Keeps.below hx _ _ c4_10
                replace C4_11 := Lib.hid (Keeps.below hx _ _ (HK2.out.far _ _ _ HGE.out.2.2 C4_11.out))
                have NB4 := Lib.hid HK2.out.size
                have K4 := Lib.hid (HK2.out.ext hx)
                obtain ⟨nb4, hnb⟩ : ∃ n, wq3.heap.size = n := ⟨_, rfl⟩
                rw [hnb] at RB4 NB4 ⊢
                clear hx hnb
                clear c4_7
                clear c4_10
                clear q4
                go_loopw [136] (fun vi wr => ∃ k : Nat, k ≤ 2 ∧ vi = .int .i64 k ∧ Hid (KV w5 wl4 T8 r.list wr)) (fun vi _ => 2 - (intOf vi).toNat)
                case atStart => exact ⟨0, by omega, rfl, K4⟩
                case round =>
                  obtain ⟨k, hk, rfl, HK⟩ := hrel
                  obtain ⟨wq4, rfl⟩ : ∃ wq : World, wq = wr := ⟨_, rfl⟩
                  by_cases hlt : k < 2
                  · obtain ⟨ao, la, ca, hcell, hin, hla⟩ := row_in (twoP_in r LF.out) (k := k) hlt
                    have hc0 : wq4.cell? ⟨nb4, k, none⟩ = some (.slice ao la ca) := HK.out.far nb4 k _ NB4.out (RB4.out k _ hcell)
                    have IN := Lib.hid hin
                    clear hin hcell
                    go_wp2_with fail
                    go_loopw [142] (fun vj wr => ∃ j : Nat, j ≤ la ∧ vj = .int .i64 j ∧ Hid (KV w5 wl4 T8 r.list wr)) (fun vj _ => la - (intOf vj).toNat)
                    case atStart => exact ⟨0, Nat.zero_le _, rfl, HK⟩
                    case round =>
                      obtain ⟨j, hj, rfl, HK2⟩ := hrel
                      obtain ⟨wp, rfl⟩ : ∃ wq : World, wq = wr := ⟨_, rfl⟩
                      by_cases hjl : j < la
                      · obtain ⟨g, rfl⟩ := HK2.out.at_ IN.out (by omega)
                        obtain ⟨⟨u, hu⟩, hf⟩ := HK2.out.cell IN.out (j := j * 3 + 1) (by omega)
                        have HK3 := Lib.hid (HK2.out.set IN.out (j := j * 3 + 1) (by omega) (.int .i64 (-9)))
                        go_wp2_with fail
                        go_roundw
                        case rel => exact ⟨j + 1, by omega, by go_num, HK3⟩
                        case measure => simp [intOf]; omega
                      · obtain rfl : j = la := by omega
                        go_wp2_with fail
                        go_roundw
                        case rel => exact ⟨k + 1, by omega, by go_num, HK2⟩
                        case measure => simp [intOf]; omega
                  · obtain rfl : k = 2 := by omega
                    have c4_11 : wq4.cell? ⟨Bk 4, 11, none⟩ = some (.slice r.hP.ao r.hP.la r.hP.ca) := HK.out.far _ _ _ HGE.out.2.2 C4_11.out
                    have q4 := blk c4_11
                    go_wp2_with fail
                    clear q4
                    have B5 := Lib.hid HK.out.base
                    have C4_11 := Lib.hid c4_11
                    clear c4_11
                    have IN5 : Hid ((r.hP.ao, r.hP.la * 3) ∈ r.list) := by (show _ ∈ r.list); simp [Rows14.list]
                    have LA : r.hP.la ≤ 1000000 := LF.out.hP
                    obtain ⟨ao, la, ca, hao, hla, hca⟩ : ∃ ao la ca, r.hP.ao = ao ∧ r.hP.la = la ∧ r.hP.ca = ca := ⟨_, _, _, rfl, rfl, rfl⟩
                    rw [hao, hla, hca] at C4_11 ⊢
                    rw [hao, hla] at IN5
                    rw [hla] at LA
                    clear hao hla hca
                    go_loopw [154] (fun vj wr => ∃ j : Nat, j ≤ la ∧ vj = .int .i64 j ∧ Hid (KV w5 wq4 T8 r.list wr)) (fun vj _ => la - (intOf vj).toNat)
                    case atStart => exact ⟨0, Nat.zero_le _, rfl, B5⟩
                    case round =>
                      obtain ⟨j, hj, rfl, HK2⟩ := hrel
                      obtain ⟨wq5, rfl⟩ : ∃ wq : World, wq = wr := ⟨_, rfl⟩
                      have c4_11 := HK2.out.far _ _ _ HGE.out.2.2 C4_11.out
                      by_cases hjl : j < la
                      · obtain ⟨g, rfl⟩ := HK2.out.at_ IN5.out (by omega)
                        obtain ⟨⟨u, hu⟩, hf⟩ := HK2.out.cell IN5.out (j := j * 3 + 2) (by omega)
                        have HK3 := Lib.hid (HK2.out.set IN5.out (j := j * 3 + 2) (by omega) (.int .i64 (-9)))
                        go_wp2_with fail
                        go_roundw
                        case rel => exact ⟨j + 1, by omega, by go_num, HK3⟩
                        case measure => simp [intOf]; omega
                      · obtain rfl : j = la := by omega
                        clear c4_11
                        go_upto_region 45 with fail
                        have R9 := Lib.hid (RowAt.below HK2.out.a rfl R5.out)
                        have HS9 := Lib.hid (HS5.out.b HK2.out.a)
                        have Hb9 := Lib.hid (Hb.out.trans (Below.mono HK2.out.a Hb.out.size))
                        have hBlk : BlkOk (fun k => (bo, 0)) wq5 [(0, [.int .i64 kd, .string nm, .int .u64 ver, .int .i64 o.w.rep, .int .i64 o.w.cpu, .int .i64 o.w.mem, .slice o.w.L.ao o.w.L.la o.w.L.ca, .slice o.w.S.ao o.w.S.la o.w.S.ca, .slice o.w.T.ao o.w.T.la o.w.T.ca, .int .i64 o.w.warm, .string o.p.owner, .string o.p.node, .int .i64 o.p.phase, .int .i64 o.p.since, .int .i64 o.p.cpu, .int .i64 o.p.mem, .slice o.p.L.ao o.p.L.la o.p.L.ca, .slice o.p.S.ao o.p.S.la o.p.S.ca, .slice o.p.T.ao o.p.T.la o.p.T.ca, .int .i64 o.p.warm, .string o.n.group, .int .i64 o.n.cpu, .int .i64 o.n.mem, .slice o.n.L.ao o.n.L.la o.n.L.ca, .slice o.n.T.ao o.n.T.la o.n.T.ca, .int .i64 o.n.since, .bool o.n.closed, .int .i64 o.g.min, .int .i64 o.g.max, .int .i64 o.g.target, .int .i64 o.g.cpu, .int .i64 o.g.mem, .slice o.g.L.ao o.g.L.la o.g.L.ca, .slice o.g.T.ao o.g.T.la o.g.T.ca, .int .i64 o.g.prio, .string o.h.target, .int .i64 o.h.min, .int .i64 o.h.max, .slice o.h.M.ao o.h.M.la o.h.M.ca, .int .i64 o.h.tol, .int .i64 o.h.up.win, .int .i64 o.h.up.pick, .slice o.h.up.P.ao o.h.up.P.la o.h.up.P.ca, .int .i64 o.h.down.win, .int .i64 o.h.down.pick, .slice o.h.down.P.ao o.h.down.P.la o.h.down.P.ca, .slice o.h.past.ao o.h.past.la o.h.past.ca])] := (blk_cons (k := 0) R9.out.from_ blk_nil)
                        refine region_chain (N := 167) (Kept wq5) (fun k => (bo, 0)) ⟨objSta, [(0, [.int .i64 kd, .string nm, .int .u64 ver, .int .i64 o.w.rep, .int .i64 o.w.cpu, .int .i64 o.w.mem, .slice o.w.L.ao o.w.L.la o.w.L.ca, .slice o.w.S.ao o.w.S.la o.w.S.ca, .slice o.w.T.ao o.w.T.la o.w.T.ca, .int .i64 o.w.warm, .string o.p.owner, .string o.p.node, .int .i64 o.p.phase, .int .i64 o.p.since, .int .i64 o.p.cpu, .int .i64 o.p.mem, .slice o.p.L.ao o.p.L.la o.p.L.ca, .slice o.p.S.ao o.p.S.la o.p.S.ca, .slice o.p.T.ao o.p.T.la o.p.T.ca, .int .i64 o.p.warm, .string o.n.group, .int .i64 o.n.cpu, .int .i64 o.n.mem, .slice o.n.L.ao o.n.L.la o.n.L.ca, .slice o.n.T.ao o.n.T.la o.n.T.ca, .int .i64 o.n.since, .bool o.n.closed, .int .i64 o.g.min, .int .i64 o.g.max, .int .i64 o.g.target, .int .i64 o.g.cpu, .int .i64 o.g.mem, .slice o.g.L.ao o.g.L.la o.g.L.ca, .slice o.g.T.ao o.g.T.la o.g.T.ca, .int .i64 o.g.prio, .string o.h.target, .int .i64 o.h.min, .int .i64 o.h.max, .slice o.h.M.ao o.h.M.la o.h.M.ca, .int .i64 o.h.tol, .int .i64 o.h.up.win, .int .i64 o.h.up.pick, .slice o.h.up.P.ao o.h.up.P.la o.h.up.P.ca, .int .i64 o.h.down.win, .int .i64 o.h.down.pick, .slice o.h.down.P.ao o.h.down.P.la o.h.down.P.ca, .slice o.h.past.ao o.h.past.la o.h.past.ca])], [(164, .string (objS kd nm ver o))], []⟩ 5 (Kept.refl wq5) (tab_ok objSta_ok hBlk)
                          [(1, .ptr 0 0), (3, .val (.string (objS kd nm ver o)))] [(2, .val (.bool (strB (objS kd nm ver o) (objS kd nm ver o))))] [.call 11 [.val (.agg #[.int .i64 kd, .string nm, .int .u64 ver, .int .i64 o.w.rep, .int .i64 o.w.cpu, .int .i64 o.w.mem, .slice o.w.L.ao o.w.L.la o.w.L.ca, .slice o.w.S.ao o.w.S.la o.w.S.ca, .slice o.w.T.ao o.w.T.la o.w.T.ca, .int .i64 o.w.warm, .string o.p.owner, .string o.p.node, .int .i64 o.p.phase, .int .i64 o.p.since, .int .i64 o.p.cpu, .int .i64 o.p.mem, .slice o.p.L.ao o.p.L.la o.p.L.ca, .slice o.p.S.ao o.p.S.la o.p.S.ca, .slice o.p.T.ao o.p.T.la o.p.T.ca, .int .i64 o.p.warm, .string o.n.group, .int .i64 o.n.cpu, .int .i64 o.n.mem, .slice o.n.L.ao o.n.L.la o.n.L.ca, .slice o.n.T.ao o.n.T.la o.n.T.ca, .int .i64 o.n.since, .bool o.n.closed, .int .i64 o.g.min, .int .i64 o.g.max, .int .i64 o.g.target, .int .i64 o.g.cpu, .int .i64 o.g.mem, .slice o.g.L.ao o.g.L.la o.g.L.ca, .slice o.g.T.ao o.g.T.la o.g.T.ca, .int .i64 o.g.prio, .string o.h.target, .int .i64 o.h.min, .int .i64 o.h.max, .slice o.h.M.ao o.h.M.la o.h.M.ca, .int .i64 o.h.tol, .int .i64 o.h.up.win, .int .i64 o.h.up.pick, .slice o.h.up.P.ao o.h.up.P.la o.h.up.P.ca, .int .i64 o.h.down.win, .int .i64 o.h.down.pick, .slice o.h.down.P.ao o.h.down.P.la o.h.down.P.ca, .slice o.h.past.ao o.h.past.la o.h.past.ca])] (.string (objS kd nm ver o))] rfl (by as_aux_lemma => kernel_rfl) (by as_aux_lemma => kernel_rfl) ?_ none (by as_aux_lemma => kernel_rfl) (fun f9 => [f9 0, f9 1, .bool (strB (objS kd nm ver o) (objS kd nm ver o)), f9 3, f9 4, f9 5, f9 6, f9 7, f9 8, f9 9, f9 10, f9 11, f9 12, f9 13, f9 14, f9 15, f9 16, f9 17, f9 18, f9 19, f9 20, f9 21, f9 22, f9 23, f9 24, f9 25, f9 26, f9 27, f9 28, f9 29, f9 30, f9 31, f9 32, f9 33, f9 34, f9 35, f9 36, f9 37, f9 38, f9 39, f9 40, f9 41, f9 42, f9 43, f9 44, f9 45, f9 46, f9 47, f9 48, f9 49, f9 50, f9 51, f9 52, f9 53, f9 54, f9 55, f9 56, f9 57, f9 58, f9 59, f9 60, f9 61, f9 62, f9 63, f9 64, f9 65, f9 66, f9 67, f9 68, f9 69, f9 70, f9 71, f9 72, f9 73, f9 74, f9 75, f9 76, f9 77, f9 78, f9 79, f9 80, f9 81, f9 82, f9 83, f9 84, f9 85, f9 86, f9 87, f9 88, f9 89, f9 90, f9 91, f9 92, f9 93, f9 94, f9 95, f9 96, f9 97, f9 98, f9 99, f9 100, f9 101, f9 102, f9 103, f9 104, f9 105, f9 106, f9 107, f9 108, f9 109, f9 110, f9 111, f9 112, f9 113, f9 114, f9 115, f9 116, f9 117, f9 118, f9 119, f9 120, f9 121, f9 122, f9 123, f9 124, f9 125, f9 126, f9 127, f9 128, f9 129, f9 130, f9 131, f9 132, f9 133, f9 134, f9 135, f9 136, f9 137, f9 138, f9 139, f9 140, f9 141, f9 142, f9 143, f9 144, f9 145, f9 146, f9 147, f9 148, f9 149, f9 150, f9 151, f9 152, f9 153, f9 154, f9 155, f9 156, f9 157, f9 158, f9 159, f9 160, f9 161, f9 162, f9 163, f9 164, f9 165, f9 166]) (fun f9 => by as_aux_lemma => kernel_rfl) ?_
                        · clear hBlk
                          exact (ob_cons (ob_kept Try.func11 (by kernel_rfl) rfl fun w' hw' => object_any kd nm ver HV.out o w' (HS9.out.b hw') TM.out) ob_nil)
                        intro f9 wz hbz
                        clear hBlk
                        simp only [List.drop_succ_cons, List.drop_zero]
                        replace Hb9 := Lib.hid (Hb9.out.trans (Below.mono hbz Hb9.out.size))
                        have es : strB (objS kd nm ver o) (objS kd nm ver o) = true := by rw [strB_is]; exact beq_self_eq_true _
                        rw [es]
                        clear es hbz R9 HS9
                        go_wp2_with fail
                        go_ret
                        exact ⟨rfl, Hb9.out⟩
end Go.Proofs.Ytmoeddpbmclckaa
