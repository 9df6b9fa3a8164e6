/- An object with all its cells; a row of such. No condition. -/
import Derived.Test.YtpbppgfogepjeaaObjRel
import Derived.Test.YtpbppgfogepjeaaValM
namespace Go.Proofs.Ytpbppgfogepjeaa
open Go.ChangeShapes Go.WideShapes Go.ChangeAt Go.RowKit Go.Deep

theorem wpList_load_gd {P : Program} {ops : Array Oper} {rest : List Oper} {o : Oper} {a : Act} {w : World} {Q : Exit → Act → World → Prop} {T : TypeId} {size : Nat} (A : AggOK P T size) (hgd : Region.wanted o (yielded ops a.tmps) = true) (x : Operand) (ho : o.op = .load T x)
    (p : Addr) (hx : a.eval x = .pointer (some p)) (cs : List Value) (hs : cs.length = size) (hc : ∀ j u, cs[j]? = some u → w.cell? (p.add j) = some u)
    (h : wpList P ops Q rest (a.put o.dst (.agg cs.toArray)) w) : wpList P ops Q (o :: rest) a w := by
  refine wpList_step fun _ hK => ?_
  rw [if_pos hgd]
  unfold Oper.wp execOp
  simp only [ho, hx, Instr.loadAt, Instr.sureAddr, Sem.run_bind, Sem.run_pure, Result.andThen_ok, run_loadVar_at A w p cs hs hc]
  exact hK _ _ h
structure ObI where
  kd : Int
  nm : ByteArray
  ver : Int
  o : ShapesV
def ObI.cells (x : ObI) : List Value := [.int .i64 x.kd, .string x.nm, .int .u64 x.ver, .int .i64 x.o.w.rep, .int .i64 x.o.w.cpu, .int .i64 x.o.w.mem, .slice x.o.w.L.ao x.o.w.L.la x.o.w.L.ca, .slice x.o.w.S.ao x.o.w.S.la x.o.w.S.ca, .slice x.o.w.T.ao x.o.w.T.la x.o.w.T.ca, .int .i64 x.o.w.warm, .string x.o.p.owner, .string x.o.p.node, .int .i64 x.o.p.phase, .int .i64 x.o.p.since, .int .i64 x.o.p.cpu, .int .i64 x.o.p.mem, .slice x.o.p.L.ao x.o.p.L.la x.o.p.L.ca, .slice x.o.p.S.ao x.o.p.S.la x.o.p.S.ca, .slice x.o.p.T.ao x.o.p.T.la x.o.p.T.ca, .int .i64 x.o.p.warm, .string x.o.n.group, .int .i64 x.o.n.cpu, .int .i64 x.o.n.mem, .slice x.o.n.L.ao x.o.n.L.la x.o.n.L.ca, .slice x.o.n.T.ao x.o.n.T.la x.o.n.T.ca, .int .i64 x.o.n.since, .bool x.o.n.closed, .int .i64 x.o.g.min, .int .i64 x.o.g.max, .int .i64 x.o.g.target, .int .i64 x.o.g.cpu, .int .i64 x.o.g.mem, .slice x.o.g.L.ao x.o.g.L.la x.o.g.L.ca, .slice x.o.g.T.ao x.o.g.T.la x.o.g.T.ca, .int .i64 x.o.g.prio, .string x.o.h.target, .int .i64 x.o.h.min, .int .i64 x.o.h.max, .slice x.o.h.M.ao x.o.h.M.la x.o.h.M.ca, .int .i64 x.o.h.tol, .int .i64 x.o.h.up.win, .int .i64 x.o.h.up.pick, .slice x.o.h.up.P.ao x.o.h.up.P.la x.o.h.up.P.ca, .int .i64 x.o.h.down.win, .int .i64 x.o.h.down.pick, .slice x.o.h.down.P.ao x.o.h.down.P.la x.o.h.down.P.ca, .slice x.o.h.past.ao x.o.h.past.la x.o.h.past.ca]
theorem ObI.hlen (x : ObI) : x.cells.length = 47 := rfl
theorem ObI.one (x : ObI) : x.cells.all (fun u => u.oneCell') = true := rfl
theorem ObI.h0 (x : ObI) : x.cells[0]? = some (.int .i64 x.kd) := rfl
theorem ObI.h1 (x : ObI) : x.cells[1]? = some (.string x.nm) := rfl
theorem ObI.h2 (x : ObI) : x.cells[2]? = some (.int .u64 x.ver) := rfl
theorem ObI.h3 (x : ObI) : x.cells[3]? = some (.int .i64 x.o.w.rep) := rfl
theorem ObI.h4 (x : ObI) : x.cells[4]? = some (.int .i64 x.o.w.cpu) := rfl
theorem ObI.h5 (x : ObI) : x.cells[5]? = some (.int .i64 x.o.w.mem) := rfl
theorem ObI.h6 (x : ObI) : x.cells[6]? = some (.slice x.o.w.L.ao x.o.w.L.la x.o.w.L.ca) := rfl
theorem ObI.h7 (x : ObI) : x.cells[7]? = some (.slice x.o.w.S.ao x.o.w.S.la x.o.w.S.ca) := rfl
theorem ObI.h8 (x : ObI) : x.cells[8]? = some (.slice x.o.w.T.ao x.o.w.T.la x.o.w.T.ca) := rfl
theorem ObI.h9 (x : ObI) : x.cells[9]? = some (.int .i64 x.o.w.warm) := rfl
theorem ObI.h10 (x : ObI) : x.cells[10]? = some (.string x.o.p.owner) := rfl
theorem ObI.h11 (x : ObI) : x.cells[11]? = some (.string x.o.p.node) := rfl
theorem ObI.h12 (x : ObI) : x.cells[12]? = some (.int .i64 x.o.p.phase) := rfl
theorem ObI.h13 (x : ObI) : x.cells[13]? = some (.int .i64 x.o.p.since) := rfl
theorem ObI.h15 (x : ObI) : x.cells[15]? = some (.int .i64 x.o.p.mem) := rfl
theorem ObI.h20 (x : ObI) : x.cells[20]? = some (.string x.o.n.group) := rfl
theorem ObI.h27 (x : ObI) : x.cells[27]? = some (.int .i64 x.o.g.min) := rfl
theorem ObI.h28 (x : ObI) : x.cells[28]? = some (.int .i64 x.o.g.max) := rfl
theorem ObI.h29 (x : ObI) : x.cells[29]? = some (.int .i64 x.o.g.target) := rfl
theorem ObI.h32 (x : ObI) : x.cells[32]? = some (.slice x.o.g.L.ao x.o.g.L.la x.o.g.L.ca) := rfl
theorem ObI.h35 (x : ObI) : x.cells[35]? = some (.string x.o.h.target) := rfl
theorem ObI.h41 (x : ObI) : x.cells[41]? = some (.int .i64 x.o.h.up.pick) := rfl
theorem ObI.h42 (x : ObI) : x.cells[42]? = some (.slice x.o.h.up.P.ao x.o.h.up.P.la x.o.h.up.P.ca) := rfl
theorem ObI.h44 (x : ObI) : x.cells[44]? = some (.int .i64 x.o.h.down.pick) := rfl
theorem ObI.h45 (x : ObI) : x.cells[45]? = some (.slice x.o.h.down.P.ao x.o.h.down.P.la x.o.h.down.P.ca) := rfl
structure ObAt (w : World) (x : ObI) : Prop where
  sh : ShapesAt w x.o
  sm : SmallO x.nm x.o
theorem ObAt.b {w w' : World} {x : ObI} (h : ObAt w x) (hb : Below w.heap.size w w') : ObAt w' x := ⟨h.sh.b hb, h.sm⟩
theorem aggObI : AggOK Try.prog 44 47 := .mk' (by kernel_rfl) (by kernel_rfl)
theorem aggPod : AggOK Try.prog 31 10 := .mk' (by kernel_rfl) (by kernel_rfl)
theorem aggNode : AggOK Try.prog 33 7 := .mk' (by kernel_rfl) (by kernel_rfl)
theorem ob_new (w : World) (x : ObI) (T : TypeId) : ∀ j u, x.cells[j]? = some u → (w.alloc (.cells x.cells.toArray T)).cell? ⟨w.heap.size, j, none⟩ = some u := fun j u hu => by
  have := (cell_new w x.cells.toArray T j).trans (by simpa using hu : _ = some u)
  rwa [Addr.add_lit, Nat.zero_add] at this
instance : Inhabited ObI := ⟨⟨0, ⟨#[]⟩, 0, ⟨⟨0, 0, 0, ⟨none, 0, 0, []⟩, ⟨none, 0, 0, []⟩, ⟨none, 0, 0, []⟩, 0⟩, ⟨⟨#[]⟩, ⟨#[]⟩, 0, 0, 0, 0, ⟨none, 0, 0, []⟩, ⟨none, 0, 0, []⟩, ⟨none, 0, 0, []⟩, 0⟩, ⟨⟨#[]⟩, 0, 0, ⟨none, 0, 0, []⟩, ⟨none, 0, 0, []⟩, 0, false⟩, ⟨0, 0, 0, 0, 0, ⟨none, 0, 0, []⟩, ⟨none, 0, 0, []⟩, 0⟩, ⟨⟨#[]⟩, 0, 0, ⟨none, 0, 0, []⟩, 0, ⟨0, 0, ⟨none, 0, 0, []⟩⟩, ⟨0, 0, ⟨none, 0, 0, []⟩⟩, ⟨none, 0, 0, []⟩⟩⟩⟩⟩
end Go.Proofs.Ytpbppgfogepjeaa
