/- ValidClones holds: a copy is the same, and changes for itself. No condition. -/
import Derived.Test.YtmoeddpbmclckaaValidClonesLift
import Derived.Test.YtmoeddpbmclckaaValidClonesWalk
namespace Go.Proofs.Ytmoeddpbmclckaa
open Go.ChangeShapes Go.WideShapes Go.ChangeAt Go.RowKit Go.Deep

theorem ValidClones_holds : Rows.ValidClonesSaid := lValidClones.over fun c0 w h0 b0 => by
  obtain ⟨kd, nm, ver, o, e0, hS, hM⟩ := obj_of_rel h0
  have e1 : c0 = #[.int .i64 kd, .string nm, .int .u64 ver, .int .i64 o.w.rep, .int .i64 o.w.cpu, .int .i64 o.w.mem, .slice o.w.L.ao o.w.L.la o.w.L.ca, .slice o.w.S.ao o.w.S.la o.w.S.ca, .slice o.w.T.ao o.w.T.la o.w.T.ca, .int .i64 o.w.warm, .string o.p.owner, .string o.p.node, .int .i64 o.p.phase, .int .i64 o.p.since, .int .i64 o.p.cpu, .int .i64 o.p.mem, .slice o.p.L.ao o.p.L.la o.p.L.ca, .slice o.p.S.ao o.p.S.la o.p.S.ca, .slice o.p.T.ao o.p.T.la o.p.T.ca, .int .i64 o.p.warm, .string o.n.group, .int .i64 o.n.cpu, .int .i64 o.n.mem, .slice o.n.L.ao o.n.L.la o.n.L.ca, .slice o.n.T.ao o.n.T.la o.n.T.ca, .int .i64 o.n.since, .bool o.n.closed, .int .i64 o.g.min, .int .i64 o.g.max, .int .i64 o.g.target, .int .i64 o.g.cpu, .int .i64 o.g.mem, .slice o.g.L.ao o.g.L.la o.g.L.ca, .slice o.g.T.ao o.g.T.la o.g.T.ca, .int .i64 o.g.prio, .string o.h.target, .int .i64 o.h.min, .int .i64 o.h.max, .slice o.h.M.ao o.h.M.la o.h.M.ca, .int .i64 o.h.tol, .int .i64 o.h.up.win, .int .i64 o.h.up.pick, .slice o.h.up.P.ao o.h.up.P.la o.h.up.P.ca, .int .i64 o.h.down.win, .int .i64 o.h.down.pick, .slice o.h.down.P.ao o.h.down.P.la o.h.down.P.ca, .slice o.h.past.ao o.h.past.la o.h.past.ca] := by
    apply Array.ext'
    exact e0
  subst e1
  exact validClones_core kd nm ver o w hS (reach_of b0) (ver_of h0)
end Go.Proofs.Ytmoeddpbmclckaa
