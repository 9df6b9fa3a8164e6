/- A laid object: its shapes as values. No condition. -/
import Derived.Test.YtjncoloedakpoaaDoorRefLabelM
namespace Go.Proofs.YtjncoloedakpoaaDoor
open Go.ChangeShapes Go.WideShapes Go.ChangeAt Go.RowKit Go.Deep

abbrev shLabel : Sh := (.pair .str (.pair .str .unit))
abbrev shRequire : Sh := (.pair .str (.pair .str (.pair (.int .i64) .unit)))
abbrev shMetric : Sh := (.pair (.int .i64) (.pair .str (.pair (.int .i64) .unit)))
abbrev shPolicy : Sh := (.pair .bool (.pair (.int .i64) (.pair (.int .i64) .unit)))
abbrev shScaled : Sh := (.pair (.int .i64) (.pair (.int .i64) (.pair (.int .i64) .unit)))
abbrev shWl : Sh := (.pair (.int .i64) (.pair (.pair (.int .i64) (.pair (.int .i64) .unit)) (.pair (.slice shLabel) (.pair (.slice shRequire) (.pair (.slice shLabel) (.pair (.int .i64) .unit))))))
abbrev shPod : Sh := (.pair .str (.pair .str (.pair (.int .i64) (.pair (.int .i64) (.pair (.pair (.int .i64) (.pair (.int .i64) .unit)) (.pair (.slice shLabel) (.pair (.slice shRequire) (.pair (.slice shLabel) (.pair (.int .i64) .unit)))))))))
abbrev shNode : Sh := (.pair .str (.pair (.pair (.int .i64) (.pair (.int .i64) .unit)) (.pair (.slice shLabel) (.pair (.slice shLabel) (.pair (.int .i64) (.pair .bool .unit))))))
abbrev shGroup : Sh := (.pair (.int .i64) (.pair (.int .i64) (.pair (.int .i64) (.pair (.pair (.int .i64) (.pair (.int .i64) .unit)) (.pair (.slice shLabel) (.pair (.slice shLabel) (.pair (.int .i64) .unit)))))))
abbrev shBeh : Sh := (.pair (.int .i64) (.pair (.int .i64) (.pair (.slice shPolicy) .unit)))
abbrev shHpa : Sh := (.pair .str (.pair (.int .i64) (.pair (.int .i64) (.pair (.slice shMetric) (.pair (.int .i64) (.pair shBeh (.pair shBeh (.pair (.slice shScaled) .unit))))))))
abbrev shObj : Sh := (.pair (.int .i64) (.pair .str (.pair (.int .u64) (.pair shWl (.pair shPod (.pair shNode (.pair shGroup (.pair shHpa .unit))))))))

structure SmallO (nm : ByteArray) (o : ShapesV) : Prop where
  nm : nm.size ≤ maxLen
  wL : SmallL o.w.L.xs
  wS : SmallS o.w.S.xs
  wT : SmallL o.w.T.xs
  pO : o.p.owner.size ≤ maxLen
  pN : o.p.node.size ≤ maxLen
  pL : SmallL o.p.L.xs
  pS : SmallS o.p.S.xs
  pT : SmallL o.p.T.xs
  nG : o.n.group.size ≤ maxLen
  nL : SmallL o.n.L.xs
  nT : SmallL o.n.T.xs
  gL : SmallL o.g.L.xs
  gT : SmallL o.g.T.xs
  hT : o.h.target.size ≤ maxLen
  hM : ∀ k, (h : k < o.h.M.xs.length) → o.h.M.xs[k].name.size ≤ maxLen

theorem SlR.parted {α : Type} {R : World → α → List Value → Prop} {p : α → Prop} {sz : Nat} {w : World} {ao : Option Addr} {la ca : Nat} {xs : List α} (h : SlR (fun w x c => R w x c ∧ p x) sz w ao la ca xs) :
    SlR R sz w ao la ca xs ∧ ∀ k, (hk : k < xs.length) → p xs[k] := by
  refine ⟨⟨h.hlen, h.hcap, h.hmax, h.hnil, fun a ha i hi => let ⟨c, h1, h2, h3⟩ := h.hat a ha i hi; ⟨c, h1, h2, h3.1⟩⟩, fun k hk => ?_⟩
  cases ao with
  | none => have := h.hnil rfl; have := h.hcap; have := h.hlen; omega
  | some a => obtain ⟨c, h1, h2, h3⟩ := h.hat a rfl k hk; exact h3.2

theorem rowL_of {w : World} {c : List Value} (h : Rel (.slice shLabel) w c) : ∃ r : RowV Label, c = [.slice r.ao r.la r.ca] ∧ RowL w r ∧ SmallL r.xs := by
  obtain ⟨ao, la, ca, xs, e, hS⟩ := SlR.of_rel (R := fun w x c => Flat Label.cells w x c ∧ (x.key.size ≤ maxLen ∧ x.val.size ≤ maxLen)) h (fun c hc => by
    obtain ⟨c1, c2, rfl, _, ⟨n1, rfl, g1⟩, c3, c4, rfl, _, ⟨n2, rfl, g2⟩, rfl⟩ := hc
    exact ⟨⟨n1, n2⟩, rfl, g1, g2⟩)
  exact ⟨⟨ao, la, ca, xs⟩, e, hS.parted.1, hS.parted.2⟩
theorem rowS_of {w : World} {c : List Value} (h : Rel (.slice shRequire) w c) : ∃ r : RowV Require, c = [.slice r.ao r.la r.ca] ∧ RowS w r ∧ SmallS r.xs := by
  obtain ⟨ao, la, ca, xs, e, hS⟩ := SlR.of_rel (R := fun w x c => Flat Require.cells w x c ∧ (x.key.size ≤ maxLen ∧ x.val.size ≤ maxLen)) h (fun c hc => by
    obtain ⟨c1, c2, rfl, _, ⟨n1, rfl, g1⟩, c3, c4, rfl, _, ⟨n2, rfl, g2⟩, c5, c6, rfl, _, ⟨n3, rfl, _⟩, rfl⟩ := hc
    exact ⟨⟨n1, n2, n3⟩, rfl, g1, g2⟩)
  exact ⟨⟨ao, la, ca, xs⟩, e, hS.parted.1, hS.parted.2⟩
theorem rowM_of {w : World} {c : List Value} (h : Rel (.slice shMetric) w c) : ∃ r : RowV Metric, c = [.slice r.ao r.la r.ca] ∧ RowM w r ∧ ∀ k, (h : k < r.xs.length) → r.xs[k].name.size ≤ maxLen := by
  obtain ⟨ao, la, ca, xs, e, hS⟩ := SlR.of_rel (R := fun w x c => Flat Metric.cells w x c ∧ x.name.size ≤ maxLen) h (fun c hc => by
    obtain ⟨c1, c2, rfl, _, ⟨n1, rfl, _⟩, c3, c4, rfl, _, ⟨n2, rfl, g2⟩, c5, c6, rfl, _, ⟨n3, rfl, _⟩, rfl⟩ := hc
    exact ⟨⟨n1, n2, n3⟩, rfl, g2⟩)
  exact ⟨⟨ao, la, ca, xs⟩, e, hS.parted.1, hS.parted.2⟩
theorem rowP_of {w : World} {c : List Value} (h : Rel (.slice shPolicy) w c) : ∃ r : RowV Policy, c = [.slice r.ao r.la r.ca] ∧ RowP w r := by
  obtain ⟨ao, la, ca, xs, e, hS⟩ := SlR.of_rel (R := Flat Policy.cells) h (fun c hc => by
    obtain ⟨c1, c2, rfl, _, ⟨n1, rfl⟩, c3, c4, rfl, _, ⟨n2, rfl, _⟩, c5, c6, rfl, _, ⟨n3, rfl, _⟩, rfl⟩ := hc
    exact ⟨⟨n1, n2, n3⟩, rfl⟩)
  exact ⟨⟨ao, la, ca, xs⟩, e, hS⟩
theorem rowD_of {w : World} {c : List Value} (h : Rel (.slice shScaled) w c) : ∃ r : RowV Scaled, c = [.slice r.ao r.la r.ca] ∧ RowD w r := by
  obtain ⟨ao, la, ca, xs, e, hS⟩ := SlR.of_rel (R := Flat Scaled.cells) h (fun c hc => by
    obtain ⟨c1, c2, rfl, _, ⟨n1, rfl, _⟩, c3, c4, rfl, _, ⟨n2, rfl, _⟩, c5, c6, rfl, _, ⟨n3, rfl, _⟩, rfl⟩ := hc
    exact ⟨⟨n1, n2, n3⟩, rfl⟩)
  exact ⟨⟨ao, la, ca, xs⟩, e, hS⟩
theorem wl_of {w : World} {c : List Value} (h : Rel shWl w c) : ∃ x : WlV, c = [.int .i64 x.rep, .int .i64 x.cpu, .int .i64 x.mem, .slice x.L.ao x.L.la x.L.ca, .slice x.S.ao x.S.la x.S.ca, .slice x.T.ao x.T.la x.T.ca, .int .i64 x.warm] ∧ WlAt w x ∧ SmallL x.L.xs ∧ SmallS x.S.xs ∧ SmallL x.T.xs := by
  obtain ⟨c0, d0, rfl, _, ⟨rep, rfl, _⟩, ⟨c1, d1, rfl, _, ⟨_, _, rfl, _, ⟨cpu, rfl, _⟩, _, _, rfl, _, ⟨mem, rfl, _⟩, rfl⟩, ⟨c2, d2, rfl, _, rL, ⟨c3, d3, rfl, _, rS, ⟨c4, d4, rfl, _, rT, ⟨c5, d5, rfl, _, ⟨warm, rfl, _⟩, rfl⟩⟩⟩⟩⟩⟩ := h
  obtain ⟨L, rfl, aL, mL⟩ := rowL_of rL
  obtain ⟨S, rfl, aS, mS⟩ := rowS_of rS
  obtain ⟨T, rfl, aT, mT⟩ := rowL_of rT
  exact ⟨⟨rep, cpu, mem, L, S, T, warm⟩, rfl, ⟨aL, aS, aT⟩, mL, mS, mT⟩
theorem pod_of {w : World} {c : List Value} (h : Rel shPod w c) : ∃ x : PodV, c = [.string x.owner, .string x.node, .int .i64 x.phase, .int .i64 x.since, .int .i64 x.cpu, .int .i64 x.mem, .slice x.L.ao x.L.la x.L.ca, .slice x.S.ao x.S.la x.S.ca, .slice x.T.ao x.T.la x.T.ca, .int .i64 x.warm] ∧ PodAt w x ∧ x.owner.size ≤ maxLen ∧ x.node.size ≤ maxLen ∧ SmallL x.L.xs ∧ SmallS x.S.xs ∧ SmallL x.T.xs := by
  obtain ⟨c6, d6, rfl, _, ⟨owner, rfl, gowner⟩, ⟨c7, d7, rfl, _, ⟨node, rfl, gnode⟩, ⟨c8, d8, rfl, _, ⟨phase, rfl, _⟩, ⟨c9, d9, rfl, _, ⟨since, rfl, _⟩, ⟨c10, d10, rfl, _, ⟨_, _, rfl, _, ⟨cpu, rfl, _⟩, _, _, rfl, _, ⟨mem, rfl, _⟩, rfl⟩, ⟨c11, d11, rfl, _, rL, ⟨c12, d12, rfl, _, rS, ⟨c13, d13, rfl, _, rT, ⟨c14, d14, rfl, _, ⟨warm, rfl, _⟩, rfl⟩⟩⟩⟩⟩⟩⟩⟩⟩ := h
  obtain ⟨L, rfl, aL, mL⟩ := rowL_of rL
  obtain ⟨S, rfl, aS, mS⟩ := rowS_of rS
  obtain ⟨T, rfl, aT, mT⟩ := rowL_of rT
  exact ⟨⟨owner, node, phase, since, cpu, mem, L, S, T, warm⟩, rfl, ⟨aL, aS, aT⟩, gowner, gnode, mL, mS, mT⟩
theorem node_of {w : World} {c : List Value} (h : Rel shNode w c) : ∃ x : NodeV, c = [.string x.group, .int .i64 x.cpu, .int .i64 x.mem, .slice x.L.ao x.L.la x.L.ca, .slice x.T.ao x.T.la x.T.ca, .int .i64 x.since, .bool x.closed] ∧ NodeAt w x ∧ x.group.size ≤ maxLen ∧ SmallL x.L.xs ∧ SmallL x.T.xs := by
  obtain ⟨c15, d15, rfl, _, ⟨group, rfl, ggroup⟩, ⟨c16, d16, rfl, _, ⟨_, _, rfl, _, ⟨cpu, rfl, _⟩, _, _, rfl, _, ⟨mem, rfl, _⟩, rfl⟩, ⟨c17, d17, rfl, _, rL, ⟨c18, d18, rfl, _, rT, ⟨c19, d19, rfl, _, ⟨since, rfl, _⟩, ⟨c20, d20, rfl, _, ⟨closed, rfl⟩, rfl⟩⟩⟩⟩⟩⟩ := h
  obtain ⟨L, rfl, aL, mL⟩ := rowL_of rL
  obtain ⟨T, rfl, aT, mT⟩ := rowL_of rT
  exact ⟨⟨group, cpu, mem, L, T, since, closed⟩, rfl, ⟨aL, aT⟩, ggroup, mL, mT⟩
theorem group_of {w : World} {c : List Value} (h : Rel shGroup w c) : ∃ x : GroupV, c = [.int .i64 x.min, .int .i64 x.max, .int .i64 x.target, .int .i64 x.cpu, .int .i64 x.mem, .slice x.L.ao x.L.la x.L.ca, .slice x.T.ao x.T.la x.T.ca, .int .i64 x.prio] ∧ GroupAt w x ∧ SmallL x.L.xs ∧ SmallL x.T.xs := by
  obtain ⟨c21, d21, rfl, _, ⟨min, rfl, _⟩, ⟨c22, d22, rfl, _, ⟨max, rfl, _⟩, ⟨c23, d23, rfl, _, ⟨target, rfl, _⟩, ⟨c24, d24, rfl, _, ⟨_, _, rfl, _, ⟨cpu, rfl, _⟩, _, _, rfl, _, ⟨mem, rfl, _⟩, rfl⟩, ⟨c25, d25, rfl, _, rL, ⟨c26, d26, rfl, _, rT, ⟨c27, d27, rfl, _, ⟨prio, rfl, _⟩, rfl⟩⟩⟩⟩⟩⟩⟩ := h
  obtain ⟨L, rfl, aL, mL⟩ := rowL_of rL
  obtain ⟨T, rfl, aT, mT⟩ := rowL_of rT
  exact ⟨⟨min, max, target, cpu, mem, L, T, prio⟩, rfl, ⟨aL, aT⟩, mL, mT⟩
theorem beh_of {w : World} {c : List Value} (h : Rel shBeh w c) : ∃ x : BehV, c = [.int .i64 x.win, .int .i64 x.pick, .slice x.P.ao x.P.la x.P.ca] ∧ RowP w x.P := by
  obtain ⟨c28, d28, rfl, _, ⟨win, rfl, _⟩, ⟨c29, d29, rfl, _, ⟨pick, rfl, _⟩, ⟨c30, d30, rfl, _, rP, rfl⟩⟩⟩ := h
  obtain ⟨P, rfl, aP⟩ := rowP_of rP
  exact ⟨⟨win, pick, P⟩, rfl, aP⟩
theorem hpa_of {w : World} {c : List Value} (h : Rel shHpa w c) : ∃ x : HpaV, c = [.string x.target, .int .i64 x.min, .int .i64 x.max, .slice x.M.ao x.M.la x.M.ca, .int .i64 x.tol, .int .i64 x.up.win, .int .i64 x.up.pick, .slice x.up.P.ao x.up.P.la x.up.P.ca, .int .i64 x.down.win, .int .i64 x.down.pick, .slice x.down.P.ao x.down.P.la x.down.P.ca, .slice x.past.ao x.past.la x.past.ca] ∧ HpaAt w x ∧ x.target.size ≤ maxLen ∧ ∀ k, (h : k < x.M.xs.length) → x.M.xs[k].name.size ≤ maxLen := by
  obtain ⟨c31, d31, rfl, _, ⟨target, rfl, gtarget⟩, ⟨c32, d32, rfl, _, ⟨min, rfl, _⟩, ⟨c33, d33, rfl, _, ⟨max, rfl, _⟩, ⟨c34, d34, rfl, _, rM, ⟨c35, d35, rfl, _, ⟨tol, rfl, _⟩, ⟨c36, d36, rfl, _, rup, ⟨c37, d37, rfl, _, rdown, ⟨c38, d38, rfl, _, rpast, rfl⟩⟩⟩⟩⟩⟩⟩⟩ := h
  obtain ⟨M, rfl, aM, mM⟩ := rowM_of rM
  obtain ⟨up, rfl, aup⟩ := beh_of rup
  obtain ⟨down, rfl, adown⟩ := beh_of rdown
  obtain ⟨past, rfl, apast⟩ := rowD_of rpast
  exact ⟨⟨target, min, max, M, tol, up, down, past⟩, rfl, ⟨aM, aup, adown, apast⟩, gtarget, mM⟩

theorem obj_of_rel {w : World} {c : List Value} (h : Rel shObj w c) : ∃ (kd : Int) (nm : ByteArray) (ver : Int) (o : ShapesV), c = [.int .i64 kd, .string nm, .int .u64 ver, .int .i64 o.w.rep, .int .i64 o.w.cpu, .int .i64 o.w.mem, .slice o.w.L.ao o.w.L.la o.w.L.ca, .slice o.w.S.ao o.w.S.la o.w.S.ca, .slice o.w.T.ao o.w.T.la o.w.T.ca, .int .i64 o.w.warm, .string o.p.owner, .string o.p.node, .int .i64 o.p.phase, .int .i64 o.p.since, .int .i64 o.p.cpu, .int .i64 o.p.mem, .slice o.p.L.ao o.p.L.la o.p.L.ca, .slice o.p.S.ao o.p.S.la o.p.S.ca, .slice o.p.T.ao o.p.T.la o.p.T.ca, .int .i64 o.p.warm, .string o.n.group, .int .i64 o.n.cpu, .int .i64 o.n.mem, .slice o.n.L.ao o.n.L.la o.n.L.ca, .slice o.n.T.ao o.n.T.la o.n.T.ca, .int .i64 o.n.since, .bool o.n.closed, .int .i64 o.g.min, .int .i64 o.g.max, .int .i64 o.g.target, .int .i64 o.g.cpu, .int .i64 o.g.mem, .slice o.g.L.ao o.g.L.la o.g.L.ca, .slice o.g.T.ao o.g.T.la o.g.T.ca, .int .i64 o.g.prio, .string o.h.target, .int .i64 o.h.min, .int .i64 o.h.max, .slice o.h.M.ao o.h.M.la o.h.M.ca, .int .i64 o.h.tol, .int .i64 o.h.up.win, .int .i64 o.h.up.pick, .slice o.h.up.P.ao o.h.up.P.la o.h.up.P.ca, .int .i64 o.h.down.win, .int .i64 o.h.down.pick, .slice o.h.down.P.ao o.h.down.P.la o.h.down.P.ca, .slice o.h.past.ao o.h.past.la o.h.past.ca] ∧ ShapesAt w o ∧ SmallO nm o := by
  obtain ⟨c1, d1, rfl, _, ⟨kd, rfl, _⟩, c2, d2, rfl, _, ⟨nm, rfl, gnm⟩, c3, d3, rfl, _, ⟨ver, rfl, _⟩, c4, d4, rfl, _, rw_, c5, d5, rfl, _, rp, c6, d6, rfl, _, rn, c7, d7, rfl, _, rg, c8, d8, rfl, _, rh, rfl⟩ := h
  obtain ⟨xw, rfl, aw, w1, w2, w3⟩ := wl_of rw_
  obtain ⟨xp, rfl, ap, p1, p2, p3, p4, p5⟩ := pod_of rp
  obtain ⟨xn, rfl, an, n1, n2, n3⟩ := node_of rn
  obtain ⟨xg, rfl, ag, g1, g2⟩ := group_of rg
  obtain ⟨xh, rfl, ah, h1, h2⟩ := hpa_of rh
  exact ⟨kd, nm, ver, ⟨xw, xp, xn, xg, xh⟩, rfl, ⟨aw, ap, an, ag, ah⟩, ⟨gnm, w1, w2, w3, p1, p2, p3, p4, p5, n1, n2, n3, g1, g2, h1, h2⟩⟩
end Go.Proofs.YtjncoloedakpoaaDoor
