/- A laid object's version and lengths. No condition. -/
import Derived.Test.YtpbppgfogepjeaaBound
import Derived.Test.YtpbppgfogepjeaaObjRel
import Derived.Test.YtpbppgfogepjeaaFewSays
namespace Go.Proofs.Ytpbppgfogepjeaa
open Go.ChangeShapes Go.WideShapes Go.ChangeAt Go.RowKit Go.Deep

def leafAt : Sh → Nat → Option Sh
  | .pair a b, i => if i < a.size then leafAt a i else leafAt b (i - a.size)
  | .unit, _ => none
  | .bool, i => if i = 0 then some .bool else none
  | .int k, i => if i = 0 then some (.int k) else none
  | .str, i => if i = 0 then some .str else none
  | .slice e, i => if i = 0 then some (.slice e) else none

theorem Bd.length : ∀ (s : Sh) {w : World} {cs : List Value}, Bd s w cs → cs.length = s.size
  | .bool, _, _, h => h
  | .int _, _, _, h => h
  | .str, _, _, ⟨_, h, _⟩ => by rw [h]; rfl
  | .slice _, _, _, ⟨_, _, _, h, _⟩ => by rw [h]; rfl
  | .pair a b, _, _, ⟨_, _, h, h1, _, h2⟩ => by rw [h, List.length_append, h1, Bd.length b h2]; rfl
  | .unit, _, _, h => by rw [show _ = _ from h]; rfl

theorem leaf_gen {R : Sh → World → List Value → Prop} (hp : ∀ a b w cs, R (.pair a b) w cs → ∃ c1 c2, cs = c1 ++ c2 ∧ c1.length = a.size ∧ R a w c1 ∧ R b w c2) (hl : ∀ s w cs, R s w cs → cs.length = s.size) :
    ∀ (s : Sh) {w : World} {cs : List Value} {i : Nat} {l : Sh}, R s w cs → leafAt s i = some l → ∃ v, cs[i]? = some v ∧ R l w [v]
  | .pair a b, w, cs, i, l, h, hi => by
    obtain ⟨c1, c2, rfl, h1, ha, hb⟩ := hp a b w cs h
    unfold leafAt at hi
    split at hi
    · obtain ⟨v, e, r⟩ := leaf_gen hp hl a ha hi
      exact ⟨v, by rw [List.getElem?_append_left (by omega)]; exact e, r⟩
    · obtain ⟨v, e, r⟩ := leaf_gen hp hl b hb hi
      exact ⟨v, by rw [List.getElem?_append_right (by omega), h1]; exact e, r⟩
  | .unit, _, _, _, _, _, hi => by simp [leafAt] at hi
  | .bool, w, cs, i, l, h, hi => by
    unfold leafAt at hi
    split at hi
    · rename_i h0
      cases hi
      subst h0
      have hlen := hl _ _ _ h
      match cs, hlen with
      | [v], _ => exact ⟨v, rfl, h⟩
    · cases hi
  | .int k, w, cs, i, l, h, hi => by
    unfold leafAt at hi
    split at hi
    · rename_i h0
      cases hi
      subst h0
      have hlen := hl _ _ _ h
      match cs, hlen with
      | [v], _ => exact ⟨v, rfl, h⟩
    · cases hi
  | .str, w, cs, i, l, h, hi => by
    unfold leafAt at hi
    split at hi
    · rename_i h0
      cases hi
      subst h0
      have hlen := hl _ _ _ h
      match cs, hlen with
      | [v], _ => exact ⟨v, rfl, h⟩
    · cases hi
  | .slice e, w, cs, i, l, h, hi => by
    unfold leafAt at hi
    split at hi
    · rename_i h0
      cases hi
      subst h0
      have hlen := hl _ _ _ h
      match cs, hlen with
      | [v], _ => exact ⟨v, rfl, h⟩
    · cases hi
theorem Bd.leaf {s : Sh} {w : World} {cs : List Value} (i : Nat) {l : Sh} (h : Bd s w cs) (hi : leafAt s i = some l) : ∃ v, cs[i]? = some v ∧ Bd l w [v] :=
  leaf_gen (R := Bd) (fun _ _ _ _ h => h) (fun s _ _ h => Bd.length s h) s h hi
theorem Rel.leaf {s : Sh} {w : World} {cs : List Value} (i : Nat) {l : Sh} (h : Rel s w cs) (hi : leafAt s i = some l) : ∃ v, cs[i]? = some v ∧ Rel l w [v] :=
  leaf_gen (R := Rel) (fun _ _ _ _ h => h) (fun s _ _ h => Rel.length s h) s h hi
theorem bd_slice {s e : Sh} {w : World} {cs : List Value} {i : Nat} {ao : Option Addr} {la ca : Nat} (h : Bd s w cs) (hi : leafAt s i = some (.slice e)) (hc : cs[i]? = some (.slice ao la ca)) : la ≤ 140737488351232 := by
  obtain ⟨v, e1, ⟨_, _, _, e2, hl, _⟩⟩ := Bd.leaf i h hi
  rw [hc] at e1
  cases e1
  cases e2
  exact hl
theorem bd_str {s : Sh} {w : World} {cs : List Value} {i : Nat} {x : ByteArray} (h : Bd s w cs) (hi : leafAt s i = some .str) (hc : cs[i]? = some (.string x)) : x.size ≤ 140737488351232 := by
  obtain ⟨v, e1, ⟨_, e2, hl⟩⟩ := Bd.leaf i h hi
  rw [hc] at e1
  cases e1
  cases e2
  exact hl
theorem rel_u64 {s : Sh} {w : World} {cs : List Value} {i : Nat} {n : Int} (h : Rel s w cs) (hi : leafAt s i = some (.int .u64)) (hc : cs[i]? = some (.int .u64 n)) : 0 ≤ n ∧ n ≤ 18446744073709551615 := by
  obtain ⟨v, e1, ⟨_, e2, hw⟩⟩ := Rel.leaf i h hi
  rw [hc] at e1
  cases e1
  cases e2
  simp [Lit.wf, IntKind.min, IntKind.max, IntKind.bits, IntKind.signed] at hw
  omega
theorem reach_of {kd : Int} {nm : ByteArray} {ver : Int} {o : ShapesV} {w : World} (h : Bd shObj w [.int .i64 kd, .string nm, .int .u64 ver, .int .i64 o.w.rep, .int .i64 o.w.cpu, .int .i64 o.w.mem, .slice o.w.L.ao o.w.L.la o.w.L.ca, .slice o.w.S.ao o.w.S.la o.w.S.ca, .slice o.w.T.ao o.w.T.la o.w.T.ca, .int .i64 o.w.warm, .string o.p.owner, .string o.p.node, .int .i64 o.p.phase, .int .i64 o.p.since, .int .i64 o.p.cpu, .int .i64 o.p.mem, .slice o.p.L.ao o.p.L.la o.p.L.ca, .slice o.p.S.ao o.p.S.la o.p.S.ca, .slice o.p.T.ao o.p.T.la o.p.T.ca, .int .i64 o.p.warm, .string o.n.group, .int .i64 o.n.cpu, .int .i64 o.n.mem, .slice o.n.L.ao o.n.L.la o.n.L.ca, .slice o.n.T.ao o.n.T.la o.n.T.ca, .int .i64 o.n.since, .bool o.n.closed, .int .i64 o.g.min, .int .i64 o.g.max, .int .i64 o.g.target, .int .i64 o.g.cpu, .int .i64 o.g.mem, .slice o.g.L.ao o.g.L.la o.g.L.ca, .slice o.g.T.ao o.g.T.la o.g.T.ca, .int .i64 o.g.prio, .string o.h.target, .int .i64 o.h.min, .int .i64 o.h.max, .slice o.h.M.ao o.h.M.la o.h.M.ca, .int .i64 o.h.tol, .int .i64 o.h.up.win, .int .i64 o.h.up.pick, .slice o.h.up.P.ao o.h.up.P.la o.h.up.P.ca, .int .i64 o.h.down.win, .int .i64 o.h.down.pick, .slice o.h.down.P.ao o.h.down.P.la o.h.down.P.ca, .slice o.h.past.ao o.h.past.la o.h.past.ca]) : Reach6 o := ⟨
  bd_slice (i := 7) (e := shRequire) (ao := o.w.S.ao) (la := o.w.S.la) (ca := o.w.S.ca) h (by kernel_rfl) (by kernel_rfl),
  bd_slice (i := 17) (e := shRequire) (ao := o.p.S.ao) (la := o.p.S.la) (ca := o.p.S.ca) h (by kernel_rfl) (by kernel_rfl),
  bd_slice (i := 38) (e := shMetric) (ao := o.h.M.ao) (la := o.h.M.la) (ca := o.h.M.ca) h (by kernel_rfl) (by kernel_rfl),
  bd_slice (i := 42) (e := shPolicy) (ao := o.h.up.P.ao) (la := o.h.up.P.la) (ca := o.h.up.P.ca) h (by kernel_rfl) (by kernel_rfl),
  bd_slice (i := 45) (e := shPolicy) (ao := o.h.down.P.ao) (la := o.h.down.P.la) (ca := o.h.down.P.ca) h (by kernel_rfl) (by kernel_rfl),
  bd_slice (i := 46) (e := shScaled) (ao := o.h.past.ao) (la := o.h.past.la) (ca := o.h.past.ca) h (by kernel_rfl) (by kernel_rfl)⟩
theorem ver_of {kd : Int} {nm : ByteArray} {ver : Int} {o : ShapesV} {w : World} (h : Rel shObj w [.int .i64 kd, .string nm, .int .u64 ver, .int .i64 o.w.rep, .int .i64 o.w.cpu, .int .i64 o.w.mem, .slice o.w.L.ao o.w.L.la o.w.L.ca, .slice o.w.S.ao o.w.S.la o.w.S.ca, .slice o.w.T.ao o.w.T.la o.w.T.ca, .int .i64 o.w.warm, .string o.p.owner, .string o.p.node, .int .i64 o.p.phase, .int .i64 o.p.since, .int .i64 o.p.cpu, .int .i64 o.p.mem, .slice o.p.L.ao o.p.L.la o.p.L.ca, .slice o.p.S.ao o.p.S.la o.p.S.ca, .slice o.p.T.ao o.p.T.la o.p.T.ca, .int .i64 o.p.warm, .string o.n.group, .int .i64 o.n.cpu, .int .i64 o.n.mem, .slice o.n.L.ao o.n.L.la o.n.L.ca, .slice o.n.T.ao o.n.T.la o.n.T.ca, .int .i64 o.n.since, .bool o.n.closed, .int .i64 o.g.min, .int .i64 o.g.max, .int .i64 o.g.target, .int .i64 o.g.cpu, .int .i64 o.g.mem, .slice o.g.L.ao o.g.L.la o.g.L.ca, .slice o.g.T.ao o.g.T.la o.g.T.ca, .int .i64 o.g.prio, .string o.h.target, .int .i64 o.h.min, .int .i64 o.h.max, .slice o.h.M.ao o.h.M.la o.h.M.ca, .int .i64 o.h.tol, .int .i64 o.h.up.win, .int .i64 o.h.up.pick, .slice o.h.up.P.ao o.h.up.P.la o.h.up.P.ca, .int .i64 o.h.down.win, .int .i64 o.h.down.pick, .slice o.h.down.P.ao o.h.down.P.la o.h.down.P.ca, .slice o.h.past.ao o.h.past.la o.h.past.ca]) : 0 ≤ ver ∧ ver ≤ 18446744073709551615 := rel_u64 (i := 2) (n := ver) h (by kernel_rfl) (by kernel_rfl)
end Go.Proofs.Ytpbppgfogepjeaa
