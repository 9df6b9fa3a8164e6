/- An object's rows, and what a copy has of them. No condition. || Defaults by the document, in plain words. No condition. || append of any slice that reads, nil too, onto a row of the call's own. No condition. -/
import Derived.Test.YtpbppgfogepjeaaShapesM
import Derived.Test.YtpbppgfogepjeaaOwnStM
import Derived.Test.YtpbppgfogepjeaaCutListM
import Derived.Test.YtpbppgfogepjeaaName2M
import Derived.Laws.AppendOwnNone
namespace Go.Proofs.Ytpbppgfogepjeaa
open Go.ChangeShapes Go.WideShapes Go.ChangeAt Go.RowKit Go.Deep

structure Rows14 where
  wL : RowV Label
  wT : RowV Label
  pL : RowV Label
  pT : RowV Label
  nL : RowV Label
  nT : RowV Label
  gL : RowV Label
  gT : RowV Label
  wS : RowV Require
  pS : RowV Require
  hM : RowV Metric
  hU : RowV Policy
  hD : RowV Policy
  hP : RowV Scaled
def ShapesV.rows (o : ShapesV) : Rows14 := ⟨o.w.L, o.w.T, o.p.L, o.p.T, o.n.L, o.n.T, o.g.L, o.g.T, o.w.S, o.p.S, o.h.M, o.h.up.P, o.h.down.P, o.h.past⟩
def ShapesV.with (o : ShapesV) (r : Rows14) : ShapesV := ⟨{ o.w with L := r.wL, S := r.wS, T := r.wT }, { o.p with L := r.pL, S := r.pS, T := r.pT }, { o.n with L := r.nL, T := r.nT }, { o.g with L := r.gL, T := r.gT }, { o.h with M := r.hM, up := { o.h.up with P := r.hU }, down := { o.h.down with P := r.hD }, past := r.hP }⟩
def RowV.Like {α : Type} (r s : RowV α) : Prop := s.la = r.la ∧ s.xs = r.xs
structure Rows14.Like (r s : Rows14) : Prop where
  wL : r.wL.Like s.wL
  wT : r.wT.Like s.wT
  pL : r.pL.Like s.pL
  pT : r.pT.Like s.pT
  nL : r.nL.Like s.nL
  nT : r.nT.Like s.nT
  gL : r.gL.Like s.gL
  gT : r.gT.Like s.gT
  wS : r.wS.Like s.wS
  pS : r.pS.Like s.pS
  hM : r.hM.Like s.hM
  hU : r.hU.Like s.hU
  hD : r.hD.Like s.hD
  hP : r.hP.Like s.hP
structure Rows14.Own (r : Rows14) (B : Nat) (w : World) : Prop where
  wL : w.ownsRow B 110 2 (.slice r.wL.ao r.wL.la r.wL.ca) r.wL.la (r.wL.xs.flatMap Label.cells)
  wT : w.ownsRow B 110 2 (.slice r.wT.ao r.wT.la r.wT.ca) r.wT.la (r.wT.xs.flatMap Label.cells)
  pL : w.ownsRow B 110 2 (.slice r.pL.ao r.pL.la r.pL.ca) r.pL.la (r.pL.xs.flatMap Label.cells)
  pT : w.ownsRow B 110 2 (.slice r.pT.ao r.pT.la r.pT.ca) r.pT.la (r.pT.xs.flatMap Label.cells)
  nL : w.ownsRow B 110 2 (.slice r.nL.ao r.nL.la r.nL.ca) r.nL.la (r.nL.xs.flatMap Label.cells)
  nT : w.ownsRow B 110 2 (.slice r.nT.ao r.nT.la r.nT.ca) r.nT.la (r.nT.xs.flatMap Label.cells)
  gL : w.ownsRow B 110 2 (.slice r.gL.ao r.gL.la r.gL.ca) r.gL.la (r.gL.xs.flatMap Label.cells)
  gT : w.ownsRow B 110 2 (.slice r.gT.ao r.gT.la r.gT.ca) r.gT.la (r.gT.xs.flatMap Label.cells)
  wS : w.ownsRow B 113 3 (.slice r.wS.ao r.wS.la r.wS.ca) r.wS.la (r.wS.xs.flatMap Require.cells)
  pS : w.ownsRow B 113 3 (.slice r.pS.ao r.pS.la r.pS.ca) r.pS.la (r.pS.xs.flatMap Require.cells)
  hM : w.ownsRow B 83 3 (.slice r.hM.ao r.hM.la r.hM.ca) r.hM.la (r.hM.xs.flatMap Metric.cells)
  hU : w.ownsRow B 49 3 (.slice r.hU.ao r.hU.la r.hU.ca) r.hU.la (r.hU.xs.flatMap Policy.cells)
  hD : w.ownsRow B 49 3 (.slice r.hD.ao r.hD.la r.hD.ca) r.hD.la (r.hD.xs.flatMap Policy.cells)
  hP : w.ownsRow B 87 3 (.slice r.hP.ao r.hP.la r.hP.ca) r.hP.la (r.hP.xs.flatMap Scaled.cells)
structure Rows14.Few (r : Rows14) : Prop where
  wL : r.wL.la ≤ 1000000
  wT : r.wT.la ≤ 1000000
  pL : r.pL.la ≤ 1000000
  pT : r.pT.la ≤ 1000000
  nL : r.nL.la ≤ 1000000
  nT : r.nT.la ≤ 1000000
  gL : r.gL.la ≤ 1000000
  gT : r.gT.la ≤ 1000000
  wS : r.wS.la ≤ 1000000
  pS : r.pS.la ≤ 1000000
  hM : r.hM.la ≤ 1000000
  hU : r.hU.la ≤ 1000000
  hD : r.hD.la ≤ 1000000
  hP : r.hP.la ≤ 1000000

structure CS (w0 : World) (bo rb zz : Nat) (zero ptrs cells : List Value) (l : List OwnR) (w : World) : Prop where
  obj : VarSt w0 44 bo cells l w
  res : VarSt w0 44 rb zero [] w
  ptr : VarSt w0 119 zz ptrs [] w
  n1 : rb ≠ bo
  n2 : zz ≠ bo
  n3 : ∀ r ∈ l, r.v.ownBlock ≠ some rb
theorem CS.below {w0 w w' : World} {bo rb zz : Nat} {zero ptrs cells : List Value} {l : List OwnR} (h : CS w0 bo rb zz zero ptrs cells l w) (hb : Below w.heap.size w w') : CS w0 bo rb zz zero ptrs cells l w' := ⟨h.obj.below hb, h.res.below hb, h.ptr.below hb, h.n1, h.n2, h.n3⟩
theorem CS.call {w0 w w' : World} {bo rb zz : Nat} {zero ptrs cells : List Value} {l : List OwnR} (h : CS w0 bo rb zz zero ptrs cells l w) (hb : Below w.heap.size w w') {e : TypeId} {sz n : Nat} {v : Value} {xs : List Value} (ho : w'.ownsRow w.heap.size e sz v n xs) : CS w0 bo rb zz zero ptrs cells (⟨e, sz, v, n, xs⟩ :: l) w' := ⟨h.obj.call hb ho, h.res.below hb, h.ptr.below hb, h.n1, h.n2, fun r hr => by
  rcases List.mem_cons.1 hr with rfl | hr
  · have hlt := h.res.lt
    rcases ho.2 with ⟨e1, _⟩ | ⟨g, cap, cur, e1, hg, _⟩
    · dsimp only; rw [e1]; intro hh; cases hh
    · dsimp only; rw [e1]; intro hh
      have : g = rb := Option.some.inj hh
      omega
  · exact h.n3 r hr⟩
theorem CS.set {w0 w : World} {bo rb zz : Nat} {zero ptrs cells : List Value} {l : List OwnR} (h : CS w0 bo rb zz zero ptrs cells l w) (i : Nat) (v : Value) : CS w0 bo rb zz zero ptrs (cells.set i v) l (w.setCell ⟨bo, i, none⟩ v) := ⟨h.obj.set i v, h.res.far h.obj.new h.n1 rfl i v, h.ptr.far h.obj.new h.n2 rfl i v, h.n1, h.n2, h.n3⟩
theorem CS.fill {w0 w : World} {bo rb zz : Nat} {zero ptrs cells : List Value} {l : List OwnR} (h : CS w0 bo rb zz zero ptrs cells l w) (cs : List Value) : (w.setRow rb cs.toArray).heap[rb]? = some (.cells cs.toArray 44 (0, 0)) ∧ Below w0.heap.size w0 (w.setRow rb cs.toArray) ∧ ∀ r ∈ l, (w.setRow rb cs.toArray).ownsRow w0.heap.size r.e r.sz r.v r.n r.xs := by
  have hf := Fr.setRow (fun k => k = rb) w rb cs.toArray rfl
  exact ⟨setRow_heap h.res.obj, h.obj.keep.trans (hf.below h.obj.keep.size (fun k hk => by subst hk; exact h.res.new)), fun r hr => owns_fr hf (h.obj.own r hr).1 fun k hk hs => h.n3 r hr (by rw [hk, hs])⟩
theorem world_to {Q : Exit → Act → World → Prop} {e : Exit} {a : Act} {w w' : World} (h : w' = w) (hq : Q e a w) : Q e a w' := h ▸ hq
end Go.Proofs.Ytpbppgfogepjeaa
namespace Go.Proofs.Ytpbppgfogepjeaa
open Go.ChangeShapes Go.WideShapes Go.ChangeAt Go.RowKit Go.Deep

def fillB (b : BehV) : Bool := ((b.P.la : Int) == 0) && (b.pick != 2)
def polA : Policy := ⟨true, 1000, 15⟩
def polB : Policy := ⟨false, 4, 15⟩
def rowU (b : BehV) : RowV Policy := if fillB b = true then ⟨none, 2, 2, [polA, polB]⟩ else b.P
def rowD (b : BehV) : RowV Policy := if fillB b = true then ⟨none, 1, 1, [polA]⟩ else b.P
def HpaV.rows (h : HpaV) (M : RowV Metric) (U D : RowV Policy) (T : RowV Scaled) : HpaV := { h with M := M, up := { h.up with P := U }, down := { h.down with P := D }, past := T }
def shapeV (h : HpaV) : HpaV := h.rows h.M (rowU h.up) (rowD h.down) h.past
def HpaV.cells12 (h : HpaV) : List Value := [.string h.target, .int .i64 h.min, .int .i64 h.max, .slice h.M.ao h.M.la h.M.ca, .int .i64 h.tol, .int .i64 h.up.win, .int .i64 h.up.pick, .slice h.up.P.ao h.up.P.la h.up.P.ca, .int .i64 h.down.win, .int .i64 h.down.pick, .slice h.down.P.ao h.down.P.la h.down.P.ca, .slice h.past.ao h.past.la h.past.ca]
def clampV (g : GroupV) : GroupV := { g with target := min (max g.target g.min) g.max }
def defV (kd : Int) (o : ShapesV) : ShapesV := if kd = 4 then { o with h := shapeV o.h } else if kd = 3 then { o with g := clampV o.g } else o
end Go.Proofs.Ytpbppgfogepjeaa
namespace Go.Proofs.Ytpbppgfogepjeaa
open Go.ChangeShapes Go.WideShapes Go.ChangeAt Go.RowKit Go.Deep

theorem SlR.allA {α : Type} {f : α → List Value} {sz : Nat} {w : World} {ad : Addr} {n cap : Nat} {xs : List α} (hf : ∀ x, (f x).length = sz) (hsz : 0 < sz) (h : SlR (Flat f) sz w (some ad) n cap xs) :
    ∀ j u, (xs.flatMap f)[j]? = some u → w.cell? (ad.add j) = some u := by
  intro j u hj
  have hlt := (List.getElem?_eq_some_iff.1 hj).1
  rw [flatMap_len hf] at hlt
  have hi : j / sz < xs.length := by rw [Nat.div_lt_iff_lt_mul hsz]; exact hlt
  have hr := Nat.mod_lt j hsz
  have e : j / sz * sz + j % sz = j := by rw [Nat.mul_comm]; exact Nat.div_add_mod j sz
  have h2 := flatMap_get hf xs (j / sz) (j % sz) hi hr
  rw [e, hj] at h2
  obtain ⟨c, _, h3, h4⟩ := h.hat ad rfl (j / sz) hi
  rw [show c = f xs[j / sz] from h4] at h3
  have h5 := h3 (j % sz) u h2.symm
  rwa [e] at h5

theorem World.grownBy_refl (w : World) (r : Option Nat) : w.grownBy w r := ⟨rfl, rfl, rfl, Nat.le_refl _, fun _ _ _ => rfl⟩

theorem wpList_append_slr {P : Program} {ops : Array Oper} {rest : List Oper} {o : Oper} {a : Act} {w : World} {Q : Exit → Act → World → Prop} {t e : TypeId} {size bytes : Nat} (E : ElemOK P t e size bytes)
    (hgd : o.guard = none) (s x : Operand) (ho : o.op = .call { callee := .builtin .append, args := #[s, x], argTypes := #[t, t] })
    (B : Nat) (v : Value) (n : Nat) (xs : List Value) (hs : a.eval s = v) (hown : w.ownsRow B e size v n xs) (hB : B ≤ w.heap.size)
    {α : Type} {f : α → List Value} (hf : ∀ x, (f x).length = size) (ao : Option Addr) (m c : Nat) (ys : List α) (hx : a.eval x = .slice ao m c) (hS : SlR (Flat f) size w ao m c ys) (h1 : ∀ y u, u ∈ f y → u.oneCell' = true)
    (h63 : n + m ≤ maxLen) (hbytes : (n + m) * bytes ≤ 140737488355328)
    (h : ∀ v' w', w'.ownsRow B e size v' (n + m) (xs ++ ys.flatMap f) → w.grownBy w' v.ownBlock → wpList P ops Q rest (a.put o.dst v') w') : wpList P ops Q (o :: rest) a w := by
  obtain ⟨i, z, hi, hz, h2, h3, h4⟩ := E.info
  cases ao with
  | none =>
    have hc := hS.hnil rfl
    have hm : m = 0 := by have := hS.hcap; omega
    subst hc hm
    have hy : ys = [] := List.eq_nil_of_length_eq_zero hS.hlen
    subst hy
    refine wpList_append_own_none hgd s x t ho B e i size E.under hi v n xs hs hown hx (h v w ?_ (World.grownBy_refl _ _))
    simpa using hown
  | some ad =>
    refine wpList_append_own _ hgd s x t ho B e i z size bytes E.under hi hz h2 h3 h4 E.pos v n xs hs hown ad m c (ys.flatMap f) hx (by rw [flatMap_len hf, hS.hlen]) (hS.allA hf E.pos) (fun u hu => ?_) h63 hbytes hB fun v' w' h1 h2 _ => h v' w' h1 h2
    obtain ⟨y, _, hu⟩ := List.mem_flatMap.1 hu
    exact h1 y u hu
end Go.Proofs.Ytpbppgfogepjeaa
