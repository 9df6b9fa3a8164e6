/- The five shapes of an object as fields of one struct. No condition. -/
import Derived.Test.YtjncoloedakpoaaDoorRefLabelM
import Derived.Test.YtjncoloedakpoaaDoorMulti3M
namespace Go.Proofs.YtjncoloedakpoaaDoor
open Go.ChangeShapes Go.WideShapes Go.ChangeAt Go.RowKit Go.Deep

theorem aggWl : AggOK Tryd.prog 29 7 := .mk' (by kernel_rfl) (by kernel_rfl)
theorem aggPod : AggOK Tryd.prog 31 10 := .mk' (by kernel_rfl) (by kernel_rfl)
theorem aggNode : AggOK Tryd.prog 33 7 := .mk' (by kernel_rfl) (by kernel_rfl)
theorem aggGroup : AggOK Tryd.prog 35 8 := .mk' (by kernel_rfl) (by kernel_rfl)
theorem aggHpa : AggOK Tryd.prog 42 12 := .mk' (by kernel_rfl) (by kernel_rfl)

def WlV.cells (x : WlV) : List Value := [.int .i64 x.rep, .int .i64 x.cpu, .int .i64 x.mem, .slice x.L.ao x.L.la x.L.ca, .slice x.S.ao x.S.la x.S.ca, .slice x.T.ao x.T.la x.T.ca, .int .i64 x.warm]
def PodV.cells (x : PodV) : List Value := [.string x.owner, .string x.node, .int .i64 x.phase, .int .i64 x.since, .int .i64 x.cpu, .int .i64 x.mem, .slice x.L.ao x.L.la x.L.ca, .slice x.S.ao x.S.la x.S.ca, .slice x.T.ao x.T.la x.T.ca, .int .i64 x.warm]
def NodeV.cells (x : NodeV) : List Value := [.string x.group, .int .i64 x.cpu, .int .i64 x.mem, .slice x.L.ao x.L.la x.L.ca, .slice x.T.ao x.T.la x.T.ca, .int .i64 x.since, .bool x.closed]
def GroupV.cells (x : GroupV) : List Value := [.int .i64 x.min, .int .i64 x.max, .int .i64 x.target, .int .i64 x.cpu, .int .i64 x.mem, .slice x.L.ao x.L.la x.L.ca, .slice x.T.ao x.T.la x.T.ca, .int .i64 x.prio]
def HpaV.cells (x : HpaV) : List Value := [.string x.target, .int .i64 x.min, .int .i64 x.max, .slice x.M.ao x.M.la x.M.ca, .int .i64 x.tol, .int .i64 x.up.win, .int .i64 x.up.pick, .slice x.up.P.ao x.up.P.la x.up.P.ca, .int .i64 x.down.win, .int .i64 x.down.pick, .slice x.down.P.ao x.down.P.la x.down.P.ca, .slice x.past.ao x.past.la x.past.ca]

def objFive (o : ShapesV) (b1 : Nat) : Five Tryd.prog where
  Ts := 44
  F := fun k => 3 + k
  off := fun k => match k with | 0 => 3 | 1 => 10 | 2 => 20 | 3 => 27 | _ => 35
  T := fun k => match k with | 0 => 29 | 1 => 31 | 2 => 33 | 3 => 35 | _ => 42
  sz := fun k => match k with | 0 => 7 | 1 => 10 | 2 => 7 | 3 => 8 | _ => 12
  cs := fun k => match k with | 0 => o.w.cells | 1 => o.p.cells | 2 => o.n.cells | 3 => o.g.cells | _ => o.h.cells
  b1 := b1

theorem put_to {a : Act} {u : List (Nat × Value)} {L : Act} {Q : Exit → Act → World → Prop} {w : World} (h : puts a u = L) (hq : Q .normal L w) : Q .normal (puts a u) w := h ▸ hq

theorem five5 {p : Nat → Prop} (h0 : p 0) (h1 : p 1) (h2 : p 2) (h3 : p 3) (h4 : p 4) : ∀ k, k < 5 → p k
  | 0, _ => h0
  | 1, _ => h1
  | 2, _ => h2
  | 3, _ => h3
  | 4, _ => h4
  | k + 5, h => by omega

theorem objFive_ok (o : ShapesV) (b1 : Nat) : FiveOK (objFive o b1) where
  agg := five5 aggWl aggPod aggNode aggGroup aggHpa
  len := five5 rfl rfl rfl rfl rfl
  one := five5 rfl rfl rfl rfl rfl
  addr := five5 (fun w => by kernel_rfl) (fun w => by kernel_rfl) (fun w => by kernel_rfl) (fun w => by kernel_rfl) (fun w => by kernel_rfl)

theorem ord_of {ops : Array Oper} (h : ((List.range ops.size).all fun i => match ops[i]? with | some o => o.after.toList.all (fun e => !Region.binds .any e || decide (e.on < i)) | none => true) = true) :
    ∀ i o, ops[i]? = some o → ∀ e ∈ o.after, Region.binds .any e = true → e.on < i := by
  intro i o ho e he hb
  have hi : i < ops.size := (Array.getElem?_eq_some_iff.1 ho).1
  have := List.all_eq_true.1 h i (List.mem_range.2 hi)
  simp only [ho] at this
  have := List.all_eq_true.1 this e (by simpa using he)
  simp only [hb, Bool.not_true, Bool.false_or, decide_eq_true_eq] at this
  exact this

theorem mid_get {α : Type} (pre L post : List α) (j : Nat) (u : α) (h : L[j]? = some u) : (pre ++ (L ++ post)).toArray[pre.length + j]? = some u := by
  have hj := (List.getElem?_eq_some_iff.1 h).1
  rw [List.getElem?_toArray, List.getElem?_append_right (by omega), Nat.add_sub_cancel_left, List.getElem?_append_left hj, h]

set_option maxRecDepth 100000 in
theorem objFive_cells (o : ShapesV) (w : World) (kd : Int) (nm : ByteArray) (ver : Int) : ∀ k, k < 5 → ∀ j u, ((objFive o w.heap.size).cs k)[j]? = some u →
    (w.alloc (.cells #[.int .i64 kd, .string nm, .int .u64 ver, .int .i64 o.w.rep, .int .i64 o.w.cpu, .int .i64 o.w.mem, .slice o.w.L.ao o.w.L.la o.w.L.ca, .slice o.w.S.ao o.w.S.la o.w.S.ca, .slice o.w.T.ao o.w.T.la o.w.T.ca, .int .i64 o.w.warm, .string o.p.owner, .string o.p.node, .int .i64 o.p.phase, .int .i64 o.p.since, .int .i64 o.p.cpu, .int .i64 o.p.mem, .slice o.p.L.ao o.p.L.la o.p.L.ca, .slice o.p.S.ao o.p.S.la o.p.S.ca, .slice o.p.T.ao o.p.T.la o.p.T.ca, .int .i64 o.p.warm, .string o.n.group, .int .i64 o.n.cpu, .int .i64 o.n.mem, .slice o.n.L.ao o.n.L.la o.n.L.ca, .slice o.n.T.ao o.n.T.la o.n.T.ca, .int .i64 o.n.since, .bool o.n.closed, .int .i64 o.g.min, .int .i64 o.g.max, .int .i64 o.g.target, .int .i64 o.g.cpu, .int .i64 o.g.mem, .slice o.g.L.ao o.g.L.la o.g.L.ca, .slice o.g.T.ao o.g.T.la o.g.T.ca, .int .i64 o.g.prio, .string o.h.target, .int .i64 o.h.min, .int .i64 o.h.max, .slice o.h.M.ao o.h.M.la o.h.M.ca, .int .i64 o.h.tol, .int .i64 o.h.up.win, .int .i64 o.h.up.pick, .slice o.h.up.P.ao o.h.up.P.la o.h.up.P.ca, .int .i64 o.h.down.win, .int .i64 o.h.down.pick, .slice o.h.down.P.ao o.h.down.P.la o.h.down.P.ca, .slice o.h.past.ao o.h.past.la o.h.past.ca] 44)).cell? ((⟨w.heap.size, (objFive o w.heap.size).off k, none⟩ : Addr).add j) = some u := by
  refine five5 ?_ ?_ ?_ ?_ ?_
  · intro j u hu
    have e := cell_new w #[.int .i64 kd, .string nm, .int .u64 ver, .int .i64 o.w.rep, .int .i64 o.w.cpu, .int .i64 o.w.mem, .slice o.w.L.ao o.w.L.la o.w.L.ca, .slice o.w.S.ao o.w.S.la o.w.S.ca, .slice o.w.T.ao o.w.T.la o.w.T.ca, .int .i64 o.w.warm, .string o.p.owner, .string o.p.node, .int .i64 o.p.phase, .int .i64 o.p.since, .int .i64 o.p.cpu, .int .i64 o.p.mem, .slice o.p.L.ao o.p.L.la o.p.L.ca, .slice o.p.S.ao o.p.S.la o.p.S.ca, .slice o.p.T.ao o.p.T.la o.p.T.ca, .int .i64 o.p.warm, .string o.n.group, .int .i64 o.n.cpu, .int .i64 o.n.mem, .slice o.n.L.ao o.n.L.la o.n.L.ca, .slice o.n.T.ao o.n.T.la o.n.T.ca, .int .i64 o.n.since, .bool o.n.closed, .int .i64 o.g.min, .int .i64 o.g.max, .int .i64 o.g.target, .int .i64 o.g.cpu, .int .i64 o.g.mem, .slice o.g.L.ao o.g.L.la o.g.L.ca, .slice o.g.T.ao o.g.T.la o.g.T.ca, .int .i64 o.g.prio, .string o.h.target, .int .i64 o.h.min, .int .i64 o.h.max, .slice o.h.M.ao o.h.M.la o.h.M.ca, .int .i64 o.h.tol, .int .i64 o.h.up.win, .int .i64 o.h.up.pick, .slice o.h.up.P.ao o.h.up.P.la o.h.up.P.ca, .int .i64 o.h.down.win, .int .i64 o.h.down.pick, .slice o.h.down.P.ao o.h.down.P.la o.h.down.P.ca, .slice o.h.past.ao o.h.past.la o.h.past.ca] 44 (3 + j)
    rw [Addr.add_lit, Nat.zero_add] at e
    show (w.alloc _).cell? ((⟨w.heap.size, 3, none⟩ : Addr).add j) = some u
    rw [Addr.add_lit, e]
    exact mid_get [.int .i64 kd, .string nm, .int .u64 ver] (o.w.cells) [.string o.p.owner, .string o.p.node, .int .i64 o.p.phase, .int .i64 o.p.since, .int .i64 o.p.cpu, .int .i64 o.p.mem, .slice o.p.L.ao o.p.L.la o.p.L.ca, .slice o.p.S.ao o.p.S.la o.p.S.ca, .slice o.p.T.ao o.p.T.la o.p.T.ca, .int .i64 o.p.warm, .string o.n.group, .int .i64 o.n.cpu, .int .i64 o.n.mem, .slice o.n.L.ao o.n.L.la o.n.L.ca, .slice o.n.T.ao o.n.T.la o.n.T.ca, .int .i64 o.n.since, .bool o.n.closed, .int .i64 o.g.min, .int .i64 o.g.max, .int .i64 o.g.target, .int .i64 o.g.cpu, .int .i64 o.g.mem, .slice o.g.L.ao o.g.L.la o.g.L.ca, .slice o.g.T.ao o.g.T.la o.g.T.ca, .int .i64 o.g.prio, .string o.h.target, .int .i64 o.h.min, .int .i64 o.h.max, .slice o.h.M.ao o.h.M.la o.h.M.ca, .int .i64 o.h.tol, .int .i64 o.h.up.win, .int .i64 o.h.up.pick, .slice o.h.up.P.ao o.h.up.P.la o.h.up.P.ca, .int .i64 o.h.down.win, .int .i64 o.h.down.pick, .slice o.h.down.P.ao o.h.down.P.la o.h.down.P.ca, .slice o.h.past.ao o.h.past.la o.h.past.ca] j u hu
  · intro j u hu
    have e := cell_new w #[.int .i64 kd, .string nm, .int .u64 ver, .int .i64 o.w.rep, .int .i64 o.w.cpu, .int .i64 o.w.mem, .slice o.w.L.ao o.w.L.la o.w.L.ca, .slice o.w.S.ao o.w.S.la o.w.S.ca, .slice o.w.T.ao o.w.T.la o.w.T.ca, .int .i64 o.w.warm, .string o.p.owner, .string o.p.node, .int .i64 o.p.phase, .int .i64 o.p.since, .int .i64 o.p.cpu, .int .i64 o.p.mem, .slice o.p.L.ao o.p.L.la o.p.L.ca, .slice o.p.S.ao o.p.S.la o.p.S.ca, .slice o.p.T.ao o.p.T.la o.p.T.ca, .int .i64 o.p.warm, .string o.n.group, .int .i64 o.n.cpu, .int .i64 o.n.mem, .slice o.n.L.ao o.n.L.la o.n.L.ca, .slice o.n.T.ao o.n.T.la o.n.T.ca, .int .i64 o.n.since, .bool o.n.closed, .int .i64 o.g.min, .int .i64 o.g.max, .int .i64 o.g.target, .int .i64 o.g.cpu, .int .i64 o.g.mem, .slice o.g.L.ao o.g.L.la o.g.L.ca, .slice o.g.T.ao o.g.T.la o.g.T.ca, .int .i64 o.g.prio, .string o.h.target, .int .i64 o.h.min, .int .i64 o.h.max, .slice o.h.M.ao o.h.M.la o.h.M.ca, .int .i64 o.h.tol, .int .i64 o.h.up.win, .int .i64 o.h.up.pick, .slice o.h.up.P.ao o.h.up.P.la o.h.up.P.ca, .int .i64 o.h.down.win, .int .i64 o.h.down.pick, .slice o.h.down.P.ao o.h.down.P.la o.h.down.P.ca, .slice o.h.past.ao o.h.past.la o.h.past.ca] 44 (10 + j)
    rw [Addr.add_lit, Nat.zero_add] at e
    show (w.alloc _).cell? ((⟨w.heap.size, 10, none⟩ : Addr).add j) = some u
    rw [Addr.add_lit, e]
    exact mid_get [.int .i64 kd, .string nm, .int .u64 ver, .int .i64 o.w.rep, .int .i64 o.w.cpu, .int .i64 o.w.mem, .slice o.w.L.ao o.w.L.la o.w.L.ca, .slice o.w.S.ao o.w.S.la o.w.S.ca, .slice o.w.T.ao o.w.T.la o.w.T.ca, .int .i64 o.w.warm] (o.p.cells) [.string o.n.group, .int .i64 o.n.cpu, .int .i64 o.n.mem, .slice o.n.L.ao o.n.L.la o.n.L.ca, .slice o.n.T.ao o.n.T.la o.n.T.ca, .int .i64 o.n.since, .bool o.n.closed, .int .i64 o.g.min, .int .i64 o.g.max, .int .i64 o.g.target, .int .i64 o.g.cpu, .int .i64 o.g.mem, .slice o.g.L.ao o.g.L.la o.g.L.ca, .slice o.g.T.ao o.g.T.la o.g.T.ca, .int .i64 o.g.prio, .string o.h.target, .int .i64 o.h.min, .int .i64 o.h.max, .slice o.h.M.ao o.h.M.la o.h.M.ca, .int .i64 o.h.tol, .int .i64 o.h.up.win, .int .i64 o.h.up.pick, .slice o.h.up.P.ao o.h.up.P.la o.h.up.P.ca, .int .i64 o.h.down.win, .int .i64 o.h.down.pick, .slice o.h.down.P.ao o.h.down.P.la o.h.down.P.ca, .slice o.h.past.ao o.h.past.la o.h.past.ca] j u hu
  · intro j u hu
    have e := cell_new w #[.int .i64 kd, .string nm, .int .u64 ver, .int .i64 o.w.rep, .int .i64 o.w.cpu, .int .i64 o.w.mem, .slice o.w.L.ao o.w.L.la o.w.L.ca, .slice o.w.S.ao o.w.S.la o.w.S.ca, .slice o.w.T.ao o.w.T.la o.w.T.ca, .int .i64 o.w.warm, .string o.p.owner, .string o.p.node, .int .i64 o.p.phase, .int .i64 o.p.since, .int .i64 o.p.cpu, .int .i64 o.p.mem, .slice o.p.L.ao o.p.L.la o.p.L.ca, .slice o.p.S.ao o.p.S.la o.p.S.ca, .slice o.p.T.ao o.p.T.la o.p.T.ca, .int .i64 o.p.warm, .string o.n.group, .int .i64 o.n.cpu, .int .i64 o.n.mem, .slice o.n.L.ao o.n.L.la o.n.L.ca, .slice o.n.T.ao o.n.T.la o.n.T.ca, .int .i64 o.n.since, .bool o.n.closed, .int .i64 o.g.min, .int .i64 o.g.max, .int .i64 o.g.target, .int .i64 o.g.cpu, .int .i64 o.g.mem, .slice o.g.L.ao o.g.L.la o.g.L.ca, .slice o.g.T.ao o.g.T.la o.g.T.ca, .int .i64 o.g.prio, .string o.h.target, .int .i64 o.h.min, .int .i64 o.h.max, .slice o.h.M.ao o.h.M.la o.h.M.ca, .int .i64 o.h.tol, .int .i64 o.h.up.win, .int .i64 o.h.up.pick, .slice o.h.up.P.ao o.h.up.P.la o.h.up.P.ca, .int .i64 o.h.down.win, .int .i64 o.h.down.pick, .slice o.h.down.P.ao o.h.down.P.la o.h.down.P.ca, .slice o.h.past.ao o.h.past.la o.h.past.ca] 44 (20 + j)
    rw [Addr.add_lit, Nat.zero_add] at e
    show (w.alloc _).cell? ((⟨w.heap.size, 20, none⟩ : Addr).add j) = some u
    rw [Addr.add_lit, e]
    exact mid_get [.int .i64 kd, .string nm, .int .u64 ver, .int .i64 o.w.rep, .int .i64 o.w.cpu, .int .i64 o.w.mem, .slice o.w.L.ao o.w.L.la o.w.L.ca, .slice o.w.S.ao o.w.S.la o.w.S.ca, .slice o.w.T.ao o.w.T.la o.w.T.ca, .int .i64 o.w.warm, .string o.p.owner, .string o.p.node, .int .i64 o.p.phase, .int .i64 o.p.since, .int .i64 o.p.cpu, .int .i64 o.p.mem, .slice o.p.L.ao o.p.L.la o.p.L.ca, .slice o.p.S.ao o.p.S.la o.p.S.ca, .slice o.p.T.ao o.p.T.la o.p.T.ca, .int .i64 o.p.warm] (o.n.cells) [.int .i64 o.g.min, .int .i64 o.g.max, .int .i64 o.g.target, .int .i64 o.g.cpu, .int .i64 o.g.mem, .slice o.g.L.ao o.g.L.la o.g.L.ca, .slice o.g.T.ao o.g.T.la o.g.T.ca, .int .i64 o.g.prio, .string o.h.target, .int .i64 o.h.min, .int .i64 o.h.max, .slice o.h.M.ao o.h.M.la o.h.M.ca, .int .i64 o.h.tol, .int .i64 o.h.up.win, .int .i64 o.h.up.pick, .slice o.h.up.P.ao o.h.up.P.la o.h.up.P.ca, .int .i64 o.h.down.win, .int .i64 o.h.down.pick, .slice o.h.down.P.ao o.h.down.P.la o.h.down.P.ca, .slice o.h.past.ao o.h.past.la o.h.past.ca] j u hu
  · intro j u hu
    have e := cell_new w #[.int .i64 kd, .string nm, .int .u64 ver, .int .i64 o.w.rep, .int .i64 o.w.cpu, .int .i64 o.w.mem, .slice o.w.L.ao o.w.L.la o.w.L.ca, .slice o.w.S.ao o.w.S.la o.w.S.ca, .slice o.w.T.ao o.w.T.la o.w.T.ca, .int .i64 o.w.warm, .string o.p.owner, .string o.p.node, .int .i64 o.p.phase, .int .i64 o.p.since, .int .i64 o.p.cpu, .int .i64 o.p.mem, .slice o.p.L.ao o.p.L.la o.p.L.ca, .slice o.p.S.ao o.p.S.la o.p.S.ca, .slice o.p.T.ao o.p.T.la o.p.T.ca, .int .i64 o.p.warm, .string o.n.group, .int .i64 o.n.cpu, .int .i64 o.n.mem, .slice o.n.L.ao o.n.L.la o.n.L.ca, .slice o.n.T.ao o.n.T.la o.n.T.ca, .int .i64 o.n.since, .bool o.n.closed, .int .i64 o.g.min, .int .i64 o.g.max, .int .i64 o.g.target, .int .i64 o.g.cpu, .int .i64 o.g.mem, .slice o.g.L.ao o.g.L.la o.g.L.ca, .slice o.g.T.ao o.g.T.la o.g.T.ca, .int .i64 o.g.prio, .string o.h.target, .int .i64 o.h.min, .int .i64 o.h.max, .slice o.h.M.ao o.h.M.la o.h.M.ca, .int .i64 o.h.tol, .int .i64 o.h.up.win, .int .i64 o.h.up.pick, .slice o.h.up.P.ao o.h.up.P.la o.h.up.P.ca, .int .i64 o.h.down.win, .int .i64 o.h.down.pick, .slice o.h.down.P.ao o.h.down.P.la o.h.down.P.ca, .slice o.h.past.ao o.h.past.la o.h.past.ca] 44 (27 + j)
    rw [Addr.add_lit, Nat.zero_add] at e
    show (w.alloc _).cell? ((⟨w.heap.size, 27, none⟩ : Addr).add j) = some u
    rw [Addr.add_lit, e]
    exact mid_get [.int .i64 kd, .string nm, .int .u64 ver, .int .i64 o.w.rep, .int .i64 o.w.cpu, .int .i64 o.w.mem, .slice o.w.L.ao o.w.L.la o.w.L.ca, .slice o.w.S.ao o.w.S.la o.w.S.ca, .slice o.w.T.ao o.w.T.la o.w.T.ca, .int .i64 o.w.warm, .string o.p.owner, .string o.p.node, .int .i64 o.p.phase, .int .i64 o.p.since, .int .i64 o.p.cpu, .int .i64 o.p.mem, .slice o.p.L.ao o.p.L.la o.p.L.ca, .slice o.p.S.ao o.p.S.la o.p.S.ca, .slice o.p.T.ao o.p.T.la o.p.T.ca, .int .i64 o.p.warm, .string o.n.group, .int .i64 o.n.cpu, .int .i64 o.n.mem, .slice o.n.L.ao o.n.L.la o.n.L.ca, .slice o.n.T.ao o.n.T.la o.n.T.ca, .int .i64 o.n.since, .bool o.n.closed] (o.g.cells) [.string o.h.target, .int .i64 o.h.min, .int .i64 o.h.max, .slice o.h.M.ao o.h.M.la o.h.M.ca, .int .i64 o.h.tol, .int .i64 o.h.up.win, .int .i64 o.h.up.pick, .slice o.h.up.P.ao o.h.up.P.la o.h.up.P.ca, .int .i64 o.h.down.win, .int .i64 o.h.down.pick, .slice o.h.down.P.ao o.h.down.P.la o.h.down.P.ca, .slice o.h.past.ao o.h.past.la o.h.past.ca] j u hu
  · intro j u hu
    have e := cell_new w #[.int .i64 kd, .string nm, .int .u64 ver, .int .i64 o.w.rep, .int .i64 o.w.cpu, .int .i64 o.w.mem, .slice o.w.L.ao o.w.L.la o.w.L.ca, .slice o.w.S.ao o.w.S.la o.w.S.ca, .slice o.w.T.ao o.w.T.la o.w.T.ca, .int .i64 o.w.warm, .string o.p.owner, .string o.p.node, .int .i64 o.p.phase, .int .i64 o.p.since, .int .i64 o.p.cpu, .int .i64 o.p.mem, .slice o.p.L.ao o.p.L.la o.p.L.ca, .slice o.p.S.ao o.p.S.la o.p.S.ca, .slice o.p.T.ao o.p.T.la o.p.T.ca, .int .i64 o.p.warm, .string o.n.group, .int .i64 o.n.cpu, .int .i64 o.n.mem, .slice o.n.L.ao o.n.L.la o.n.L.ca, .slice o.n.T.ao o.n.T.la o.n.T.ca, .int .i64 o.n.since, .bool o.n.closed, .int .i64 o.g.min, .int .i64 o.g.max, .int .i64 o.g.target, .int .i64 o.g.cpu, .int .i64 o.g.mem, .slice o.g.L.ao o.g.L.la o.g.L.ca, .slice o.g.T.ao o.g.T.la o.g.T.ca, .int .i64 o.g.prio, .string o.h.target, .int .i64 o.h.min, .int .i64 o.h.max, .slice o.h.M.ao o.h.M.la o.h.M.ca, .int .i64 o.h.tol, .int .i64 o.h.up.win, .int .i64 o.h.up.pick, .slice o.h.up.P.ao o.h.up.P.la o.h.up.P.ca, .int .i64 o.h.down.win, .int .i64 o.h.down.pick, .slice o.h.down.P.ao o.h.down.P.la o.h.down.P.ca, .slice o.h.past.ao o.h.past.la o.h.past.ca] 44 (35 + j)
    rw [Addr.add_lit, Nat.zero_add] at e
    show (w.alloc _).cell? ((⟨w.heap.size, 35, none⟩ : Addr).add j) = some u
    rw [Addr.add_lit, e]
    exact mid_get [.int .i64 kd, .string nm, .int .u64 ver, .int .i64 o.w.rep, .int .i64 o.w.cpu, .int .i64 o.w.mem, .slice o.w.L.ao o.w.L.la o.w.L.ca, .slice o.w.S.ao o.w.S.la o.w.S.ca, .slice o.w.T.ao o.w.T.la o.w.T.ca, .int .i64 o.w.warm, .string o.p.owner, .string o.p.node, .int .i64 o.p.phase, .int .i64 o.p.since, .int .i64 o.p.cpu, .int .i64 o.p.mem, .slice o.p.L.ao o.p.L.la o.p.L.ca, .slice o.p.S.ao o.p.S.la o.p.S.ca, .slice o.p.T.ao o.p.T.la o.p.T.ca, .int .i64 o.p.warm, .string o.n.group, .int .i64 o.n.cpu, .int .i64 o.n.mem, .slice o.n.L.ao o.n.L.la o.n.L.ca, .slice o.n.T.ao o.n.T.la o.n.T.ca, .int .i64 o.n.since, .bool o.n.closed, .int .i64 o.g.min, .int .i64 o.g.max, .int .i64 o.g.target, .int .i64 o.g.cpu, .int .i64 o.g.mem, .slice o.g.L.ao o.g.L.la o.g.L.ca, .slice o.g.T.ao o.g.T.la o.g.T.ca, .int .i64 o.g.prio] (o.h.cells) [] j u hu
end Go.Proofs.YtjncoloedakpoaaDoor
