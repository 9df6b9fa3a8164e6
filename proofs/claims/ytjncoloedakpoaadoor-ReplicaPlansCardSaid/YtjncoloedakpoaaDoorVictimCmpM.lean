/- An object with all its cells; a row of such. No condition. || The comparisons of chapter 15's order, at the phases of its example. No condition. -/
import Derived.Test.YtjncoloedakpoaaDoorObjRel
import Derived.Test.YtjncoloedakpoaaDoorValM
import Derived.Test.YtjncoloedakpoaaDoorVicOwnM
import Derived.Sort.Walk0
import Derived.Deep.QuietTactic
namespace Go.Proofs.YtjncoloedakpoaaDoor
open Go.ChangeShapes Go.WideShapes Go.ChangeAt Go.RowKit Go.Deep

theorem wpList_load_gd {P : Program} {ops : Array Oper} {rest : List Oper} {o : Oper} {a : Act} {w : World} {Q : Exit → Act → World → Prop} {T : TypeId} {size : Nat} (A : AggOK P T size) (hgd : Region.wanted o (yielded ops a.tmps) = true) (x : Operand) (ho : o.op = .load T x)
    (p : Addr) (hx : a.eval x = .pointer (some p)) (cs : List Value) (hs : cs.length = size) (hc : ∀ j u, cs[j]? = some u → w.cell? (p.add j) = some u)
    (h : wpList P ops Q rest (a.put o.dst (.agg cs.toArray)) w) : wpList P ops Q (o :: rest) a w := by
  refine wpList_step fun _ hK => ?_
  rw [if_pos hgd]
  unfold Oper.wp execOp
  simp only [ho, hx, Instr.loadAt, Instr.sureAddr, Sem.run_bind, Sem.run_pure, Result.andThen_ok, run_loadVar_at A w p cs hs hc]
  exact hK _ _ h
structure ObI where
  kd : Int
  nm : ByteArray
  ver : Int
  o : ShapesV
def ObI.cells (x : ObI) : List Value := [.int .i64 x.kd, .string x.nm, .int .u64 x.ver, .int .i64 x.o.w.rep, .int .i64 x.o.w.cpu, .int .i64 x.o.w.mem, .slice x.o.w.L.ao x.o.w.L.la x.o.w.L.ca, .slice x.o.w.S.ao x.o.w.S.la x.o.w.S.ca, .slice x.o.w.T.ao x.o.w.T.la x.o.w.T.ca, .int .i64 x.o.w.warm, .string x.o.p.owner, .string x.o.p.node, .int .i64 x.o.p.phase, .int .i64 x.o.p.since, .int .i64 x.o.p.cpu, .int .i64 x.o.p.mem, .slice x.o.p.L.ao x.o.p.L.la x.o.p.L.ca, .slice x.o.p.S.ao x.o.p.S.la x.o.p.S.ca, .slice x.o.p.T.ao x.o.p.T.la x.o.p.T.ca, .int .i64 x.o.p.warm, .string x.o.n.group, .int .i64 x.o.n.cpu, .int .i64 x.o.n.mem, .slice x.o.n.L.ao x.o.n.L.la x.o.n.L.ca, .slice x.o.n.T.ao x.o.n.T.la x.o.n.T.ca, .int .i64 x.o.n.since, .bool x.o.n.closed, .int .i64 x.o.g.min, .int .i64 x.o.g.max, .int .i64 x.o.g.target, .int .i64 x.o.g.cpu, .int .i64 x.o.g.mem, .slice x.o.g.L.ao x.o.g.L.la x.o.g.L.ca, .slice x.o.g.T.ao x.o.g.T.la x.o.g.T.ca, .int .i64 x.o.g.prio, .string x.o.h.target, .int .i64 x.o.h.min, .int .i64 x.o.h.max, .slice x.o.h.M.ao x.o.h.M.la x.o.h.M.ca, .int .i64 x.o.h.tol, .int .i64 x.o.h.up.win, .int .i64 x.o.h.up.pick, .slice x.o.h.up.P.ao x.o.h.up.P.la x.o.h.up.P.ca, .int .i64 x.o.h.down.win, .int .i64 x.o.h.down.pick, .slice x.o.h.down.P.ao x.o.h.down.P.la x.o.h.down.P.ca, .slice x.o.h.past.ao x.o.h.past.la x.o.h.past.ca]
theorem ObI.hlen (x : ObI) : x.cells.length = 47 := rfl
theorem ObI.one (x : ObI) : x.cells.all (fun u => u.oneCell') = true := rfl
theorem ObI.h0 (x : ObI) : x.cells[0]? = some (.int .i64 x.kd) := rfl
theorem ObI.h1 (x : ObI) : x.cells[1]? = some (.string x.nm) := rfl
theorem ObI.h2 (x : ObI) : x.cells[2]? = some (.int .u64 x.ver) := rfl
theorem ObI.h3 (x : ObI) : x.cells[3]? = some (.int .i64 x.o.w.rep) := rfl
theorem ObI.h4 (x : ObI) : x.cells[4]? = some (.int .i64 x.o.w.cpu) := rfl
theorem ObI.h5 (x : ObI) : x.cells[5]? = some (.int .i64 x.o.w.mem) := rfl
theorem ObI.h6 (x : ObI) : x.cells[6]? = some (.slice x.o.w.L.ao x.o.w.L.la x.o.w.L.ca) := rfl
theorem ObI.h7 (x : ObI) : x.cells[7]? = some (.slice x.o.w.S.ao x.o.w.S.la x.o.w.S.ca) := rfl
theorem ObI.h8 (x : ObI) : x.cells[8]? = some (.slice x.o.w.T.ao x.o.w.T.la x.o.w.T.ca) := rfl
theorem ObI.h9 (x : ObI) : x.cells[9]? = some (.int .i64 x.o.w.warm) := rfl
theorem ObI.h10 (x : ObI) : x.cells[10]? = some (.string x.o.p.owner) := rfl
theorem ObI.h12 (x : ObI) : x.cells[12]? = some (.int .i64 x.o.p.phase) := rfl
theorem ObI.h13 (x : ObI) : x.cells[13]? = some (.int .i64 x.o.p.since) := rfl
theorem ObI.h15 (x : ObI) : x.cells[15]? = some (.int .i64 x.o.p.mem) := rfl
theorem ObI.h16 (x : ObI) : x.cells[16]? = some (.slice x.o.p.L.ao x.o.p.L.la x.o.p.L.ca) := rfl
theorem ObI.h32 (x : ObI) : x.cells[32]? = some (.slice x.o.g.L.ao x.o.g.L.la x.o.g.L.ca) := rfl
structure ObAt (w : World) (x : ObI) : Prop where
  sh : ShapesAt w x.o
  sm : SmallO x.nm x.o
theorem ObAt.b {w w' : World} {x : ObI} (h : ObAt w x) (hb : Below w.heap.size w w') : ObAt w' x := ⟨h.sh.b hb, h.sm⟩
theorem aggObI : AggOK Tryd.prog 44 47 := .mk' (by kernel_rfl) (by kernel_rfl)
theorem aggPod : AggOK Tryd.prog 31 10 := .mk' (by kernel_rfl) (by kernel_rfl)
theorem aggNode : AggOK Tryd.prog 33 7 := .mk' (by kernel_rfl) (by kernel_rfl)
theorem ob_new (w : World) (x : ObI) (T : TypeId) : ∀ j u, x.cells[j]? = some u → (w.alloc (.cells x.cells.toArray T)).cell? ⟨w.heap.size, j, none⟩ = some u := fun j u hu => by
  have := (cell_new w x.cells.toArray T j).trans (by simpa using hu : _ = some u)
  rwa [Addr.add_lit, Nat.zero_add] at this
instance : Inhabited ObI := ⟨⟨0, ⟨#[]⟩, 0, ⟨⟨0, 0, 0, ⟨none, 0, 0, []⟩, ⟨none, 0, 0, []⟩, ⟨none, 0, 0, []⟩, 0⟩, ⟨⟨#[]⟩, ⟨#[]⟩, 0, 0, 0, 0, ⟨none, 0, 0, []⟩, ⟨none, 0, 0, []⟩, ⟨none, 0, 0, []⟩, 0⟩, ⟨⟨#[]⟩, 0, 0, ⟨none, 0, 0, []⟩, ⟨none, 0, 0, []⟩, 0, false⟩, ⟨0, 0, 0, 0, 0, ⟨none, 0, 0, []⟩, ⟨none, 0, 0, []⟩, 0⟩, ⟨⟨#[]⟩, 0, 0, ⟨none, 0, 0, []⟩, 0, ⟨0, 0, ⟨none, 0, 0, []⟩⟩, ⟨0, 0, ⟨none, 0, 0, []⟩⟩, ⟨none, 0, 0, []⟩⟩⟩⟩⟩
theorem rowOb_of {w : World} {c : List Value} (h : Rel (.slice shObj) w c) : ∃ ao la ca, ∃ l : List ObI, c = [.slice ao la ca] ∧ SlR (Flat ObI.cells) 47 w ao la ca l ∧ ∀ x ∈ l, ObAt w x := by
  obtain ⟨ao, la, ca, xs, e, hS⟩ := SlR.of_rel (R := fun w x c => Flat ObI.cells w x c ∧ ObAt w x) h (fun c hc => by
    obtain ⟨kd, nm, ver, o, rfl, h1, h2⟩ := obj_of_rel hc
    exact ⟨⟨kd, nm, ver, o⟩, rfl, h1, h2⟩)
  refine ⟨ao, la, ca, xs, e, ⟨hS.hlen, hS.hcap, hS.hmax, hS.hnil, fun a ha i hi => let ⟨c, h1, h2, h3⟩ := hS.hat a ha i hi; ⟨c, h1, h2, h3.1⟩⟩, fun x hx => ?_⟩
  obtain ⟨k, hk, rfl⟩ := List.getElem_of_mem hx
  cases ao with
  | none => have := hS.hnil rfl; have := hS.hcap; have := hS.hlen; omega
  | some a => obtain ⟨c, h1, h2, h3⟩ := hS.hat a rfl k hk; exact h3.2
end Go.Proofs.YtjncoloedakpoaaDoor
namespace Go.Proofs.YtjncoloedakpoaaDoor
open Go.ChangeShapes Go.WideShapes Go.ChangeAt Go.RowKit Go.Deep

def cfS (a b : ByteArray) : Int := if Op.bytesLess a.toList b.toList = true then -1 else if Op.bytesLess b.toList a.toList = true then 1 else 0

theorem less_irrefl (x : List UInt8) : Op.bytesLess x x = false := by
  rw [bytesLess_eq, decide_eq_false_iff_not]
  exact List.lt_irrefl x

theorem less_tri {x y : List UInt8} (h1 : Op.bytesLess x y = false) (h2 : Op.bytesLess y x = false) : x = y := by
  rw [bytesLess_eq, decide_eq_false_iff_not] at h1 h2
  exact List.le_antisymm (List.not_lt.1 h2) (List.not_lt.1 h1)

theorem isNaN_str (a : ByteArray) (w : World) :
    Calls Tryd.prog 57 #[.string a] w fun e w' => e = .returned (.bool false) ∧ w' = w := by
  go_enter Tryd.func57, Tryd.ntmps57
  go_wp2
  go_ret
  exact ⟨ret_bool (by simp), rfl⟩

theorem compare_str (a b : ByteArray) (w : World) :
    Calls Tryd.prog 64 #[.string a, .string b] w fun e w' => e = .returned (.int .i64 (cfS a b)) ∧ w' = w := by
  have hU : Hid (cfS a b = if Op.bytesLess a.toList b.toList = true then -1 else if Op.bytesLess b.toList a.toList = true then 1 else 0) := rfl
  have HN : Hid (∀ (x : ByteArray) (w1 : World), _) := fun x w1 => isNaN_str x w1
  cases h1 : Op.bytesLess a.toList b.toList
  · rw [h1] at hU
    cases h2 : Op.bytesLess b.toList a.toList
    · rw [h2] at hU
      have he := less_tri h1 h2
      have heb : (a.toList == b.toList) = true := by rw [beq_iff_eq]; exact he
      clear he
      go_enter Tryd.func64, Tryd.ntmps64
      go_wp2_with (go_at_call 57; refine (HN.out _ _).mono ?_; rintro e w' ⟨rfl, rfl⟩)
      go_ret
      exact ⟨by rw [hU.out] <;> rfl, rfl⟩
    · rw [h2] at hU
      have heb : (a.toList == b.toList) = false := by
        rw [beq_eq_false_iff_ne]
        intro he
        rw [he, less_irrefl] at h2
        cases h2
      go_enter Tryd.func64, Tryd.ntmps64
      go_wp2_with (go_at_call 57; refine (HN.out _ _).mono ?_; rintro e w' ⟨rfl, rfl⟩)
      go_ret
      exact ⟨by rw [hU.out] <;> rfl, rfl⟩
  · rw [h1] at hU
    go_enter Tryd.func64, Tryd.ntmps64
    go_wp2_with (go_at_call 57; refine (HN.out _ _).mono ?_; rintro e w' ⟨rfl, rfl⟩)
    go_ret
    exact ⟨by rw [hU.out] <;> rfl, rfl⟩

theorem isNaNI (x : Int) (w : World) : Calls Tryd.prog 69 #[.int .i64 x] w fun e w' => e = .returned (.bool false) ∧ w' = w := by
  go_enter Tryd.func69, Tryd.ntmps69
  go_wp2
  go_ret
  exact ⟨ret_bool (by simp), rfl⟩

def cfI (x y : Int) : Int := if x < y then -1 else if y < x then 1 else 0

theorem compareI (x y : Int) (w : World) : Calls Tryd.prog 61 #[.int .i64 x, .int .i64 y] w fun e w' => e = .returned (.int .i64 (cfI x y)) ∧ w' = w := by
  have HN : Hid (∀ (z : Int) (w1 : World), _) := fun z w1 => isNaNI z w1
  have hU : Hid (cfI x y = if x < y then -1 else if y < x then 1 else 0) := rfl
  by_cases h : x < y
  · rw [if_pos h] at hU
    go_enter Tryd.func61, Tryd.ntmps61
    go_wp2_with (go_at_call 69; refine (HN.out _ _).mono ?_; rintro e w' ⟨rfl, rfl⟩)
    go_ret
    exact ⟨by rw [hU.out] <;> rfl, rfl⟩
  · by_cases h2 : y < x
    · rw [if_neg h, if_pos h2] at hU
      go_enter Tryd.func61, Tryd.ntmps61
      go_wp2_with (go_at_call 69; refine (HN.out _ _).mono ?_; rintro e w' ⟨rfl, rfl⟩)
      go_ret
      exact ⟨by rw [hU.out] <;> rfl, rfl⟩
    · rw [if_neg h, if_neg h2] at hU
      go_enter Tryd.func61, Tryd.ntmps61
      go_wp2_with (go_at_call 69; refine (HN.out _ _).mono ?_; rintro e w' ⟨rfl, rfl⟩)
      go_ret
      exact ⟨by rw [hU.out] <;> rfl, rfl⟩

theorem isNaNL (x : Int) (w : World) : Calls Tryd.prog 71 #[.int .i64 x] w fun e w' => e = .returned (.bool false) ∧ w' = w := by
  go_enter Tryd.func71, Tryd.ntmps71
  go_wp2
  go_ret
  exact ⟨ret_bool (by simp), rfl⟩

theorem compareL (x y : Int) (w : World) : Calls Tryd.prog 63 #[.int .i64 x, .int .i64 y] w fun e w' => e = .returned (.int .i64 (cfI x y)) ∧ w' = w := by
  have HN : Hid (∀ (z : Int) (w1 : World), _) := fun z w1 => isNaNL z w1
  have hU : Hid (cfI x y = if x < y then -1 else if y < x then 1 else 0) := rfl
  by_cases h : x < y
  · rw [if_pos h] at hU
    go_enter Tryd.func63, Tryd.ntmps63
    go_wp2_with (go_at_call 71; refine (HN.out _ _).mono ?_; rintro e w' ⟨rfl, rfl⟩)
    go_ret
    exact ⟨by rw [hU.out] <;> rfl, rfl⟩
  · by_cases h2 : y < x
    · rw [if_neg h, if_pos h2] at hU
      go_enter Tryd.func63, Tryd.ntmps63
      go_wp2_with (go_at_call 71; refine (HN.out _ _).mono ?_; rintro e w' ⟨rfl, rfl⟩)
      go_ret
      exact ⟨by rw [hU.out] <;> rfl, rfl⟩
    · rw [if_neg h, if_neg h2] at hU
      go_enter Tryd.func63, Tryd.ntmps63
      go_wp2_with (go_at_call 71; refine (HN.out _ _).mono ?_; rintro e w' ⟨rfl, rfl⟩)
      go_ret
      exact ⟨by rw [hU.out] <;> rfl, rfl⟩

theorem or_three (a b c : Int) (k : Nat) (w : World) (h0 : w.cell? ⟨k, 0, none⟩ = some (.int .i64 a)) (h1 : w.cell? ⟨k, 1, none⟩ = some (.int .i64 b)) (h2 : w.cell? ⟨k, 2, none⟩ = some (.int .i64 c)) :
    Calls Tryd.prog 60 #[.slice (some ⟨k, 0, none⟩) 3 3] w fun e w' => e = .returned (.int .i64 (if a = 0 then if b = 0 then c else b else a)) ∧ w' = w := by
  obtain ⟨r, hr⟩ : ∃ r, (if a = 0 then if b = 0 then c else b else a) = r := ⟨_, rfl⟩
  rw [hr]
  have Hr := Lib.hid hr
  clear hr
  by_cases ha : a = 0
  · subst ha
    by_cases hb : b = 0
    · subst hb
      by_cases hc : c = 0
      · subst hc
        have e : r = 0 := by have := Hr.out; simpa using this.symm
        subst e
        go_enter Tryd.func60, Tryd.ntmps60
        go_wp2_with fail
        refine wp_loop_rounds 4 ?_
        rw [rounds_succ]
        go_wp2_with fail
        rw [rounds_succ]
        go_wp2_with fail
        rw [rounds_succ]
        go_wp2_with fail
        rw [rounds_succ]
        go_wp2_with fail
        go_ret
        exact ⟨rfl, rfl⟩
      · have e : r = c := by have := Hr.out; simpa using this.symm
        subst e
        have hc' : (r != 0) = true := bne_iff_ne.2 hc
        have hc2 : (r == 0) = false := beq_eq_false_iff_ne.2 hc
        go_enter Tryd.func60, Tryd.ntmps60
        go_wp2_with fail
        refine wp_loop_rounds 3 ?_
        rw [rounds_succ]
        go_wp2_with fail
        rw [rounds_succ]
        go_wp2_with fail
        rw [rounds_succ]
        go_wp2_with fail
        go_ret
        exact ⟨rfl, rfl⟩
    · have e : r = b := by have := Hr.out; rw [if_pos rfl, if_neg hb] at this; exact this.symm
      subst e
      have hc' : (r != 0) = true := bne_iff_ne.2 hb
      have hc2 : (r == 0) = false := beq_eq_false_iff_ne.2 hb
      go_enter Tryd.func60, Tryd.ntmps60
      go_wp2_with fail
      refine wp_loop_rounds 2 ?_
      rw [rounds_succ]
      go_wp2_with fail
      rw [rounds_succ]
      go_wp2_with fail
      go_ret
      exact ⟨rfl, rfl⟩
  · have e : r = a := by have := Hr.out; rw [if_neg ha] at this; exact this.symm
    subst e
    have hc' : (r != 0) = true := bne_iff_ne.2 ha
    have hc2 : (r == 0) = false := beq_eq_false_iff_ne.2 ha
    go_enter Tryd.func60, Tryd.ntmps60
    go_wp2_with fail
    refine wp_loop_rounds 1 ?_
    rw [rounds_succ]
    go_wp2_with fail
    go_ret
    exact ⟨rfl, rfl⟩

theorem index_pending (k : Nat) (w : World) (k0 : w.cell? ⟨k, 0, none⟩ = some (.int .i64 3)) (k1 : w.cell? ⟨k, 1, none⟩ = some (.int .i64 0)) (_k2 : w.cell? ⟨k, 2, none⟩ = some (.int .i64 1)) (_k3 : w.cell? ⟨k, 3, none⟩ = some (.int .i64 2)) :
    Calls Tryd.prog 70 #[.slice (some ⟨k, 0, none⟩) 4 4, .int .i64 0] w fun e w' => e = .returned (.int .i64 1) ∧ w' = w := by
  go_enter Tryd.func70, Tryd.ntmps70
  go_wp2_with fail
  refine wp_loop_rounds 2 ?_
  rw [rounds_succ]
  go_wp2_with fail
  rw [rounds_succ]
  go_wp2_with fail
  go_ret
  exact ⟨rfl, rfl⟩

theorem index_ready (k : Nat) (w : World) (k0 : w.cell? ⟨k, 0, none⟩ = some (.int .i64 3)) (k1 : w.cell? ⟨k, 1, none⟩ = some (.int .i64 0)) (k2 : w.cell? ⟨k, 2, none⟩ = some (.int .i64 1)) (k3 : w.cell? ⟨k, 3, none⟩ = some (.int .i64 2)) :
    Calls Tryd.prog 70 #[.slice (some ⟨k, 0, none⟩) 4 4, .int .i64 2] w fun e w' => e = .returned (.int .i64 3) ∧ w' = w := by
  go_enter Tryd.func70, Tryd.ntmps70
  go_wp2_with fail
  refine wp_loop_rounds 4 ?_
  rw [rounds_succ]
  go_wp2_with fail
  rw [rounds_succ]
  go_wp2_with fail
  rw [rounds_succ]
  go_wp2_with fail
  rw [rounds_succ]
  go_wp2_with fail
  go_ret
  exact ⟨rfl, rfl⟩

end Go.Proofs.YtjncoloedakpoaaDoor
