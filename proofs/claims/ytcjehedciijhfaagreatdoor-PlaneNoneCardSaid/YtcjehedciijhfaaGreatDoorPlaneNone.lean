/- A world begins just if its parts may; one that isn't there does nothing: for every step. Condition: none but the row's own (tables of the library). -/
import Derived.Test.YtcjehedciijhfaaGreatDoorNameM
import Derived.Test.YtcjehedciijhfaaGreatDoorFewIs
import Derived.Test.YtcjehedciijhfaaGreatDoorObjC
import Derived.Test.YtcjehedciijhfaaGreatDoorPlaneNoneLift
namespace Go.Proofs.YtcjehedciijhfaaGreatDoor.E
open Go.ChangeShapes Go.WideShapes Go.ChangeAt Go.RowKit Go.Deep

/-- Atoms in a row. -/
def atomsL : Nat → Nat → List V
  | _, 0 => []
  | n, m + 1 => .atom n :: atomsL (n + 1) m
def oneB (l : List Value) : Bool := l.all fun v => v.oneCell'
theorem atomsL_in {κ : I} {at_ : Nat → Value} (hk : κ.atom = at_) (h1 : ∀ k, (at_ k).oneCell' = true) : ∀ (m n : Nat), VRs κ (atomsL n m) ((List.range' n m).map at_)
  | 0, _ => VRs.nil_iff.2 rfl
  | m + 1, n => VRs.cons_iff.2 ⟨at_ n, _, by simp only [VR]; exact ⟨by rw [hk], h1 n⟩, atomsL_in hk h1 m (n + 1), rfl⟩
theorem atomsL_out {κ : I} {at_ : Nat → Value} (hk : κ.atom = at_) : ∀ {m n : Nat} {cs : List Value}, VRs κ (atomsL n m) cs → cs = (List.range' n m).map at_
  | 0, _, _, h => VRs.nil_iff.1 h
  | m + 1, n, _, h => by
    obtain ⟨x, r, h1, h2, rfl⟩ := VRs.cons_iff.1 h
    simp only [VR] at h1
    rw [atomsL_out hk h2, h1.1, hk]
    rfl
theorem lives29_says : says drK Tryz.prog 100000 24 nG noA noL noI noN noS cpX tabs [] true = true := by kernel_rfl
def plLen : List (Nat × V) := [(2, .atom 57), (3, .atom 58), (6, .atom 59)]
def plCon (b : Bool) (f : Nat) (args : List V) : Option V :=
  match Nat.beq f 66 with
  | true => match args with
    | [v] => match beqV v (.agg (atomsL 5 47)) with
      | true => some (.bool b)
      | false => none
    | _ => none
  | false => none
def plF (n m o : Bool) : List Fact := [⟨.gtr, .atom 57, .int .i64 60, .bool n⟩, ⟨.gtr, .atom 58, .int .i64 60, .bool m⟩, ⟨.gtr, .atom 59, .int .i64 60, .bool o⟩]
noncomputable def plSays (b n m o : Bool) : Bool := says drK Tryz.prog 100000 5 nG (factA (plF n m o)) (factL plLen []) noI (plCon b) (oneS 24) cpX tabs [.agg (atomsL 0 57)] true
theorem plSays_all : ∀ b n m o, plSays b n m o = true := by
  intro b n m o
  cases b <;> cases n <;> cases m <;> cases o <;> kernel_rfl
/-! ### The walk -/
theorem one_getD {l : List Value} (h : oneB l = true) (k : Nat) : (l.getD k (.bool true)).oneCell' = true := by
  rw [List.getD_eq_getElem?_getD]
  cases e : l[k]? with
  | none => rfl
  | some v => exact List.all_eq_true.1 h v (List.mem_of_getElem? e)
set_option maxRecDepth 100000 in
set_option maxHeartbeats 1000000 in
theorem planeNone_core (sk sn : Int) (nam met : ByteArray) (bits : Int) (kd : Int) (nm : ByteArray) (ver : Int) (o : ShapesV) (delay quota : Int) (refuse : Bool) (back wr : Int) (w : World) (hL : Laid w nG tabs) :
    Calls Tryz.prog 5 #[.agg #[.int .i64 sk, .int .i64 sn, .string nam, .string met, .int .u64 bits, .int .i64 kd, .string nm, .int .u64 ver, .int .i64 o.w.rep, .int .i64 o.w.cpu, .int .i64 o.w.mem, .slice o.w.L.ao o.w.L.la o.w.L.ca, .slice o.w.S.ao o.w.S.la o.w.S.ca, .slice o.w.T.ao o.w.T.la o.w.T.ca, .int .i64 o.w.warm, .string o.p.owner, .string o.p.node, .int .i64 o.p.phase, .int .i64 o.p.since, .int .i64 o.p.cpu, .int .i64 o.p.mem, .slice o.p.L.ao o.p.L.la o.p.L.ca, .slice o.p.S.ao o.p.S.la o.p.S.ca, .slice o.p.T.ao o.p.T.la o.p.T.ca, .int .i64 o.p.warm, .string o.n.group, .int .i64 o.n.cpu, .int .i64 o.n.mem, .slice o.n.L.ao o.n.L.la o.n.L.ca, .slice o.n.T.ao o.n.T.la o.n.T.ca, .int .i64 o.n.since, .bool o.n.closed, .int .i64 o.g.min, .int .i64 o.g.max, .int .i64 o.g.target, .int .i64 o.g.cpu, .int .i64 o.g.mem, .slice o.g.L.ao o.g.L.la o.g.L.ca, .slice o.g.T.ao o.g.T.la o.g.T.ca, .int .i64 o.g.prio, .string o.h.target, .int .i64 o.h.min, .int .i64 o.h.max, .slice o.h.M.ao o.h.M.la o.h.M.ca, .int .i64 o.h.tol, .int .i64 o.h.up.win, .int .i64 o.h.up.pick, .slice o.h.up.P.ao o.h.up.P.la o.h.up.P.ca, .int .i64 o.h.down.win, .int .i64 o.h.down.pick, .slice o.h.down.P.ao o.h.down.P.la o.h.down.P.ca, .slice o.h.past.ao o.h.past.la o.h.past.ca, .int .i64 delay, .int .i64 quota, .bool refuse, .int .i64 back, .int .i64 wr]] w fun e w' => e = .returned (.bool true) ∧ Below w.heap.size w w' := by
  obtain ⟨at_, hat⟩ : ∃ at_ : Nat → Value, at_ = fun k => [.int .i64 sk, .int .i64 sn, .string nam, .string met, .int .u64 bits, .int .i64 kd, .string nm, .int .u64 ver, .int .i64 o.w.rep, .int .i64 o.w.cpu, .int .i64 o.w.mem, .slice o.w.L.ao o.w.L.la o.w.L.ca, .slice o.w.S.ao o.w.S.la o.w.S.ca, .slice o.w.T.ao o.w.T.la o.w.T.ca, .int .i64 o.w.warm, .string o.p.owner, .string o.p.node, .int .i64 o.p.phase, .int .i64 o.p.since, .int .i64 o.p.cpu, .int .i64 o.p.mem, .slice o.p.L.ao o.p.L.la o.p.L.ca, .slice o.p.S.ao o.p.S.la o.p.S.ca, .slice o.p.T.ao o.p.T.la o.p.T.ca, .int .i64 o.p.warm, .string o.n.group, .int .i64 o.n.cpu, .int .i64 o.n.mem, .slice o.n.L.ao o.n.L.la o.n.L.ca, .slice o.n.T.ao o.n.T.la o.n.T.ca, .int .i64 o.n.since, .bool o.n.closed, .int .i64 o.g.min, .int .i64 o.g.max, .int .i64 o.g.target, .int .i64 o.g.cpu, .int .i64 o.g.mem, .slice o.g.L.ao o.g.L.la o.g.L.ca, .slice o.g.T.ao o.g.T.la o.g.T.ca, .int .i64 o.g.prio, .string o.h.target, .int .i64 o.h.min, .int .i64 o.h.max, .slice o.h.M.ao o.h.M.la o.h.M.ca, .int .i64 o.h.tol, .int .i64 o.h.up.win, .int .i64 o.h.up.pick, .slice o.h.up.P.ao o.h.up.P.la o.h.up.P.ca, .int .i64 o.h.down.win, .int .i64 o.h.down.pick, .slice o.h.down.P.ao o.h.down.P.la o.h.down.P.ca, .slice o.h.past.ao o.h.past.la o.h.past.ca, .int .i64 delay, .int .i64 quota, .bool refuse, .int .i64 back, .int .i64 wr, .int .i64 (nam.size : Int), .int .i64 (met.size : Int), .int .i64 (nm.size : Int)].getD k (.bool true) := ⟨_, rfl⟩
  have h1 : ∀ k, (at_ k).oneCell' = true := fun k => by rw [hat]; exact one_getD rfl k
  have e0 : (List.range' 0 57).map at_ = [.int .i64 sk, .int .i64 sn, .string nam, .string met, .int .u64 bits, .int .i64 kd, .string nm, .int .u64 ver, .int .i64 o.w.rep, .int .i64 o.w.cpu, .int .i64 o.w.mem, .slice o.w.L.ao o.w.L.la o.w.L.ca, .slice o.w.S.ao o.w.S.la o.w.S.ca, .slice o.w.T.ao o.w.T.la o.w.T.ca, .int .i64 o.w.warm, .string o.p.owner, .string o.p.node, .int .i64 o.p.phase, .int .i64 o.p.since, .int .i64 o.p.cpu, .int .i64 o.p.mem, .slice o.p.L.ao o.p.L.la o.p.L.ca, .slice o.p.S.ao o.p.S.la o.p.S.ca, .slice o.p.T.ao o.p.T.la o.p.T.ca, .int .i64 o.p.warm, .string o.n.group, .int .i64 o.n.cpu, .int .i64 o.n.mem, .slice o.n.L.ao o.n.L.la o.n.L.ca, .slice o.n.T.ao o.n.T.la o.n.T.ca, .int .i64 o.n.since, .bool o.n.closed, .int .i64 o.g.min, .int .i64 o.g.max, .int .i64 o.g.target, .int .i64 o.g.cpu, .int .i64 o.g.mem, .slice o.g.L.ao o.g.L.la o.g.L.ca, .slice o.g.T.ao o.g.T.la o.g.T.ca, .int .i64 o.g.prio, .string o.h.target, .int .i64 o.h.min, .int .i64 o.h.max, .slice o.h.M.ao o.h.M.la o.h.M.ca, .int .i64 o.h.tol, .int .i64 o.h.up.win, .int .i64 o.h.up.pick, .slice o.h.up.P.ao o.h.up.P.la o.h.up.P.ca, .int .i64 o.h.down.win, .int .i64 o.h.down.pick, .slice o.h.down.P.ao o.h.down.P.la o.h.down.P.ca, .slice o.h.past.ao o.h.past.la o.h.past.ca, .int .i64 delay, .int .i64 quota, .bool refuse, .int .i64 back, .int .i64 wr] := by rw [hat]; rfl
  have e5 : (List.range' 5 47).map at_ = [.int .i64 kd, .string nm, .int .u64 ver, .int .i64 o.w.rep, .int .i64 o.w.cpu, .int .i64 o.w.mem, .slice o.w.L.ao o.w.L.la o.w.L.ca, .slice o.w.S.ao o.w.S.la o.w.S.ca, .slice o.w.T.ao o.w.T.la o.w.T.ca, .int .i64 o.w.warm, .string o.p.owner, .string o.p.node, .int .i64 o.p.phase, .int .i64 o.p.since, .int .i64 o.p.cpu, .int .i64 o.p.mem, .slice o.p.L.ao o.p.L.la o.p.L.ca, .slice o.p.S.ao o.p.S.la o.p.S.ca, .slice o.p.T.ao o.p.T.la o.p.T.ca, .int .i64 o.p.warm, .string o.n.group, .int .i64 o.n.cpu, .int .i64 o.n.mem, .slice o.n.L.ao o.n.L.la o.n.L.ca, .slice o.n.T.ao o.n.T.la o.n.T.ca, .int .i64 o.n.since, .bool o.n.closed, .int .i64 o.g.min, .int .i64 o.g.max, .int .i64 o.g.target, .int .i64 o.g.cpu, .int .i64 o.g.mem, .slice o.g.L.ao o.g.L.la o.g.L.ca, .slice o.g.T.ao o.g.T.la o.g.T.ca, .int .i64 o.g.prio, .string o.h.target, .int .i64 o.h.min, .int .i64 o.h.max, .slice o.h.M.ao o.h.M.la o.h.M.ca, .int .i64 o.h.tol, .int .i64 o.h.up.win, .int .i64 o.h.up.pick, .slice o.h.up.P.ao o.h.up.P.la o.h.up.P.ca, .int .i64 o.h.down.win, .int .i64 o.h.down.pick, .slice o.h.down.P.ao o.h.down.P.la o.h.down.P.ca, .slice o.h.past.ao o.h.past.la o.h.past.ca] := by rw [hat]; rfl
  have n2 : at_ 2 = .string nam := by rw [hat]; rfl
  have n3 : at_ 3 = .string met := by rw [hat]; rfl
  have n6 : at_ 6 = .string nm := by rw [hat]; rfl
  have i57 : asInt at_ (.atom 57) = some (.i64, (nam.size : Int)) := by rw [hat]; rfl
  have i58 : asInt at_ (.atom 58) = some (.i64, (met.size : Int)) := by rw [hat]; rfl
  have i59 : asInt at_ (.atom 59) = some (.i64, (nm.size : Int)) := by rw [hat]; rfl
  clear hat
  have hx : VRs (I0 nG at_) [.agg (atomsL 0 57)] [.agg #[.int .i64 sk, .int .i64 sn, .string nam, .string met, .int .u64 bits, .int .i64 kd, .string nm, .int .u64 ver, .int .i64 o.w.rep, .int .i64 o.w.cpu, .int .i64 o.w.mem, .slice o.w.L.ao o.w.L.la o.w.L.ca, .slice o.w.S.ao o.w.S.la o.w.S.ca, .slice o.w.T.ao o.w.T.la o.w.T.ca, .int .i64 o.w.warm, .string o.p.owner, .string o.p.node, .int .i64 o.p.phase, .int .i64 o.p.since, .int .i64 o.p.cpu, .int .i64 o.p.mem, .slice o.p.L.ao o.p.L.la o.p.L.ca, .slice o.p.S.ao o.p.S.la o.p.S.ca, .slice o.p.T.ao o.p.T.la o.p.T.ca, .int .i64 o.p.warm, .string o.n.group, .int .i64 o.n.cpu, .int .i64 o.n.mem, .slice o.n.L.ao o.n.L.la o.n.L.ca, .slice o.n.T.ao o.n.T.la o.n.T.ca, .int .i64 o.n.since, .bool o.n.closed, .int .i64 o.g.min, .int .i64 o.g.max, .int .i64 o.g.target, .int .i64 o.g.cpu, .int .i64 o.g.mem, .slice o.g.L.ao o.g.L.la o.g.L.ca, .slice o.g.T.ao o.g.T.la o.g.T.ca, .int .i64 o.g.prio, .string o.h.target, .int .i64 o.h.min, .int .i64 o.h.max, .slice o.h.M.ao o.h.M.la o.h.M.ca, .int .i64 o.h.tol, .int .i64 o.h.up.win, .int .i64 o.h.up.pick, .slice o.h.up.P.ao o.h.up.P.la o.h.up.P.ca, .int .i64 o.h.down.win, .int .i64 o.h.down.pick, .slice o.h.down.P.ao o.h.down.P.la o.h.down.P.ca, .slice o.h.past.ao o.h.past.la o.h.past.ca, .int .i64 delay, .int .i64 quota, .bool refuse, .int .i64 back, .int .i64 wr]] := by
    refine VRs.cons_iff.2 ⟨_, _, ?_, VRs.nil_iff.2 rfl, rfl⟩
    have this : VRs (I0 nG at_) (atomsL 0 57) ((List.range' 0 57).map at_) := atomsL_in rfl h1 57 0
    rw [e0] at this
    simp only [VR]
    exact ⟨_, this, rfl⟩
  have c : ∀ n : Int, asInt at_ (.int .i64 n) = some (.i64, n) := fun _ => rfl
  refine says_sound (plSays_all (fewB o) (decide ((60 : Int) < nam.size)) (decide ((60 : Int) < met.size)) (decide ((60 : Int) < nm.size))) (okS _ _ _ _ (oneS_ok (lives_of lives29_says))) rfl rfl hL at_
    (atoms_facts (ls := plLen) (ms := []) h1 ?_ ?_ (fun _ h => by cases h) ?_) hx
  · intro f hf
    simp only [plF, List.mem_cons, List.not_mem_nil, or_false] at hf
    rcases hf with rfl | rfl | rfl
    · exact fact_gtr i57 (c _) rfl
    · exact fact_gtr i58 (c _) rfl
    · exact fact_gtr i59 (c _) rfl
  · intro p hp
    simp only [plLen, List.mem_cons, List.not_mem_nil, or_false] at hp
    rcases hp with rfl | rfl | rfl
    · exact ⟨nam, n2, i57⟩
    · exact ⟨met, n3, i58⟩
    · exact ⟨nm, n6, i59⟩
  · intro f args v hv κ w' hk _ xs hxs
    unfold plCon at hv
    split at hv
    rotate_left
    · cases hv
    rename_i hf
    have hf := Nat.eq_of_beq_eq_true hf
    subst hf
    split at hv
    rotate_left
    · cases hv
    rename_i u
    split at hv
    rotate_left
    · cases hv
    rename_i hb
    cases hv
    have hb := beqV_eq hb
    subst hb
    obtain ⟨x, r, q1, q2, rfl⟩ := VRs.cons_iff.1 hxs
    have := VRs.nil_iff.1 q2
    subst this
    simp only [VR] at q1
    obtain ⟨cs, q3, rfl⟩ := q1
    rw [atomsL_out hk q3, e5]
    refine (few_is kd nm ver o w').mono fun e w'' ⟨g1, g2⟩ => ⟨_, g1, by simp only [VR], g2⟩
theorem planeNone_walk : lPlaneNone.Walk := by
  intro c0 w h0 hL
  obtain ⟨sk, sn, nam, met, bits, kd, nm, ver, o, delay, quota, refuse, back, wr, e⟩ := step_cells (c := c0.toList) h0
  obtain ⟨l⟩ := c0
  have e : l = _ := e
  subst e
  exact planeNone_core sk sn nam met bits kd nm ver o delay quota refuse back wr w hL
end Go.Proofs.YtcjehedciijhfaaGreatDoor.E
namespace Go.Proofs.YtcjehedciijhfaaGreatDoor
open Go
theorem PlaneNone_row : Rows.PlaneNoneSaid := lPlaneNone.over E.planeNone_walk
end Go.Proofs.YtcjehedciijhfaaGreatDoor
