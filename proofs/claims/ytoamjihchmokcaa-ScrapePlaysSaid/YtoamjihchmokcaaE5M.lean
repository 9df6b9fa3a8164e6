/- The executor's operations on memory. No condition. || What the executor's operations come to: those on values, variables, structs, slices. No condition. -/
import Derived.Test.YtoamjihchmokcaaE3
import Derived.Laws.CopyRow
import Derived.Laws.Cells
import Derived.Laws.Tables
namespace Go.Proofs.Ytoamjihchmokcaa.E
open Go.ChangeShapes Go.WideShapes Go.ChangeAt Go.RowKit Go.Deep

def takeV : Nat → List V → Option (List V)
  | 0, _ => some []
  | _ + 1, [] => none
  | n + 1, v :: r => match takeV n r with
    | some l => some (v :: l)
    | none => none
def dropV : Nat → List V → List V
  | 0, l => l
  | _ + 1, [] => []
  | n + 1, _ :: r => dropV n r
def segV : Nat → List V → List V → Option (List V)
  | 0, [], l => some l
  | 0, _ :: _, [] => none
  | 0, x :: r, _ :: l => match segV 0 r l with
    | some m => some (x :: m)
    | none => none
  | _ + 1, _, [] => none
  | o + 1, r, y :: l => match segV o r l with
    | some m => some (y :: m)
    | none => none
theorem dropV_eq : ∀ (n : Nat) (l : List V), dropV n l = l.drop n
  | 0, _ => rfl
  | _ + 1, [] => rfl
  | n + 1, _ :: r => dropV_eq n r
theorem takeV_eq : ∀ {n : Nat} {l m : List V}, takeV n l = some m → m = l.take n ∧ m.length = n
  | 0, _, _, h => by cases h; simp
  | _ + 1, [], _, h => by cases h
  | n + 1, v :: r, m, h => by
    unfold takeV at h
    split at h
    · rename_i q hq
      cases h
      obtain ⟨e1, e2⟩ := takeV_eq hq
      exact ⟨by rw [List.take_succ_cons, ← e1], by simp [e2]⟩
    · cases h
theorem segV_eq : ∀ {o : Nat} {r l m : List V}, segV o r l = some m → m = l.take o ++ r ++ l.drop (o + r.length) ∧ o + r.length ≤ l.length
  | 0, [], l, m, h => by
    simp only [segV, Option.some.injEq] at h
    subst h
    simp
  | 0, _ :: _, [], _, h => by cases h
  | 0, x :: r, y :: l, m, h => by
    unfold segV at h
    split at h
    · rename_i q hq
      cases h
      obtain ⟨e1, e2⟩ := segV_eq hq
      refine ⟨?_, by simp at e2 ⊢; omega⟩
      rw [e1]
      simp
    · cases h
  | _ + 1, _, [], _, h => by simp [segV] at h
  | o + 1, r, y :: l, m, h => by
    unfold segV at h
    split at h
    · rename_i q hq
      cases h
      obtain ⟨e1, e2⟩ := segV_eq hq
      refine ⟨?_, by simp; omega⟩
      rw [e1, show o + 1 + r.length = (o + r.length) + 1 by omega]
      simp
    · cases h
theorem VRs.seg {ι : I} {o : Nat} {r l m : List V} {rs ls : List Value} (h : segV o r l = some m) (hr : VRs ι r rs) (hl : VRs ι l ls) : VRs ι m (ls.take o ++ rs ++ ls.drop (o + rs.length)) := by
  obtain ⟨e, _⟩ := segV_eq h
  rw [e, hr.length]
  exact ((hl.take o).append hr).append (hl.drop _)

def cellsV : V → Option (List V)
  | .undef => none
  | .tup _ => none
  | .agg l => some l
  | v => some [v]
theorem cellsV_sound {ι : I} {v : V} {l : List V} {x : Value} (h : cellsV v = some l) (hv : VR ι v x) : VRs ι l x.cells.toList := by
  cases v <;> simp only [cellsV, Option.some.injEq, reduceCtorEq] at h
  case agg m =>
    subst h
    simp only [VR] at hv
    obtain ⟨cs, h1, rfl⟩ := hv
    exact h1
  case atom k =>
    subst h
    refine VRs.cons_iff.2 ⟨x, [], hv, VRs.nil_iff.2 rfl, ?_⟩
    simp only [VR] at hv
    have h1 := hv.2
    clear hv
    cases x <;> first | rfl | cases h1
  all_goals
    subst h
    refine VRs.cons_iff.2 ⟨x, [], hv, VRs.nil_iff.2 rfl, ?_⟩
    simp only [VR] at hv
    first
      | (obtain ⟨_, _, _, rfl, _⟩ := hv; rfl)
      | (obtain ⟨_, _, rfl⟩ := hv; rfl)
      | (obtain ⟨_, rfl⟩ := hv; rfl)
      | (subst hv; rfl)
def oneV : V → Bool
  | .undef => false
  | .agg _ => false
  | .tup _ => false
  | _ => true
def onesV : List V → Bool
  | [] => true
  | v :: l => match oneV v with
    | true => onesV l
    | false => false
theorem oneV_sound {ι : I} (_ha : ∀ k, (ι.atom k).oneCell' = true) {v : V} {x : Value} (h : oneV v = true) (hv : VR ι v x) : x.oneCell' = true := by
  cases v <;> simp only [oneV, Bool.false_eq_true] at h
  case atom k => simp only [VR] at hv; exact hv.2
  all_goals
    simp only [VR] at hv
    first
      | (obtain ⟨_, _, _, rfl, _⟩ := hv; rfl)
      | (obtain ⟨_, _, rfl⟩ := hv; rfl)
      | (obtain ⟨_, rfl⟩ := hv; rfl)
      | (subst hv; rfl)
theorem onesV_sound {ι : I} (ha : ∀ k, (ι.atom k).oneCell' = true) : ∀ {l : List V} {xs : List Value}, onesV l = true → VRs ι l xs → ∀ x ∈ xs, x.oneCell' = true
  | [], xs, _, hl, x, hx => by rw [VRs.nil_iff.1 hl] at hx; cases hx
  | v :: l, xs, h, hl, x, hx => by
    obtain ⟨y, r, h1, h2, rfl⟩ := VRs.cons_iff.1 hl
    unfold onesV at h
    split at h
    · rename_i ho
      rcases List.mem_cons.1 hx with rfl | hx
      · exact oneV_sound ha ho h1
      · exact onesV_sound ha h h2 x hx
    · cases h

section
variable {P : Program} {K : Ker} {w0 w : World} {ι : I} {h : H}
theorem Rep.cells_at (r : Rep K w0 ι h w) {b c : Nat} (hb : ι.blk b = some c) {l : List V} {t : Nat} {g : Bool} (hd : h.t.get b = .cells l t g) : ∃ cs more : List Value, VRs ι l cs ∧ w.heap[c]? = some (.cells (cs ++ more).toArray t (0, 0)) ∧ (g = false → more = []) ∧ ¬ K c := by
  obtain ⟨o, hc, ho, hor⟩ := r.at_ hb (by rw [hd]; simp)
  rw [hd] at hor
  obtain ⟨cs, more, h1, rfl, h3⟩ := hor
  exact ⟨cs, more, h1, ho, h3, hc⟩
theorem cell_in {w : World} {c t : Nat} {cs : Array Value} (h : w.heap[c]? = some (.cells cs t (0, 0))) (j : Nat) : w.cell? ⟨c, j, none⟩ = cs[j]? := by
  simp [World.cell?, h]
def loadV (ti : TI) (l : List V) (o : Nat) : Option V :=
  match ti.d.odd with
  | true => none
  | false => match ti.d.agg with
    | true => match takeV ti.size (dropV o l) with
      | some m => some (.agg m)
      | none => none
    | false => match dropV o l with
      | v :: _ => some v
      | [] => none
theorem loadV_sound {t : TypeId} {ti : TI} (ht : tiOf P t = some ti) {l : List V} {o : Nat} {v : V} (h : loadV ti l o = some v) {c bt : Nat} {cs more : List Value} (hc : w.heap[c]? = some (.cells (cs ++ more).toArray bt (0, 0))) (hl : VRs ι l cs) :
    ∃ x, (Instr.loadAt t (.pointer (some ⟨c, o, none⟩))).run P w = .ok x w ∧ VR ι v x := by
  unfold loadV at h
  split at h
  · cases h
  · rename_i hodd
    have hag := run_isAgg (w := w) ht hodd
    have hcell : ∀ (j : Nat) (x : Value), cs[j]? = some x → w.cell? ⟨c, j, none⟩ = some x := fun j x hj => by
      rw [cell_in hc]
      have : j < cs.length := (List.getElem?_eq_some_iff.1 hj).1
      simp only [List.getElem?_toArray]
      rw [List.getElem?_append_left this]
      exact hj
    split at h
    · rename_i hagg
      split at h
      · rename_i m hm
        cases h
        obtain ⟨e1, e2⟩ := takeV_eq hm
        rw [dropV_eq] at e1
        have hv : VRs ι m ((cs.drop o).take ti.size) := by rw [e1]; exact (hl.drop o).take _
        have hlen := hv.length
        rw [e2] at hlen
        have hld := run_loadCells_list (P := P) (w := w) ⟨c, o, none⟩ ((cs.drop o).take ti.size) (fun j x hj => by
          rw [Addr.add_lit]
          refine hcell _ _ ?_
          have hj' : j < ti.size := by
            have := (List.getElem?_eq_some_iff.1 hj).1
            omega
          rw [List.getElem?_take, if_pos hj', List.getElem?_drop] at hj
          exact hj)
        rw [hlen] at hld
        refine ⟨.agg ((cs.drop o).take ti.size).toArray, ?_, ?_⟩
        · simp only [Instr.loadAt, Instr.sureAddr, Sem.run_bind, Sem.run_pure, Result.andThen_ok, loadVar, hag, hagg, if_true, run_size ht, hld]
        · simp only [VR]; exact ⟨_, hv, rfl⟩
      · cases h
    · rename_i hagg
      split at h
      · rename_i u r hu
        cases h
        rw [dropV_eq] at hu
        have hv := hl.drop o
        rw [hu] at hv
        obtain ⟨x, q, h1, h2, e⟩ := VRs.cons_iff.1 hv
        refine ⟨x, ?_, h1⟩
        have hx : cs[o]? = some x := by
          have : (cs.drop o)[0]? = some x := by rw [e]; rfl
          rw [List.getElem?_drop] at this
          simpa using this
        simp only [Instr.loadAt, Instr.sureAddr, Sem.run_bind, Sem.run_pure, Result.andThen_ok, loadVar, hag, hagg, Bool.false_eq_true, if_false, run_load, hcell o x hx]
      · cases h
theorem store_sound (r : Rep K w0 ι h w) (ha : ∀ k, (ι.atom k).oneCell' = true) {t : TypeId} {ti : TI} (ht : tiOf P t = some ti) {b c o : Nat} (hb : ι.blk b = some c) {l m vs : List V} {bt : Nat} {g : Bool} (hd : h.t.get b = .cells l bt g) {v : V} {x : Value} (hv : VR ι v x) (hvs : cellsV v = some vs) (hn : vs.length = ti.size) (h1 : onesV vs = true) (hs : segV o vs l = some m) :
    ∃ w', (Instr.storeAt t (.pointer (some ⟨c, o, none⟩)) x).run P w = .ok () w' ∧ Rep K w0 ι ⟨h.t.set b (.cells m bt g), h.n⟩ w' := by
  obtain ⟨cs, more, hl, hc, hg, _⟩ := r.cells_at hb hd
  have hx := cellsV_sound hvs hv
  have hlen := hx.length
  obtain ⟨_, hb2⟩ := segV_eq hs
  have hcl := hl.length
  have hst := run_storeCells_at (P := P) c o bt x.cells.toList 0 (cs ++ more).toArray w hc (by simp at hlen ⊢; omega) (onesV_sound ha h1 hx)
  have e : (cs ++ more).toArray.toList.take (o + 0) ++ x.cells.toList ++ (cs ++ more).toArray.toList.drop (o + 0 + x.cells.toList.length) = (cs.take o ++ x.cells.toList ++ cs.drop (o + x.cells.toList.length)) ++ more := by
    simp only [Nat.add_zero, List.append_assoc]
    rw [List.take_append_of_le_length (by omega), List.drop_append_of_le_length (by rw [hlen]; omega)]
  rw [e] at hst
  refine ⟨_, ?_, r.upd_row hb hd hc (VRs.seg hs hx hl) hg (by simp only [List.length_append, List.length_take, List.length_drop]; omega)⟩
  simp only [Instr.storeAt, Instr.sureAddr, Sem.run_bind, Sem.run_pure, Result.andThen_ok, storeVar, run_size ht]
  rw [if_neg (by simp at hlen ⊢; omega)]
  exact hst
end
end Go.Proofs.Ytoamjihchmokcaa.E
namespace Go.Proofs.Ytoamjihchmokcaa.E
open Go.ChangeShapes Go.WideShapes Go.ChangeAt Go.RowKit Go.Deep

inductive R where
  | val (v : V)
  | mem (v : V) (h : H)
  | done (h : H)
  | call (f : Nat) (args : List V)
  | round (l : Nat) (args : List V)
  | many (l : List (V × H))
noncomputable def H.add (h : H) (o : O) : H := ⟨h.t.set h.n o, Nat.succ h.n⟩
noncomputable def H.put (h : H) (b : Nat) (o : O) : H := ⟨h.t.set b o, h.n⟩
def room (h : H) : Bool := Nat.blt h.n 4096
noncomputable def newB (h : H) (o : O) (v : V) : Option R :=
  match room h with
  | true => some (.mem v (h.add o))
  | false => none

def bitI (f : Nat → Nat → Nat) (k : IntKind) (a b : Int) : Option V :=
  match a, b with
  | .ofNat a, .ofNat b => some (.int k (wrapF k (.ofNat (f (a % 2 ^ k.bits) (b % 2 ^ k.bits)))))
  | _, _ => none
def isSh : BinOp → Bool
  | .shl => true
  | .shr => true
  | _ => false
def shR (op : BinOp) (k : IntKind) (a n : Int) : Option V :=
  match a, n with
  | .ofNat a, .ofNat n => match Nat.ble n k.bits with
    | true => match op with
      | .shr => some (.int k (.ofNat (a / 2 ^ n)))
      | .shl => some (.int k (wrapF k (.ofNat (a * 2 ^ n))))
      | _ => none
    | false => none
  | _, _ => none
def binI (op : BinOp) (k : IntKind) (a b : Int) : Option V :=
  match op with
  | .and => bitI Nat.land k a b
  | .or => bitI Nat.lor k a b
  | .xor => bitI Nat.xor k a b
  | .lss => some (.bool (iLt a b))
  | .leq => some (.bool (!(iLt b a)))
  | .gtr => some (.bool (iLt b a))
  | .geq => some (.bool (!(iLt a b)))
  | .eql => some (.bool (iEq a b))
  | .neq => some (.bool (!(iEq a b)))
  | .add => some (.int k (wrapF k (a + b)))
  | .sub => some (.int k (wrapF k (a - b)))
  | .mul => some (.int k (wrapF k (a * b)))
  | .quo => match iEq b 0 with
    | true => none
    | false => some (.int k (wrapF k (a.tdiv b)))
  | .rem => match iEq b 0 with
    | true => none
    | false => some (.int k (a.tmod b))
  | _ => none
def binS (op : BinOp) (a b : List Nat) : Option V :=
  match op with
  | .eql => some (.bool (sEq a b))
  | .neq => some (.bool (!(sEq a b)))
  | .lss => some (.bool (sLt a b))
  | .leq => some (.bool (sLt a b || sEq a b))
  | .gtr => some (.bool (!(sLt a b || sEq a b)))
  | .geq => some (.bool (!(sLt a b)))
  | .add => match Nat.ble (a.length + b.length) 1000000 with
    | true => some (.str (a ++ b))
    | false => none
  | _ => none
def kEq : IntKind → IntKind → Bool
  | .i64, .i64 => true
  | .u64, .u64 => true
  | .u8, .u8 => true
  | .i32, .i32 => true
  | .u32, .u32 => true
  | .u16, .u16 => true
  | .i8, .i8 => true
  | .i16, .i16 => true
  | _, _ => false
theorem kEq_eq : ∀ {a b : IntKind}, kEq a b = true → a = b := by
  intro a b h
  cases a <;> cases b <;> first | rfl | cases h
def relB (op : BinOp) (b : Bool) : Option V :=
  match op with
  | .eql => some (.bool b)
  | .neq => some (.bool (!b))
  | _ => none
def binN (d : TD) (op : BinOp) (x y : V) : Option V :=
  match d, x, y with
  | .bool, .bool a, .bool b => relB op (match a with | true => b | false => !b)
  | .ptr _, .ptr _ _, .nilp => relB op false
  | .ptr _, .nilp, .nilp => relB op true
  | .ptr _, .nilp, .ptr _ _ => relB op false
  | .sl _, .sl _ _ _ _ _, .nilsl => relB op false
  | .sl _, .nilsl, .nilsl => relB op true
  | .map _ _, .map _, .nilmap => relB op false
  | .map _ _, .nilmap, .nilmap => relB op true
  | .fn, .fn _ _, .nilfn => relB op false
  | .fn, .yld _, .nilfn => relB op false
  | .fn, .nilfn, .nilfn => relB op true
  | _, _, _ => none
noncomputable def binR (T : Tb TI) (op : BinOp) (t : Nat) (x y : V) : Option V :=
  match x, y with
  | .int k a, .int j b => match isSh op with
    | true => shR op k a b
    | false => match kEq k j with
      | true => binI op k a b
      | false => none
  | .str a, .str b => binS op a b
  | x, y => match T.at_ t with
    | some ti => binN ti.d op x y
    | none => none

section
variable {P : Program} {ι : I} {w : World}
theorem bitI_out {f : Nat → Nat → Nat} {k : IntKind} {a b : Int} {v : V} (h : bitI f k a b = some v) : ∃ m n : Nat, a = (m : Int) ∧ b = (n : Int) ∧ v = .int k (wrapF k (.ofNat (f (m % 2 ^ k.bits) (n % 2 ^ k.bits)))) := by
  unfold bitI at h
  split at h
  · cases h; exact ⟨_, _, rfl, rfl, rfl⟩
  · cases h
theorem shR_sound {op : BinOp} {k j : IntKind} {a b : Int} {v : V} (h : shR op k a b = some v) (t : TypeId) (x y : Operand) : ∃ r, ((do eqGuard op t x y (.int k a) (.int j b); binOp op t (.int k a) (.int j b)) : Sem Value).run P w = .ok r w ∧ VR ι v r := by
  unfold shR at h
  split at h
  · rename_i m n
    split at h
    · rename_i hn
      have hn := Nat.le_of_ble_eq_true hn
      have h0 : (0 : Int) ≤ (n : Int) := Int.natCast_nonneg n
      have h1 : (n : Int) ≤ k.bits := by exact_mod_cast hn
      split at h
      · cases h
        refine ⟨.int k (((m / 2 ^ n : Nat)) : Int), ?_, by simp only [VR]; rfl⟩
        have e := shift_shr k j (m : Int) (n : Int) h0 h1
        simp only [Int.ofNat_eq_natCast]
        rw [binOp_shr, e]
        simp [eqGuard]
      · cases h
        refine ⟨.int k (k.wrap ((m : Int) * 2 ^ n)), ?_, ?_⟩
        · have e := shift_shl k j (m : Int) (n : Int) h0 h1
          simp only [Int.ofNat_eq_natCast]
          rw [binOp_shl, e]
          simp [eqGuard]
        · simp only [VR, wrapF_eq, Int.ofNat_eq_natCast]
          congr 2
      · cases h
    · cases h
  · cases h
theorem binI_sound {op : BinOp} {k : IntKind} {a b : Int} {v : V} (h : binI op k a b = some v) (t : TypeId) (x y : Operand) : ∃ r, ((do eqGuard op t x y (.int k a) (.int k b); binOp op t (.int k a) (.int k b)) : Sem Value).run P w = .ok r w ∧ VR ι v r := by
  cases op <;> simp only [binI, Option.some.injEq, reduceCtorEq] at h
  case quo =>
    split at h
    · cases h
    · rename_i h0
      cases h
      rw [iEq_eq, beq_eq_false_iff_ne] at h0
      exact ⟨.int k (k.wrap (a.tdiv b)), by simp [go_sem, h0, Op.intDiv], by simp only [VR]; rw [wrapF_eq]⟩
  case rem =>
    split at h
    · cases h
    · rename_i h0
      cases h
      rw [iEq_eq, beq_eq_false_iff_ne] at h0
      exact ⟨.int k (a.tmod b), by simp [go_sem, h0, Op.intDiv], by simp only [VR]⟩
  case and =>
    obtain ⟨m, n, rfl, rfl, rfl⟩ := bitI_out h
    exact ⟨_, by rw [binOp_and, intBits_and]; rfl, by simp only [VR, wrapF_eq, bits]; simp [Nat.land_eq]⟩
  case or =>
    obtain ⟨m, n, rfl, rfl, rfl⟩ := bitI_out h
    exact ⟨_, by rw [binOp_or, intBits_or]; rfl, by simp only [VR, wrapF_eq, bits]; simp⟩
  case xor =>
    obtain ⟨m, n, rfl, rfl, rfl⟩ := bitI_out h
    exact ⟨_, by rw [binOp_xor, intBits_xor]; rfl, by simp only [VR, wrapF_eq, bits]; simp⟩
  all_goals subst h
  case add => exact ⟨.int k (k.wrap (a + b)), by simp [eqGuard, binOp, Op.intArith], by simp only [VR, wrapF_eq]⟩
  case sub => exact ⟨.int k (k.wrap (a - b)), by simp [eqGuard, binOp, Op.intArith], by simp only [VR, wrapF_eq]⟩
  case mul => exact ⟨.int k (k.wrap (a * b)), by simp [eqGuard, binOp, Op.intArith], by simp only [VR, wrapF_eq]⟩
  case eql => exact ⟨.bool (a == b), by simp [eqGuard, binOp, Op.intCmp], by simp only [VR, iEq_eq]⟩
  case neq => exact ⟨.bool (a != b), by simp [eqGuard, binOp, Op.intCmp], by simp only [VR, iEq_eq]; rfl⟩
  case lss => exact ⟨.bool (decide (a < b)), by simp [eqGuard, binOp, Op.intCmp], by simp only [VR, iLt_eq]⟩
  case leq => exact ⟨.bool (decide (a ≤ b)), by simp [eqGuard, binOp, Op.intCmp], by simp only [VR, iLt_eq]; rw [Value.bool.injEq, Bool.eq_iff_iff]; simp⟩
  case gtr => exact ⟨.bool (decide (a > b)), by simp [eqGuard, binOp, Op.intCmp], by simp only [VR, iLt_eq, gt_iff_lt]⟩
  case geq => exact ⟨.bool (decide (a ≥ b)), by simp [eqGuard, binOp, Op.intCmp], by simp only [VR, iLt_eq]; rw [Value.bool.injEq, Bool.eq_iff_iff]; simp⟩
theorem binS_sound {op : BinOp} {a b : List Nat} (ha : Bytes a) (hb : Bytes b) {v : V} (h : binS op a b = some v) (t : TypeId) (x y : Operand) : ∃ r, ((do eqGuard op t x y (.string (strD a)) (.string (strD b)); binOp op t (.string (strD a)) (.string (strD b))) : Sem Value).run P w = .ok r w ∧ VR ι v r := by
  have e1 := sEq_eq ha hb
  have e2 := sLt_eq ha hb
  unfold binS at h
  split at h
  all_goals first | (cases h; done) | skip
  case h_7 =>
    split at h
    · rename_i hs
      cases h
      have hs := Nat.le_of_ble_eq_true hs
      refine ⟨.string (strD (a ++ b)), ?_, by simp only [VR]; exact ⟨ha.append hb, trivial⟩⟩
      have := run_string_add_sum (P := P) w (strD a) (strD b) (by rw [strD_size, strD_size]; omega)
      simp only [eqGuard, binOp]
      rw [← strD_append]
      simpa using this
    · cases h
  all_goals
    cases h
    refine ⟨_, by simp [eqGuard, binOp, Op.stringOp]; rfl, ?_⟩
    simp only [VR]
    simp [e1, e2]
theorem relB_sound {op : BinOp} {t : TypeId} {a b : Value} {c : Bool} {v : V} (h : relB op c = some v) (hg : ∀ x y, (eqGuard op t x y a b).run P w = .ok () w) (he : ∀ d, (Op.equalIn (d + 1) t a b).run P w = .ok c w) (h1 : binOp .eql t a b = (do pure (.bool (← Op.equal t a b)))) (h2 : binOp .neq t a b = (do pure (.bool (!(← Op.equal t a b))))) (x y : Operand) : ∃ r, ((do eqGuard op t x y a b; binOp op t a b) : Sem Value).run P w = .ok r w ∧ VR ι v r := by
  have he : (Op.equal t a b).run P w = .ok c w := he 9999
  cases op <;> simp only [relB, Option.some.injEq, reduceCtorEq] at h
  all_goals subst h
  · exact ⟨.bool c, by rw [Sem.run_bind, hg, h1]; simp [he], by simp only [VR]⟩
  · exact ⟨.bool (!c), by rw [Sem.run_bind, hg, h2]; simp [he], by simp only [VR]⟩
theorem binN_sound {t : TypeId} {ti : TI} (ht : tiOf P t = some ti) {op : BinOp} {a b v : V} (h : binN ti.d op a b = some v) {x y : Value} (hx : VR ι a x) (hy : VR ι b y) (p q : Operand) : ∃ r, ((do eqGuard op t p q x y; binOp op t x y) : Sem Value).run P w = .ok r w ∧ VR ι v r := by
  unfold binN at h
  split at h
  case h_12 => cases h
  all_goals simp only [VR] at hx hy
  case h_1 hd =>
    subst hx hy
    refine relB_sound h (fun _ _ => by cases op <;> simp [eqGuard]) (fun d => ?_) rfl rfl p q
    rename_i a b
    simp only [Op.equalIn, Sem.run_bind, run_underlying (under_bool ht hd), Result.andThen_ok, Sem.run_pure]
    congr 1
    cases a <;> cases b <;> rfl
  all_goals rename_i hd
  all_goals
    first
      | (obtain ⟨_, _, _, rfl, _⟩ := hx)
      | (obtain ⟨_, _, rfl⟩ := hx)
      | (obtain ⟨_, rfl⟩ := hx)
      | (subst hx)
      | skip
  all_goals
    first
      | (obtain ⟨_, _, _, rfl, _⟩ := hy)
      | (obtain ⟨_, _, rfl⟩ := hy)
      | (obtain ⟨_, rfl⟩ := hy)
      | (subst hy)
      | skip
  all_goals
    refine relB_sound h (fun _ _ => by cases op <;> simp [eqGuard]) (fun d => ?_) rfl rfl p q
    first
      | simp only [Op.equalIn, Sem.run_bind, run_underlying (under_ptr ht hd), Result.andThen_ok, Sem.run_pure, Option.isNone]
      | simp only [Op.equalIn, Sem.run_bind, run_underlying (under_sl ht hd), Result.andThen_ok, Sem.run_pure, Option.isNone]
      | simp only [Op.equalIn, Sem.run_bind, run_underlying (under_map ht hd), Result.andThen_ok, Sem.run_pure, Option.isNone]
      | (obtain ⟨_, _, _, hu⟩ := under_fn ht hd; simp only [Op.equalIn, Sem.run_bind, run_underlying hu, Result.andThen_ok, Sem.run_pure])
end
end Go.Proofs.Ytoamjihchmokcaa.E
