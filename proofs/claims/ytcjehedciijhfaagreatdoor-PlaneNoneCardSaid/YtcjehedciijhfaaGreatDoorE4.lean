/- The executor's operations on memory. No condition. -/
import Derived.Test.YtcjehedciijhfaaGreatDoorE3
import Derived.Laws.CopyRow
import Derived.Laws.Cells
import Derived.Laws.Tables
namespace Go.Proofs.YtcjehedciijhfaaGreatDoor.E
open Go.ChangeShapes Go.WideShapes Go.ChangeAt Go.RowKit Go.Deep

/-! ### Rows of values -/
def takeV : Nat → List V → Option (List V)
  | 0, _ => some []
  | _ + 1, [] => none
  | n + 1, v :: r => match takeV n r with
    | some l => some (v :: l)
    | none => none
def dropV : Nat → List V → List V
  | 0, l => l
  | _ + 1, [] => []
  | n + 1, _ :: r => dropV n r
/-- The row with these values from place o on. -/
def segV : Nat → List V → List V → Option (List V)
  | 0, [], l => some l
  | 0, _ :: _, [] => none
  | 0, x :: r, _ :: l => match segV 0 r l with
    | some m => some (x :: m)
    | none => none
  | _ + 1, _, [] => none
  | o + 1, r, y :: l => match segV o r l with
    | some m => some (y :: m)
    | none => none
theorem dropV_eq : ∀ (n : Nat) (l : List V), dropV n l = l.drop n
  | 0, _ => rfl
  | _ + 1, [] => rfl
  | n + 1, _ :: r => dropV_eq n r
theorem takeV_eq : ∀ {n : Nat} {l m : List V}, takeV n l = some m → m = l.take n ∧ m.length = n
  | 0, _, _, h => by cases h; simp
  | _ + 1, [], _, h => by cases h
  | n + 1, v :: r, m, h => by
    unfold takeV at h
    split at h
    · rename_i q hq
      cases h
      obtain ⟨e1, e2⟩ := takeV_eq hq
      exact ⟨by rw [List.take_succ_cons, ← e1], by simp [e2]⟩
    · cases h
theorem segV_eq : ∀ {o : Nat} {r l m : List V}, segV o r l = some m → m = l.take o ++ r ++ l.drop (o + r.length) ∧ o + r.length ≤ l.length
  | 0, [], l, m, h => by
    simp only [segV, Option.some.injEq] at h
    subst h
    simp
  | 0, _ :: _, [], _, h => by cases h
  | 0, x :: r, y :: l, m, h => by
    unfold segV at h
    split at h
    · rename_i q hq
      cases h
      obtain ⟨e1, e2⟩ := segV_eq hq
      refine ⟨?_, by simp at e2 ⊢; omega⟩
      rw [e1]
      simp
    · cases h
  | _ + 1, _, [], _, h => by simp [segV] at h
  | o + 1, r, y :: l, m, h => by
    unfold segV at h
    split at h
    · rename_i q hq
      cases h
      obtain ⟨e1, e2⟩ := segV_eq hq
      refine ⟨?_, by simp; omega⟩
      rw [e1, show o + 1 + r.length = (o + r.length) + 1 by omega]
      simp
    · cases h
theorem VRs.seg {ι : I} {o : Nat} {r l m : List V} {rs ls : List Value} (h : segV o r l = some m) (hr : VRs ι r rs) (hl : VRs ι l ls) : VRs ι m (ls.take o ++ rs ++ ls.drop (o + rs.length)) := by
  obtain ⟨e, _⟩ := segV_eq h
  rw [e, hr.length]
  exact ((hl.take o).append hr).append (hl.drop _)

/-- A value's cells. -/
def cellsV : V → Option (List V)
  | .undef => none
  | .tup _ => none
  | .agg l => some l
  | v => some [v]
theorem cellsV_sound {ι : I} {v : V} {l : List V} {x : Value} (h : cellsV v = some l) (hv : VR ι v x) : VRs ι l x.cells.toList := by
  cases v <;> simp only [cellsV, Option.some.injEq, reduceCtorEq] at h
  case agg m =>
    subst h
    simp only [VR] at hv
    obtain ⟨cs, h1, rfl⟩ := hv
    exact h1
  case atom k =>
    subst h
    refine VRs.cons_iff.2 ⟨x, [], hv, VRs.nil_iff.2 rfl, ?_⟩
    simp only [VR] at hv
    have h1 := hv.2
    clear hv
    cases x <;> first | rfl | cases h1
  all_goals
    subst h
    refine VRs.cons_iff.2 ⟨x, [], hv, VRs.nil_iff.2 rfl, ?_⟩
    simp only [VR] at hv
    first
      | (obtain ⟨_, _, _, rfl, _⟩ := hv; rfl)
      | (obtain ⟨_, _, rfl⟩ := hv; rfl)
      | (obtain ⟨_, rfl⟩ := hv; rfl)
      | (subst hv; rfl)
/-- One cell's value. -/
def oneV : V → Bool
  | .undef => false
  | .agg _ => false
  | .tup _ => false
  | _ => true
def onesV : List V → Bool
  | [] => true
  | v :: l => match oneV v with
    | true => onesV l
    | false => false
theorem oneV_sound {ι : I} (_ha : ∀ k, (ι.atom k).oneCell' = true) {v : V} {x : Value} (h : oneV v = true) (hv : VR ι v x) : x.oneCell' = true := by
  cases v <;> simp only [oneV, Bool.false_eq_true] at h
  case atom k => simp only [VR] at hv; exact hv.2
  all_goals
    simp only [VR] at hv
    first
      | (obtain ⟨_, _, _, rfl, _⟩ := hv; rfl)
      | (obtain ⟨_, _, rfl⟩ := hv; rfl)
      | (obtain ⟨_, rfl⟩ := hv; rfl)
      | (subst hv; rfl)
theorem onesV_sound {ι : I} (ha : ∀ k, (ι.atom k).oneCell' = true) : ∀ {l : List V} {xs : List Value}, onesV l = true → VRs ι l xs → ∀ x ∈ xs, x.oneCell' = true
  | [], xs, _, hl, x, hx => by rw [VRs.nil_iff.1 hl] at hx; cases hx
  | v :: l, xs, h, hl, x, hx => by
    obtain ⟨y, r, h1, h2, rfl⟩ := VRs.cons_iff.1 hl
    unfold onesV at h
    split at h
    · rename_i ho
      rcases List.mem_cons.1 hx with rfl | hx
      · exact oneV_sound ha ho h1
      · exact onesV_sound ha h h2 x hx
    · cases h

/-! ### Blocks -/
noncomputable def cellsAt (h : H) (b : Nat) : Option (List V × Nat × Bool) :=
  match h.t.get b with
  | .cells l t g => some (l, t, g)
  | _ => none
section
variable {P : Program} {K : Ker} {w0 w : World} {ι : I} {h : H}
theorem Rep.cells_at (r : Rep K w0 ι h w) {b c : Nat} (hb : ι.blk b = some c) {l : List V} {t : Nat} {g : Bool} (hd : h.t.get b = .cells l t g) : ∃ cs more : List Value, VRs ι l cs ∧ w.heap[c]? = some (.cells (cs ++ more).toArray t (0, 0)) ∧ (g = false → more = []) ∧ ¬ K c := by
  obtain ⟨o, hc, ho, hor⟩ := r.at_ hb (by rw [hd]; simp)
  rw [hd] at hor
  obtain ⟨cs, more, h1, rfl, h3⟩ := hor
  exact ⟨cs, more, h1, ho, h3, hc⟩
theorem cell_in {w : World} {c t : Nat} {cs : Array Value} (h : w.heap[c]? = some (.cells cs t (0, 0))) (j : Nat) : w.cell? ⟨c, j, none⟩ = cs[j]? := by
  simp [World.cell?, h]
/-- A load. -/
def loadV (ti : TI) (l : List V) (o : Nat) : Option V :=
  match ti.d.odd with
  | true => none
  | false => match ti.d.agg with
    | true => match takeV ti.size (dropV o l) with
      | some m => some (.agg m)
      | none => none
    | false => match dropV o l with
      | v :: _ => some v
      | [] => none
theorem loadV_sound {t : TypeId} {ti : TI} (ht : tiOf P t = some ti) {l : List V} {o : Nat} {v : V} (h : loadV ti l o = some v) {c bt : Nat} {cs more : List Value} (hc : w.heap[c]? = some (.cells (cs ++ more).toArray bt (0, 0))) (hl : VRs ι l cs) :
    ∃ x, (Instr.loadAt t (.pointer (some ⟨c, o, none⟩))).run P w = .ok x w ∧ VR ι v x := by
  unfold loadV at h
  split at h
  · cases h
  · rename_i hodd
    have hag := run_isAgg (w := w) ht hodd
    have hcell : ∀ (j : Nat) (x : Value), cs[j]? = some x → w.cell? ⟨c, j, none⟩ = some x := fun j x hj => by
      rw [cell_in hc]
      have : j < cs.length := (List.getElem?_eq_some_iff.1 hj).1
      simp only [List.getElem?_toArray]
      rw [List.getElem?_append_left this]
      exact hj
    split at h
    · rename_i hagg
      split at h
      · rename_i m hm
        cases h
        obtain ⟨e1, e2⟩ := takeV_eq hm
        rw [dropV_eq] at e1
        have hv : VRs ι m ((cs.drop o).take ti.size) := by rw [e1]; exact (hl.drop o).take _
        have hlen := hv.length
        rw [e2] at hlen
        have hld := run_loadCells_list (P := P) (w := w) ⟨c, o, none⟩ ((cs.drop o).take ti.size) (fun j x hj => by
          rw [Addr.add_lit]
          refine hcell _ _ ?_
          have hj' : j < ti.size := by
            have := (List.getElem?_eq_some_iff.1 hj).1
            omega
          rw [List.getElem?_take, if_pos hj', List.getElem?_drop] at hj
          exact hj)
        rw [hlen] at hld
        refine ⟨.agg ((cs.drop o).take ti.size).toArray, ?_, ?_⟩
        · simp only [Instr.loadAt, Instr.sureAddr, Sem.run_bind, Sem.run_pure, Result.andThen_ok, loadVar, hag, hagg, if_true, run_size ht, hld]
        · simp only [VR]; exact ⟨_, hv, rfl⟩
      · cases h
    · rename_i hagg
      split at h
      · rename_i u r hu
        cases h
        rw [dropV_eq] at hu
        have hv := hl.drop o
        rw [hu] at hv
        obtain ⟨x, q, h1, h2, e⟩ := VRs.cons_iff.1 hv
        refine ⟨x, ?_, h1⟩
        have hx : cs[o]? = some x := by
          have : (cs.drop o)[0]? = some x := by rw [e]; rfl
          rw [List.getElem?_drop] at this
          simpa using this
        simp only [Instr.loadAt, Instr.sureAddr, Sem.run_bind, Sem.run_pure, Result.andThen_ok, loadVar, hag, hagg, Bool.false_eq_true, if_false, run_load, hcell o x hx]
      · cases h
/-- A store. -/
theorem store_sound (r : Rep K w0 ι h w) (ha : ∀ k, (ι.atom k).oneCell' = true) {t : TypeId} {ti : TI} (ht : tiOf P t = some ti) {b c o : Nat} (hb : ι.blk b = some c) {l m vs : List V} {bt : Nat} {g : Bool} (hd : h.t.get b = .cells l bt g) {v : V} {x : Value} (hv : VR ι v x) (hvs : cellsV v = some vs) (hn : vs.length = ti.size) (h1 : onesV vs = true) (hs : segV o vs l = some m) :
    ∃ w', (Instr.storeAt t (.pointer (some ⟨c, o, none⟩)) x).run P w = .ok () w' ∧ Rep K w0 ι ⟨h.t.set b (.cells m bt g), h.n⟩ w' := by
  obtain ⟨cs, more, hl, hc, hg, _⟩ := r.cells_at hb hd
  have hx := cellsV_sound hvs hv
  have hlen := hx.length
  obtain ⟨_, hb2⟩ := segV_eq hs
  have hcl := hl.length
  have hst := run_storeCells_at (P := P) c o bt x.cells.toList 0 (cs ++ more).toArray w hc (by simp at hlen ⊢; omega) (onesV_sound ha h1 hx)
  have e : (cs ++ more).toArray.toList.take (o + 0) ++ x.cells.toList ++ (cs ++ more).toArray.toList.drop (o + 0 + x.cells.toList.length) = (cs.take o ++ x.cells.toList ++ cs.drop (o + x.cells.toList.length)) ++ more := by
    simp only [Nat.add_zero, List.append_assoc]
    rw [List.take_append_of_le_length (by omega), List.drop_append_of_le_length (by rw [hlen]; omega)]
  rw [e] at hst
  refine ⟨_, ?_, r.upd_row hb hd hc (VRs.seg hs hx hl) hg (by simp only [List.length_append, List.length_take, List.length_drop]; omega)⟩
  simp only [Instr.storeAt, Instr.sureAddr, Sem.run_bind, Sem.run_pure, Result.andThen_ok, storeVar, run_size ht]
  rw [if_neg (by simp at hlen ⊢; omega)]
  exact hst
end
end Go.Proofs.YtcjehedciijhfaaGreatDoor.E
