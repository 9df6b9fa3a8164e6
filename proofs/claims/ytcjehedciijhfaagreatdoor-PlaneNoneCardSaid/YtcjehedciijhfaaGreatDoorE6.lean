/- The executor's operations on memory, one by one, and that they are the program's. No condition. -/
import Derived.Test.YtcjehedciijhfaaGreatDoorE5
namespace Go.Proofs.YtcjehedciijhfaaGreatDoor.E
open Go.ChangeShapes Go.WideShapes Go.ChangeAt Go.RowKit Go.Deep

def nthV : List V → Nat → Option V
  | [], _ => none
  | v :: _, 0 => some v
  | _ :: l, n + 1 => nthV l n
def nthF : List (Nat × Nat × Nat) → Nat → Option (Nat × Nat × Nat)
  | [], _ => none
  | v :: _, 0 => some v
  | _ :: l, n + 1 => nthF l n
theorem nthV_eq : ∀ (l : List V) (i : Nat), nthV l i = l[i]?
  | [], i => by simp [nthV]
  | v :: l, 0 => rfl
  | v :: l, n + 1 => by simp [nthV, nthV_eq l n]
theorem nthF_eq : ∀ (l : List (Nat × Nat × Nat)) (i : Nat), nthF l i = l[i]?
  | [], i => by simp [nthF]
  | v :: l, 0 => rfl
  | v :: l, n + 1 => by simp [nthF, nthF_eq l n]

/-- Parts laid into a row of cells. -/
def fillV (place : Nat → Option (Nat × Nat)) (cells : List V) : List (Nat × V) → Option (List V)
  | [] => some cells
  | p :: r => match place p.1 with
    | none => none
    | some q => match cellsV p.2 with
      | none => none
      | some vs => match Nat.beq vs.length q.2 with
        | false => none
        | true => match segV q.1 vs cells with
          | none => none
          | some c => fillV place c r
theorem foldl_seg : ∀ (vs : List Value) (off k : Nat) (cs : Array Value), off + k + vs.length ≤ cs.size →
    ((vs.zipIdx k).foldl (fun cs (p : Value × Nat) => cs.setIfInBounds (off + p.2) p.1) cs).toList = cs.toList.take (off + k) ++ vs ++ cs.toList.drop (off + k + vs.length)
  | [], off, k, cs, _ => by simp
  | v :: vs, off, k, cs, h => by
    rw [List.zipIdx_cons, List.foldl_cons, foldl_seg vs off (k + 1) _ (by simp at h ⊢; omega)]
    simp only [List.length_cons] at h ⊢
    have hlt : off + k < cs.toList.length := by simp; omega
    rw [Array.toList_setIfInBounds, show off + (k + 1) = off + k + 1 by omega, show off + k + 1 + vs.length = off + k + (vs.length + 1) by omega]
    rw [List.drop_set_of_lt (by omega), List.take_set, List.set_eq_take_append_cons_drop]
    have : off + k < (cs.toList.take (off + k + 1)).length := by rw [List.length_take]; omega
    rw [if_pos this, List.take_take, Nat.min_eq_left (by omega)]
    have hd : (cs.toList.take (off + k + 1)).drop (off + k + 1) = [] := by rw [List.drop_eq_nil_iff]; rw [List.length_take]; omega
    rw [hd]
    simp
theorem fill_sound {ι : I} (place : Nat → Option (Nat × Nat)) : ∀ (parts : List (Nat × V)) (xs : List (Nat × Value)) (cells m : List V) (cs : List Value), fillV place cells parts = some m → VRs ι cells cs → xs.map (·.1) = parts.map (·.1) → VRs ι (parts.map (·.2)) (xs.map (·.2)) →
    ∃ ms : List Value, Instr.fill place cs.toArray xs = some ms.toArray ∧ VRs ι m ms
  | [], xs, cells, m, cs, h, hc, h1, _ => by
    cases h
    simp only [List.map_nil, List.map_eq_nil_iff] at h1
    subst h1
    exact ⟨cs, rfl, hc⟩
  | p :: r, [], _, _, _, _, _, h1, _ => by simp at h1
  | p :: r, x :: xs, cells, m, cs, h, hc, h1, h2 => by
    simp only [List.map_cons, List.cons.injEq] at h1
    obtain ⟨y, q, g1, g2, e⟩ := VRs.cons_iff.1 h2
    simp only [List.map_cons, List.cons.injEq] at e
    obtain ⟨rfl, rfl⟩ := e
    unfold fillV at h
    split at h
    · cases h
    · rename_i pl hpl
      split at h
      · cases h
      · rename_i vs hvs
        split at h
        · cases h
        · rename_i hlen
          have hlen := Nat.eq_of_beq_eq_true hlen
          split at h
          · cases h
          · rename_i c hseg
            have hx := cellsV_sound hvs g1
            have hl := hx.length
            have hcl := hc.length
            obtain ⟨_, hb⟩ := segV_eq hseg
            have hv := VRs.seg hseg hx hc
            obtain ⟨ms, e1, e2⟩ := fill_sound place r xs c m _ h hv h1.2 g2
            refine ⟨ms, ?_, e2⟩
            unfold Instr.fill
            rw [h1.1, hpl]
            dsimp only
            have hsz : x.2.cells.size = pl.2 := by rw [← Array.length_toList, hl, hlen]
            rw [if_neg (by
              simp only [ne_eq, decide_not, Bool.or_eq_true, Bool.not_eq_eq_eq_not, Bool.not_true, decide_eq_false_iff_not, decide_eq_true_eq, List.size_toArray]
              omega)]
            have hf := foldl_seg x.2.cells.toList pl.1 0 cs.toArray (by simp at hl ⊢; omega)
            have e3 : Array.foldl (fun cs (p : Value × Nat) => cs.setIfInBounds (pl.1 + p.2) p.1) cs.toArray x.2.cells.zipIdx = (cs.take pl.1 ++ x.2.cells.toList ++ cs.drop (pl.1 + x.2.cells.toList.length)).toArray := by
              apply Array.ext'
              rw [← Array.foldl_toList, Array.toList_zipIdx, hf]
              simp
            have e4 := e1
            rw [← e3] at e4
            exact e4
end Go.Proofs.YtcjehedciijhfaaGreatDoor.E
