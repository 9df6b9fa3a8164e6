/- A statement that lays five variables out of five fields, whose order Go leaves open: what lies behind it. Conditions are of the operations alone. -/
import Derived.Test.YtcjehedciijhfaaGreatDoorFrame
import Derived.StillTail
namespace Go.Proofs.YtcjehedciijhfaaGreatDoor
open Go.ChangeShapes Go.WideShapes Go.ChangeAt Go.RowKit Go.Deep

/-- Several slots are set. -/
def puts (a : Act) (u : List (Nat × Value)) : Act := u.foldl (fun a p => a.put (some p.1) p.2) a

theorem puts_eq : ∀ (u : List (Nat × Value)) (a a' : Act), a'.defers = a.defers → a'.tmps.size = a.tmps.size → (∀ p ∈ u, a'.tmps[p.1]? = some p.2) → (∀ t, (∀ p ∈ u, t ≠ p.1) → a'.tmps[t]? = a.tmps[t]?) → a' = puts a u
  | [], a, a', h1, _, _, h4 => by
    obtain ⟨x, d⟩ := a
    obtain ⟨x', d'⟩ := a'
    simp only at h1
    subst h1
    simp only [puts, List.foldl_nil, Act.mk.injEq, and_true]
    exact Array.ext_getElem? fun t => h4 t (fun p hp => by cases hp)
  | (d, v) :: u, a, a', h1, h2, h3, h4 => by
    have hv := h3 (d, v) (List.mem_cons_self ..)
    have hd : d < a'.tmps.size := (Array.getElem?_eq_some_iff.1 hv).1
    have := puts_eq u (a.put (some d) v) a' (by simpa [Act.put] using h1) (by simpa [Act.put] using h2) (fun p hp => h3 p (List.mem_cons_of_mem _ hp)) (fun t ht => by
      simp only [Act.put, Array.getElem?_setIfInBounds]
      by_cases e : d = t
      · subst e
        rw [if_pos rfl, if_pos (by omega), hv]
      · rw [if_neg e]
        exact h4 t (fun p hp => by
          rcases List.mem_cons.1 hp with rfl | hp
          · exact fun e' => e e'.symm
          · exact ht p hp))
    rw [this]
    rfl

/-- Whatever holds behind each operation that may come up next holds behind the region. -/
theorem wpAny_inv {P : Program} {md : Region.Mode} {ops : Array Oper} {Q : Exit → Act → World → Prop} (Inv : Array Bool → Act → World → Prop)
    (hsz : ∀ l a w, Inv l a w → l.size = ops.size)
    (hord : ∀ i o, ops[i]? = some o → ∀ e ∈ o.after, Region.binds md e = true → e.on < i)
    (hstep : ∀ l a w i, Inv l a w → i ∈ Region.ready md ops l → wpOp P ops Q i (Inv (l.setIfInBounds i true)) a w)
    (hend : ∀ l a w, Inv l a w → (∀ i, i < ops.size → l.getD i false = true) → Q .normal a w) :
    ∀ (fuel : Nat) (l : Array Bool) (a : Act) (w : World), (∀ s : Nat, (∀ i, i < s → l.getD i false = true) → True) → ((List.range ops.size).countP (fun i => !l.getD i false)) ≤ fuel → Inv l a w → wpAny P md ops Q fuel l a w := by
  have hall : ∀ l : Array Bool, Region.ready md ops l = [] → l.size = ops.size → ∀ i, i < ops.size → l.getD i false = true := by
    intro l hr hs i
    induction i using Nat.strongRecOn with
    | _ i ih =>
      intro hi
      cases hl : l.getD i false with
      | true => rfl
      | false =>
        have hmem : i ∈ Region.ready md ops l := by
          rw [mem_ready]
          refine ⟨?_, ops[i], Array.getElem?_eq_getElem hi, fun e he hb => ?_⟩
          · have : i < l.size := by omega
            simp [this] at hl ⊢
            exact hl
          · have := hord i _ (Array.getElem?_eq_getElem hi) e he hb
            exact ih e.on this (by omega)
        rw [hr] at hmem
        cases hmem
  intro fuel
  induction fuel with
  | zero =>
    intro l a w _ hc hI
    have hs := hsz l a w hI
    have h0 : ∀ i, i < ops.size → l.getD i false = true := by
      intro i hi
      have := List.countP_eq_zero.1 (Nat.le_zero.1 hc) i (List.mem_range.2 hi)
      simpa using this
    refine ⟨?_, hend l a w hI h0⟩
    rw [List.eq_nil_iff_forall_not_mem]
    intro i hi
    obtain ⟨h1, o, ho, _⟩ := mem_ready.1 hi
    have hlt := (Array.getElem?_eq_some_iff.1 ho).1
    have h2 := h0 i hlt
    have h3 : i < l.size := by omega
    simp [h3] at h1 h2
    rw [h1] at h2
    cases h2
  | succ fuel ih =>
    intro l a w _ hc hI
    have hs := hsz l a w hI
    refine ⟨fun hr => hend l a w hI (hall l hr hs), fun i hi => ?_⟩
    refine wpOp_mono (fun a' w' h => ih _ a' w' (fun _ _ => trivial) ?_ h) (hstep l a w i hI hi)
    obtain ⟨h1, o, ho, _⟩ := mem_ready.1 hi
    have hlt := (Array.getElem?_eq_some_iff.1 ho).1
    have hls : i < l.size := by omega
    have hli : l.getD i false = false := by simp [hls] at h1 ⊢; exact h1
    have key : (List.range ops.size).countP (fun j => !(l.setIfInBounds i true).getD j false) < (List.range ops.size).countP (fun j => !l.getD j false) := by
      have hmem : i ∈ List.range ops.size := List.mem_range.2 hlt
      obtain ⟨s, t, hst⟩ := List.append_of_mem hmem
      have hle : ∀ m : List Nat, m.countP (fun j => !(l.setIfInBounds i true).getD j false) ≤ m.countP (fun j => !l.getD j false) := fun m => List.countP_mono_left fun j _ hj => by
        by_cases e : i = j
        · subst e
          rw [hli]; rfl
        · rw [getD_set_ne false e] at hj
          exact hj
      rw [hst, List.countP_append, List.countP_append, List.countP_cons, List.countP_cons]
      have h5 := hle s
      have h6 := hle t
      have h7 : (l.setIfInBounds i true).getD i false = true := by simp [hls]
      simp only [h7, hli, Bool.not_true, Bool.not_false, if_true]
      simp only [Bool.false_eq_true, if_false]
      omega
    omega
end Go.Proofs.YtcjehedciijhfaaGreatDoor
