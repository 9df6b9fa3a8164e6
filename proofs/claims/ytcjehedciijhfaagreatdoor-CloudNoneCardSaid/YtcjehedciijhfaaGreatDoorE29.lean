/- The executor on regions that draw: the items of a region. No condition. -/
import Derived.Test.YtcjehedciijhfaaGreatDoorE28
namespace Go.Proofs.YtcjehedciijhfaaGreatDoor.E
open Go.ChangeShapes Go.WideShapes Go.ChangeAt Go.RowKit Go.Deep

theorem itsA_length {all : List Oper} : ∀ (l : List Oper) (i rk : Nat) (T : Tr Nat) (r : List It), itsA all l i rk T = some r → r.length = l.length
  | [], _, _, _, _, h => by cases h; rfl
  | o :: l, i, rk, T, r, h => by
    unfold itsA at h
    split at h
    · cases h
    split at h
    rotate_left
    · cases h
    rename_i r' hr'
    cases h
    rw [List.length_cons, List.length_cons, itsA_length l _ _ _ _ hr']
theorem memN_mem {d : Nat} : ∀ {l : List Nat}, d ∈ l → memN d l = true
  | a :: l, h => by
    unfold memN
    split
    · rfl
    · rename_i hn
      rcases List.mem_cons.1 h with rfl | h
      · exact absurd rfl (Nat.ne_of_beq_eq_false hn)
      · exact memN_mem h
structure ItsOk (all : List Oper) (l : List It) : Prop where
  len : l.length = all.length
  le : all.length ≤ 256
  it : ∀ k x, l[k]? = some x → ItOk all (fun j => l[j]?) k x
  pair : ∀ a ∈ l, ∀ b ∈ l, pairOk a b = true
theorem its_sound {all : List Oper} {l : List It} (h : its all = some l) : ItsOk all l := by
  unfold its at h
  split at h
  · cases h
  rename_i hle
  have hle := Nat.le_of_ble_eq_true hle
  split at h
  · cases h
  rename_i r hr
  split at h
  rotate_left
  · cases h
  rename_i hp
  cases h
  have h1 := itsA_sound all [] [] l (Tr.full 0 8) rfl hle hr (Perf.full _ _) rfl (fun j y hj => by simp at hj) (fun k x hx => by simp at hx)
  exact ⟨itsA_length _ _ _ _ _ hr, hle, by simpa using h1, fun a ha b hb => allB_mem (allB_mem hp a ha) b hb⟩
section
variable {all : List Oper} {l : List It}
/-- What is ahead of an operation whose edges are done is done. -/
theorem ItsOk.closed (q : ItsOk all l) {L : Nat → Prop} (hL : ∀ (k : Nat) (x : It), l[k]? = some x → L k → ∀ e ∈ x.o.after.toList, Region.binds .any e = true → L e.on) :
    ∀ (k : Nat) (x : It), l[k]? = some x → (∀ e ∈ x.o.after.toList, Region.binds .any e = true → L e.on) → ∀ j, bitB x.m j = true → L j := by
  intro k
  induction k using Nat.strongRecOn with
  | _ k ih =>
    intro x hx he j hj
    obtain ⟨e, e1, e2, e3, e4⟩ := (q.it k x hx).bef j hj
    rcases e4 with rfl | ⟨y, y1, y2⟩
    · exact he e e1 e2
    · exact ih e.on e3 y y1 (hL e.on y y1 (he e e1 e2)) j y2
theorem ItsOk.bef_lt (q : ItsOk all l) : ∀ (k : Nat) (x : It), l[k]? = some x → ∀ j, bitB x.m j = true → j < k := by
  intro k
  induction k using Nat.strongRecOn with
  | _ k ih =>
    intro x hx j hj
    obtain ⟨e, e1, e2, e3, e4⟩ := (q.it k x hx).bef j hj
    rcases e4 with rfl | ⟨y, y1, y2⟩
    · exact e3
    · exact Nat.lt_trans (ih e.on e3 y y1 j y2) e3
theorem ItsOk.one (q : ItsOk all l) {i j : Nat} {x y : It} (hx : l[i]? = some x) (hy : l[j]? = some y) {d : Nat} (h1 : x.o.dst = some d) (h2 : y.o.dst = some d) : i = j := by
  have hp := q.pair x (List.mem_of_getElem? hx) y (List.mem_of_getElem? hy)
  unfold pairOk at hp
  rw [(q.it i x hx).at_, (q.it j y hy).at_] at hp
  split at hp
  · rename_i h; exact Nat.eq_of_beq_eq_true h
  · rw [h2] at hp
    dsimp only at hp
    rw [h1] at hp
    have : oEq (some d) (some d) = true := by simp [oEq]
    rw [this] at hp
    cases hp
/-- Who looks at what another writes is ordered with it. -/
theorem ItsOk.look (q : ItsOk all l) {i j : Nat} {x y : It} (hx : l[i]? = some x) (hy : l[j]? = some y) (hij : i ≠ j) {d : Nat} (h1 : d ∈ x.looks) (h2 : y.o.dst = some d) : (i < j ∧ bitB y.m i = true) ∨ (j < i ∧ bitB x.m j = true) := by
  have hp := q.pair x (List.mem_of_getElem? hx) y (List.mem_of_getElem? hy)
  unfold pairOk at hp
  rw [(q.it i x hx).at_, (q.it j y hy).at_] at hp
  split at hp
  · rename_i h; exact absurd (Nat.eq_of_beq_eq_true h) hij
  · rw [h2] at hp
    dsimp only at hp
    split at hp
    · cases hp
    rw [memN_mem h1] at hp
    dsimp only at hp
    split at hp
    · rename_i hlt
      exact .inl ⟨by simpa [Nat.blt_eq] using hlt, hp⟩
    · rename_i hlt
      refine .inr ⟨?_, hp⟩
      have : ¬ i < j := by
        intro h
        have : Nat.blt i j = true := by rw [Nat.blt_eq]; exact h
        rw [this] at hlt
        cases hlt
      omega
end
end Go.Proofs.YtcjehedciijhfaaGreatDoor.E
