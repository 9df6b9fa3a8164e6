/- The executor on regions that draw: who is ahead of whom. No condition. || The executor on regions that draw: the items of a region. No condition. -/
import Derived.Test.YtcjehedciijhfaaGreatDoorE27
namespace Go.Proofs.YtcjehedciijhfaaGreatDoor.E
open Go.ChangeShapes Go.WideShapes Go.ChangeAt Go.RowKit Go.Deep

theorem bitB_eq (m i : Nat) : bitB m i = m.testBit i := by
  unfold bitB
  have h1 : Nat.land (Nat.shiftRight m i) 1 = (m >>> i) % 2 := Nat.and_one_is_mod _
  rw [h1, Nat.testBit_eq_decide_div_mod_eq, Nat.shiftRight_eq_div_pow]
  rw [Bool.eq_iff_iff, Nat.beq_eq, decide_eq_true_iff]
theorem bitB_or (a b i : Nat) : bitB (Nat.lor a b) i = (bitB a i || bitB b i) := by
  rw [bitB_eq, bitB_eq, bitB_eq]
  exact Nat.testBit_or a b i
theorem bitB_one (j i : Nat) : bitB (Nat.shiftLeft 1 j) i = true ↔ i = j := by
  rw [bitB_eq]
  show (1 <<< j).testBit i = true ↔ i = j
  rw [Nat.testBit_shiftLeft]
  simp only [Bool.and_eq_true, decide_eq_true_iff, Nat.testBit_one_eq_true_iff_self_eq_zero]
  omega
theorem bitB_zero (i : Nat) : bitB 0 i = false := by rw [bitB_eq]; exact Nat.zero_testBit i
theorem befOf_sound {T : Tr Nat} {i : Nat} : ∀ (l : List Edge) {m : Nat}, befOf T i l = some m →
    (∀ e ∈ l, Region.binds .any e = true → e.on < i) ∧ ∀ j, bitB m j = true → ∃ e ∈ l, Region.binds .any e = true ∧ e.on < i ∧ (j = e.on ∨ bitB (T.get e.on) j = true)
  | [], m, h => by
    cases h
    exact ⟨(fun _ h => by cases h), (fun j hj => by rw [bitB_zero] at hj; cases hj)⟩
  | e :: l, m, h => by
    unfold befOf at h
    split at h
    · rename_i hb
      obtain ⟨h1, h2⟩ := befOf_sound l h
      refine ⟨fun e' he' hb' => ?_, fun j hj => ?_⟩
      · rcases List.mem_cons.1 he' with rfl | he'
        · rw [hb] at hb'; cases hb'
        · exact h1 e' he' hb'
      · obtain ⟨e', q1, q2⟩ := h2 j hj
        exact ⟨e', List.mem_cons_of_mem _ q1, q2⟩
    · rename_i hb
      split at h
      · rename_i m' hlt hm'
        cases h
        have hlt : e.on < i := by simpa [Nat.blt_eq] using hlt
        obtain ⟨h1, h2⟩ := befOf_sound l hm'
        refine ⟨fun e' he' hb' => ?_, fun j hj => ?_⟩
        · rcases List.mem_cons.1 he' with rfl | he'
          · exact hlt
          · exact h1 e' he' hb'
        · rw [bitB_or, bitB_or, Bool.or_eq_true, Bool.or_eq_true] at hj
          rcases hj with (hj | hj) | hj
          · exact ⟨e, List.mem_cons_self .., hb, hlt, .inl ((bitB_one _ _).1 hj)⟩
          · exact ⟨e, List.mem_cons_self .., hb, hlt, .inr hj⟩
          · obtain ⟨e', q1, q2⟩ := h2 j hj
            exact ⟨e', List.mem_cons_of_mem _ q1, q2⟩
      · cases h
/-- The k-th item. -/
structure ItOk (all : List Oper) (get : Nat → Option It) (i : Nat) (x : It) : Prop where
  at_ : x.i = i
  o : all[i]? = some x.o
  looks : x.looks = looksL all x.o
  rk : x.rk = freshN (all.take i)
  edges : ∀ e ∈ x.o.after.toList, Region.binds .any e = true → e.on < i
  bef : ∀ j, bitB x.m j = true → ∃ e ∈ x.o.after.toList, Region.binds .any e = true ∧ e.on < i ∧ (j = e.on ∨ ∃ y, get e.on = some y ∧ bitB y.m j = true)
theorem freshN_append : ∀ (a b : List Oper), freshN (a ++ b) = freshN a + freshN b
  | [], b => by simp [freshN]
  | o :: a, b => by
    simp only [List.cons_append, freshN]
    split <;> rw [freshN_append a b] <;> omega
theorem itsA_sound {all : List Oper} : ∀ (l done : List Oper) (rd r : List It) (T : Tr Nat), all = done ++ l → all.length ≤ 256 → itsA all l done.length (freshN done) T = some r → Perf 8 T →
    rd.length = done.length → (∀ j y, rd[j]? = some y → T.get j = y.m) → (∀ k x, rd[k]? = some x → ItOk all (fun j => (rd ++ r)[j]?) k x) → ∀ k x, (rd ++ r)[k]? = some x → ItOk all (fun j => (rd ++ r)[j]?) k x
  | [], done, rd, r, T, ha, hl, h, hT, hrd, hTm, hok => by
    cases h
    intro k x hx
    rw [List.append_nil] at hx
    exact hok k x hx
  | o :: l, done, rd, r, T, ha, hl, h, hT, hrd, hTm, hok => by
    unfold itsA at h
    split at h
    · cases h
    rename_i m hm
    split at h
    rotate_left
    · cases h
    rename_i r' hr'
    cases h
    obtain ⟨b1, b2⟩ := befOf_sound _ hm
    have hlen : done.length < 256 := by rw [ha] at hl; simp at hl; omega
    have e0 : rd ++ (⟨done.length, o, m, freshN done, looksL all o⟩ :: r') = (rd ++ [⟨done.length, o, m, freshN done, looksL all o⟩]) ++ r' := by simp
    rw [e0] at hok ⊢
    refine itsA_sound l (done ++ [o]) _ r' (T.set done.length m) (by rw [ha]; simp) hl ?_ (hT.set _ _) (by simp [hrd]) (fun j y hj => ?_) (fun k x hx => ?_)
    · rw [← hr']
      simp only [List.length_append, List.length_cons, List.length_nil, freshN_append, freshN]
      congr 1
      split <;> rfl
    · have hj' : j < done.length + 1 := by
        have := (List.getElem?_eq_some_iff.1 hj).1
        simpa [hrd] using this
      rw [hT.get_set _ _ _ hlen (by have : (2:Nat)^8 = 256 := rfl; omega)]
      by_cases e : j = done.length
      · subst e
        rw [if_pos rfl]
        rw [← hrd] at hj
        simp at hj
        rw [← hj]
      · rw [if_neg e]
        rw [List.getElem?_append_left (by omega)] at hj
        exact hTm j y hj
    · by_cases e : k = rd.length
      · subst e
        simp at hx
        subst hx
        refine ⟨hrd.symm, ?_, rfl, ?_, by rw [hrd]; exact b1, fun j hj => ?_⟩
        · rw [ha, hrd]; simp
        · rw [ha, hrd]; simp
        · obtain ⟨e, q1, q2, q3, q4⟩ := b2 j hj
          refine ⟨e, q1, q2, by rw [hrd]; exact q3, ?_⟩
          rcases q4 with q4 | q4
          · exact .inl q4
          · have hlt : e.on < rd.length := by omega
            refine .inr ⟨rd[e.on], ?_, ?_⟩
            · rw [List.append_assoc, List.getElem?_append_left hlt, List.getElem?_eq_getElem hlt]
            · rw [← hTm e.on rd[e.on] (List.getElem?_eq_getElem hlt)]
              exact q4
      · have hk : k < rd.length := by
          have := (List.getElem?_eq_some_iff.1 hx).1
          simp at this
          omega
        rw [List.getElem?_append_left hk] at hx
        exact hok k x hx
end Go.Proofs.YtcjehedciijhfaaGreatDoor.E
namespace Go.Proofs.YtcjehedciijhfaaGreatDoor.E
open Go.ChangeShapes Go.WideShapes Go.ChangeAt Go.RowKit Go.Deep

theorem itsA_length {all : List Oper} : ∀ (l : List Oper) (i rk : Nat) (T : Tr Nat) (r : List It), itsA all l i rk T = some r → r.length = l.length
  | [], _, _, _, _, h => by cases h; rfl
  | o :: l, i, rk, T, r, h => by
    unfold itsA at h
    split at h
    · cases h
    split at h
    rotate_left
    · cases h
    rename_i r' hr'
    cases h
    rw [List.length_cons, List.length_cons, itsA_length l _ _ _ _ hr']
theorem memN_mem {d : Nat} : ∀ {l : List Nat}, d ∈ l → memN d l = true
  | a :: l, h => by
    unfold memN
    split
    · rfl
    · rename_i hn
      rcases List.mem_cons.1 h with rfl | h
      · exact absurd rfl (Nat.ne_of_beq_eq_false hn)
      · exact memN_mem h
structure ItsOk (all : List Oper) (l : List It) : Prop where
  len : l.length = all.length
  le : all.length ≤ 256
  it : ∀ k x, l[k]? = some x → ItOk all (fun j => l[j]?) k x
  pair : ∀ a ∈ l, ∀ b ∈ l, pairOk a b = true
theorem its_sound {all : List Oper} {l : List It} (h : its all = some l) : ItsOk all l := by
  unfold its at h
  split at h
  · cases h
  rename_i hle
  have hle := Nat.le_of_ble_eq_true hle
  split at h
  · cases h
  rename_i r hr
  split at h
  rotate_left
  · cases h
  rename_i hp
  cases h
  have h1 := itsA_sound all [] [] l (Tr.full 0 8) rfl hle hr (Perf.full _ _) rfl (fun j y hj => by simp at hj) (fun k x hx => by simp at hx)
  exact ⟨itsA_length _ _ _ _ _ hr, hle, by simpa using h1, fun a ha b hb => allB_mem (allB_mem hp a ha) b hb⟩
section
variable {all : List Oper} {l : List It}
/-- What is ahead of an operation whose edges are done is done. -/
theorem ItsOk.closed (q : ItsOk all l) {L : Nat → Prop} (hL : ∀ (k : Nat) (x : It), l[k]? = some x → L k → ∀ e ∈ x.o.after.toList, Region.binds .any e = true → L e.on) :
    ∀ (k : Nat) (x : It), l[k]? = some x → (∀ e ∈ x.o.after.toList, Region.binds .any e = true → L e.on) → ∀ j, bitB x.m j = true → L j := by
  intro k
  induction k using Nat.strongRecOn with
  | _ k ih =>
    intro x hx he j hj
    obtain ⟨e, e1, e2, e3, e4⟩ := (q.it k x hx).bef j hj
    rcases e4 with rfl | ⟨y, y1, y2⟩
    · exact he e e1 e2
    · exact ih e.on e3 y y1 (hL e.on y y1 (he e e1 e2)) j y2
theorem ItsOk.bef_lt (q : ItsOk all l) : ∀ (k : Nat) (x : It), l[k]? = some x → ∀ j, bitB x.m j = true → j < k := by
  intro k
  induction k using Nat.strongRecOn with
  | _ k ih =>
    intro x hx j hj
    obtain ⟨e, e1, e2, e3, e4⟩ := (q.it k x hx).bef j hj
    rcases e4 with rfl | ⟨y, y1, y2⟩
    · exact e3
    · exact Nat.lt_trans (ih e.on e3 y y1 j y2) e3
theorem ItsOk.one (q : ItsOk all l) {i j : Nat} {x y : It} (hx : l[i]? = some x) (hy : l[j]? = some y) {d : Nat} (h1 : x.o.dst = some d) (h2 : y.o.dst = some d) : i = j := by
  have hp := q.pair x (List.mem_of_getElem? hx) y (List.mem_of_getElem? hy)
  unfold pairOk at hp
  rw [(q.it i x hx).at_, (q.it j y hy).at_] at hp
  split at hp
  · rename_i h; exact Nat.eq_of_beq_eq_true h
  · rw [h2] at hp
    dsimp only at hp
    rw [h1] at hp
    have : oEq (some d) (some d) = true := by simp [oEq]
    rw [this] at hp
    cases hp
/-- Who looks at what another writes is ordered with it. -/
theorem ItsOk.look (q : ItsOk all l) {i j : Nat} {x y : It} (hx : l[i]? = some x) (hy : l[j]? = some y) (hij : i ≠ j) {d : Nat} (h1 : d ∈ x.looks) (h2 : y.o.dst = some d) : (i < j ∧ bitB y.m i = true) ∨ (j < i ∧ bitB x.m j = true) := by
  have hp := q.pair x (List.mem_of_getElem? hx) y (List.mem_of_getElem? hy)
  unfold pairOk at hp
  rw [(q.it i x hx).at_, (q.it j y hy).at_] at hp
  split at hp
  · rename_i h; exact absurd (Nat.eq_of_beq_eq_true h) hij
  · rw [h2] at hp
    dsimp only at hp
    split at hp
    · cases hp
    rw [memN_mem h1] at hp
    dsimp only at hp
    split at hp
    · rename_i hlt
      exact .inl ⟨by simpa [Nat.blt_eq] using hlt, hp⟩
    · rename_i hlt
      refine .inr ⟨?_, hp⟩
      have : ¬ i < j := by
        intro h
        have : Nat.blt i j = true := by rw [Nat.blt_eq]; exact h
        rw [this] at hlt
        cases hlt
      omega
end
end Go.Proofs.YtcjehedciijhfaaGreatDoor.E
