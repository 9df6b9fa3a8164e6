/- The executor on regions that draw: who is ahead of whom. No condition. -/
import Derived.Test.YtcjehedciijhfaaGreatDoorE27
namespace Go.Proofs.YtcjehedciijhfaaGreatDoor.E
open Go.ChangeShapes Go.WideShapes Go.ChangeAt Go.RowKit Go.Deep

theorem bitB_eq (m i : Nat) : bitB m i = m.testBit i := by
  unfold bitB
  have h1 : Nat.land (Nat.shiftRight m i) 1 = (m >>> i) % 2 := Nat.and_one_is_mod _
  rw [h1, Nat.testBit_eq_decide_div_mod_eq, Nat.shiftRight_eq_div_pow]
  rw [Bool.eq_iff_iff, Nat.beq_eq, decide_eq_true_iff]
theorem bitB_or (a b i : Nat) : bitB (Nat.lor a b) i = (bitB a i || bitB b i) := by
  rw [bitB_eq, bitB_eq, bitB_eq]
  exact Nat.testBit_or a b i
theorem bitB_one (j i : Nat) : bitB (Nat.shiftLeft 1 j) i = true ↔ i = j := by
  rw [bitB_eq]
  show (1 <<< j).testBit i = true ↔ i = j
  rw [Nat.testBit_shiftLeft]
  simp only [Bool.and_eq_true, decide_eq_true_iff, Nat.testBit_one_eq_true_iff_self_eq_zero]
  omega
theorem bitB_zero (i : Nat) : bitB 0 i = false := by rw [bitB_eq]; exact Nat.zero_testBit i
theorem befOf_sound {T : Tr Nat} {i : Nat} : ∀ (l : List Edge) {m : Nat}, befOf T i l = some m →
    (∀ e ∈ l, Region.binds .any e = true → e.on < i) ∧ ∀ j, bitB m j = true → ∃ e ∈ l, Region.binds .any e = true ∧ e.on < i ∧ (j = e.on ∨ bitB (T.get e.on) j = true)
  | [], m, h => by
    cases h
    exact ⟨(fun _ h => by cases h), (fun j hj => by rw [bitB_zero] at hj; cases hj)⟩
  | e :: l, m, h => by
    unfold befOf at h
    split at h
    · rename_i hb
      obtain ⟨h1, h2⟩ := befOf_sound l h
      refine ⟨fun e' he' hb' => ?_, fun j hj => ?_⟩
      · rcases List.mem_cons.1 he' with rfl | he'
        · rw [hb] at hb'; cases hb'
        · exact h1 e' he' hb'
      · obtain ⟨e', q1, q2⟩ := h2 j hj
        exact ⟨e', List.mem_cons_of_mem _ q1, q2⟩
    · rename_i hb
      split at h
      · rename_i m' hlt hm'
        cases h
        have hlt : e.on < i := by simpa [Nat.blt_eq] using hlt
        obtain ⟨h1, h2⟩ := befOf_sound l hm'
        refine ⟨fun e' he' hb' => ?_, fun j hj => ?_⟩
        · rcases List.mem_cons.1 he' with rfl | he'
          · exact hlt
          · exact h1 e' he' hb'
        · rw [bitB_or, bitB_or, Bool.or_eq_true, Bool.or_eq_true] at hj
          rcases hj with (hj | hj) | hj
          · exact ⟨e, List.mem_cons_self .., hb, hlt, .inl ((bitB_one _ _).1 hj)⟩
          · exact ⟨e, List.mem_cons_self .., hb, hlt, .inr hj⟩
          · obtain ⟨e', q1, q2⟩ := h2 j hj
            exact ⟨e', List.mem_cons_of_mem _ q1, q2⟩
      · cases h
/-- The k-th item. -/
structure ItOk (all : List Oper) (get : Nat → Option It) (i : Nat) (x : It) : Prop where
  at_ : x.i = i
  o : all[i]? = some x.o
  looks : x.looks = looksL all x.o
  rk : x.rk = freshN (all.take i)
  edges : ∀ e ∈ x.o.after.toList, Region.binds .any e = true → e.on < i
  bef : ∀ j, bitB x.m j = true → ∃ e ∈ x.o.after.toList, Region.binds .any e = true ∧ e.on < i ∧ (j = e.on ∨ ∃ y, get e.on = some y ∧ bitB y.m j = true)
theorem freshN_append : ∀ (a b : List Oper), freshN (a ++ b) = freshN a + freshN b
  | [], b => by simp [freshN]
  | o :: a, b => by
    simp only [List.cons_append, freshN]
    split <;> rw [freshN_append a b] <;> omega
theorem itsA_sound {all : List Oper} : ∀ (l done : List Oper) (rd r : List It) (T : Tr Nat), all = done ++ l → all.length ≤ 256 → itsA all l done.length (freshN done) T = some r → Perf 8 T →
    rd.length = done.length → (∀ j y, rd[j]? = some y → T.get j = y.m) → (∀ k x, rd[k]? = some x → ItOk all (fun j => (rd ++ r)[j]?) k x) → ∀ k x, (rd ++ r)[k]? = some x → ItOk all (fun j => (rd ++ r)[j]?) k x
  | [], done, rd, r, T, ha, hl, h, hT, hrd, hTm, hok => by
    cases h
    intro k x hx
    rw [List.append_nil] at hx
    exact hok k x hx
  | o :: l, done, rd, r, T, ha, hl, h, hT, hrd, hTm, hok => by
    unfold itsA at h
    split at h
    · cases h
    rename_i m hm
    split at h
    rotate_left
    · cases h
    rename_i r' hr'
    cases h
    obtain ⟨b1, b2⟩ := befOf_sound _ hm
    have hlen : done.length < 256 := by rw [ha] at hl; simp at hl; omega
    have e0 : rd ++ (⟨done.length, o, m, freshN done, looksL all o⟩ :: r') = (rd ++ [⟨done.length, o, m, freshN done, looksL all o⟩]) ++ r' := by simp
    rw [e0] at hok ⊢
    refine itsA_sound l (done ++ [o]) _ r' (T.set done.length m) (by rw [ha]; simp) hl ?_ (hT.set _ _) (by simp [hrd]) (fun j y hj => ?_) (fun k x hx => ?_)
    · rw [← hr']
      simp only [List.length_append, List.length_cons, List.length_nil, freshN_append, freshN]
      congr 1
      split <;> rfl
    · have hj' : j < done.length + 1 := by
        have := (List.getElem?_eq_some_iff.1 hj).1
        simpa [hrd] using this
      rw [hT.get_set _ _ _ hlen (by have : (2:Nat)^8 = 256 := rfl; omega)]
      by_cases e : j = done.length
      · subst e
        rw [if_pos rfl]
        rw [← hrd] at hj
        simp at hj
        rw [← hj]
      · rw [if_neg e]
        rw [List.getElem?_append_left (by omega)] at hj
        exact hTm j y hj
    · by_cases e : k = rd.length
      · subst e
        simp at hx
        subst hx
        refine ⟨hrd.symm, ?_, rfl, ?_, by rw [hrd]; exact b1, fun j hj => ?_⟩
        · rw [ha, hrd]; simp
        · rw [ha, hrd]; simp
        · obtain ⟨e, q1, q2, q3, q4⟩ := b2 j hj
          refine ⟨e, q1, q2, by rw [hrd]; exact q3, ?_⟩
          rcases q4 with q4 | q4
          · exact .inl q4
          · have hlt : e.on < rd.length := by omega
            refine .inr ⟨rd[e.on], ?_, ?_⟩
            · rw [List.append_assoc, List.getElem?_append_left hlt, List.getElem?_eq_getElem hlt]
            · rw [← hTm e.on rd[e.on] (List.getElem?_eq_getElem hlt)]
              exact q4
      · have hk : k < rd.length := by
          have := (List.getElem?_eq_some_iff.1 hx).1
          simp at this
          omega
        rw [List.getElem?_append_left hk] at hx
        exact hok k x hx
end Go.Proofs.YtcjehedciijhfaaGreatDoor.E
