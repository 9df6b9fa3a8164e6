/- Chapter 16's plan by definition, in plain words: names rising, pods by sooner, the first ones that are left. No condition. -/
import Derived.Test.YtjncoloedakpoaaDoorRepPlan
import Derived.Test.YtjncoloedakpoaaDoorRepSoonM
import Derived.Sort.Walk0
namespace Go.Proofs.YtjncoloedakpoaaDoor
open Go.ChangeShapes Go.WideShapes Go.ChangeAt Go.RowKit Go.Deep

def lessN (a b : ByteArray) : Bool := Op.bytesLess a.toList b.toList
theorem lessN_iff (a b : ByteArray) : lessN a b = true ↔ toL a < toL b := by
  unfold lessN toL
  rw [Go.Proofs.bytesLess_eq, decide_eq_true_eq, Lib.toList_data, Lib.toList_data]
theorem sortN_strict (L : List ByteArray) (hu : L.Pairwise fun a b => a ≠ b) : (sortN L).Pairwise fun a b => lessN a b = true := by
  have h1 := sortN_le L
  have h2 : (sortN L).Pairwise fun a b => a ≠ b := ((sortN_perm L).symm.pairwise_iff fun h => Ne.symm h).1 hu
  refine (h1.and h2).imp fun {a b} h => ?_
  rw [lessN_iff]
  rcases Classical.em (toL a < toL b) with h3 | h3
  · exact h3
  · exact absurd (congrArg ofL (List.le_antisymm h.1 (List.not_lt.1 h3))) h.2
theorem lessN_tr (a b c : ByteArray) (h1 : lessN a b = true) (h2 : lessN b c = true) : lessN a c = true := less_trO h1 h2
theorem lessN_irr (a b : ByteArray) (h1 : lessN a b = true) (h2 : lessN b a = true) : False := by
  have := lessN_tr _ _ _ h1 h2
  unfold lessN at this
  rw [less_irrefl] at this
  cases this

def optN (b : Option ByteArray) : ByteArray := b.getD ⟨#[]⟩
theorem optN_step (R : List ByteArray) (b : Option ByteArray) (o : ByteArray) (hb : ∀ x, b = some x → x.size ≠ 0) :
    (!inB R o && ((optN b).toList == (⟨#[]⟩ : ByteArray).toList || Op.bytesLess o.toList (optN b).toList)) = true → selStep lessN (fun s => !inB R s) b o = some o := by
  intro h
  rw [Bool.and_eq_true] at h
  have h1 : (fun s => !inB R s) o = true := h.1
  unfold selStep
  rw [h1]
  cases b with
  | none => rfl
  | some x =>
    have hx := hb x rfl
    have h2 := h.2
    have : ((optN (some x)).toList == (⟨#[]⟩ : ByteArray).toList) = false := by
      rw [beq_eq_false_iff_ne]
      intro e
      have := toList_injO.1 e
      simp only [optN, Option.getD_some] at this
      rw [this] at hx
      exact hx rfl
    rw [this, Bool.false_or] at h2
    show (if (true && lessN o x) = true then some o else some x) = some o
    rw [show lessN o x = true from h2]
    rfl
theorem optN_keep (R : List ByteArray) (b : Option ByteArray) (o : ByteArray) (hb : ∀ x, b = some x → x.size ≠ 0) :
    (!inB R o && ((optN b).toList == (⟨#[]⟩ : ByteArray).toList || Op.bytesLess o.toList (optN b).toList)) = false → selStep lessN (fun s => !inB R s) b o = b := by
  intro h
  unfold selStep
  cases h1 : inB R o
  · rw [h1] at h
    cases b with
    | none => simp [optN] at h
    | some x =>
      rw [Bool.not_false, Bool.true_and, Bool.or_eq_false_iff] at h
      show (if (!inB R o && lessN o x) = true then some o else some x) = some x
      rw [show lessN o x = false from h.2, Bool.and_false]
      rfl
  · simp [h1]

theorem selBest_take {α : Type} (lt : α → α → Bool) (ok : α → Bool) (L : List α) {k : Nat} (h : k < L.length) : selBest lt ok (L.take (k + 1)) = selStep lt ok (selBest lt ok (L.take k)) L[k] := by
  unfold selBest
  rw [List.take_succ_eq_append_getElem h, List.foldl_append]
  rfl
theorem selStep_or {α : Type} (lt : α → α → Bool) (ok : α → Bool) (b : Option α) (o : α) : selStep lt ok b o = some o ∨ selStep lt ok b o = b := by
  unfold selStep
  exact (Decidable.em _).imp (fun h => if_pos h) (fun h => if_neg h)
theorem selBest_mem {α : Type} (lt : α → α → Bool) (ok : α → Bool) : ∀ (L : List α) (b : Option α) (x : α), L.foldl (selStep lt ok) b = some x → b = some x ∨ x ∈ L
  | [], b, x, h => .inl h
  | o :: L, b, x, h => by
    rw [List.foldl_cons] at h
    rcases selBest_mem lt ok L _ x h with e | e
    · rcases selStep_or lt ok b o with e2 | e2
      · rw [e2] at e
        exact .inr (by rw [← Option.some.inj e]; simp)
      · rw [e2] at e
        exact .inl e
    · exact .inr (by simp [e])

theorem selF (x : ObI) (l : List ObI) (hu : l.Pairwise fun a b => a.nm ≠ b.nm) {i : Nat} (hi : i < (remF x l).length) :
    selBest lessN (fun s => !inB ((remF x l).take i) s) ((deadR x l).map ObI.nm) = some (remF x l)[i] := by
  have hu2 : ((deadR x l).map ObI.nm).Pairwise fun a b => a ≠ b := by
    rw [List.pairwise_map]
    exact hu.filter _
  have hs := sortN_strict _ hu2
  have hu3 : (remF x l).Pairwise fun a b => a ≠ b := ((sortN_perm _).symm.pairwise_iff fun h => Ne.symm h).1 hu2
  have hp : (remF x l).Perm ((deadR x l).map ObI.nm) := sortN_perm _
  have hs' : (remF x l).Pairwise fun a b => lessN a b = true := hs
  obtain ⟨RF, hRF⟩ : ∃ q, remF x l = q := ⟨_, rfl⟩
  rw [hRF] at hp hs' hu3
  simp only [hRF] at hi ⊢
  refine sel_nth _ lessN_tr lessN_irr _ _ hp hs' i hi fun j hj => ?_
  have h := ok_take (fun s : ByteArray => s) RF hu3 [] (fun _ _ h => by cases h) i j hj
  rw [List.nil_append, List.map_id''] at h
  · rw [← h]
    cases e : inB (RF.take i) RF[j]
    · have : RF[j] ∉ RF.take i := fun h => by rw [(inB_iff _ _).2 h] at e; cases e
      simp only [this, not_false_eq_true, decide_true, Bool.not_false]
    · simp only [(inB_iff _ _).1 e, not_true_eq_false, decide_false, Bool.not_true]
  · exact fun _ => rfl
theorem mem_remF {x : ObI} {l : List ObI} {s : ByteArray} : s ∈ remF x l ↔ ∃ y ∈ deadR x l, y.nm = s := by
  unfold remF
  rw [(sortN_perm _).mem_iff, List.mem_map]
structure SoonO (x : ObI) (l S : List ObI) : Prop where
  perm : S.Perm (liveR x l)
  soon : S.Pairwise fun a b => soonI a b = true
theorem selL (x : ObI) (l S : List ObI) (hu : l.Pairwise fun a b => a.nm ≠ b.nm) (hS : SoonO x l S) {i : Nat} (hi : i < S.length) :
    selBest soonI (fun y => !inB (remF x l ++ (S.take i).map ObI.nm) y.nm) (liveR x l) = some S[i] := by
  have hu2 : (liveR x l).Pairwise fun a b => a.nm ≠ b.nm := hu.filter _
  have hu3 : S.Pairwise fun a b => a.nm ≠ b.nm := (hS.perm.symm.pairwise_iff fun h => Ne.symm h).1 hu2
  have hd : ∀ y ∈ S, y.nm ∉ remF x l := fun y hy h => by
    obtain ⟨z, hz, e⟩ := mem_remF.1 h
    have hy2 := List.mem_filter.1 (hS.perm.mem_iff.1 hy)
    have hz2 := List.mem_filter.1 hz
    obtain ⟨a, ha, rfl⟩ := List.getElem_of_mem hy2.1
    obtain ⟨b, hb, rfl⟩ := List.getElem_of_mem hz2.1
    rcases Nat.lt_trichotomy a b with h | h | h
    · exact List.pairwise_iff_getElem.1 hu a b ha hb h e.symm
    · subst h
      have h1 := hy2.2
      have h2 := hz2.2
      unfold isLive at h1
      unfold isDead at h2
      rw [Bool.and_eq_true] at h1 h2
      rw [h2.2] at h1
      exact absurd h1.2 (by decide)
    · exact List.pairwise_iff_getElem.1 hu b a hb ha h e
  refine sel_nth _ soon_tr soon_irr _ _ hS.perm hS.soon i hi fun j hj => ?_
  have h := ok_take ObI.nm S hu3 (remF x l) hd i j hj
  rw [← h]
  cases e : inB (remF x l ++ (S.take i).map ObI.nm) S[j].nm
  · have : S[j].nm ∉ remF x l ++ (S.take i).map ObI.nm := fun h => by rw [(inB_iff _ _).2 h] at e; cases e
    simp only [this, not_false_eq_true, decide_true, Bool.not_false]
  · simp only [(inB_iff _ _).1 e, not_true_eq_false, decide_false, Bool.not_true]
theorem soonO_of (x : ObI) (l ys : List ObI) (hu : l.Pairwise fun a b => a.nm ≠ b.nm) (hl : ∀ y ∈ l, y.kd = 1 ∧ 0 ≤ y.o.p.phase ∧ y.o.p.phase ≤ 3) (h : SortedO ((liveR x l).filter fun y => y.kd == 1) ys) : SoonO x l ys := by
  have hf : ((liveR x l).filter fun y => y.kd == 1) = liveR x l := List.filter_eq_self.2 fun y hy => by simp [(hl y (List.mem_filter.1 hy).1).1]
  rw [hf] at h
  have hp : ys.Perm (liveR x l) := h.perm
  refine ⟨hp, ?_⟩
  have hu2 : (liveR x l).Pairwise fun a b => a.nm ≠ b.nm := hu.filter _
  have hu3 : ys.Pairwise fun a b => a.nm ≠ b.nm := (hp.symm.pairwise_iff fun h => Ne.symm h).1 hu2
  have hph : ∀ y ∈ ys, 0 ≤ y.o.p.phase ∧ y.o.p.phase ≤ 2 := fun y hy => by
    have h1 := List.mem_filter.1 (hp.mem_iff.1 hy)
    have h2 := hl y h1.1
    have h3 : isLive x.nm y.ov = true := h1.2
    unfold isLive at h3
    rw [Bool.and_eq_true] at h3
    have h4 : ¬ y.o.p.phase = 3 := by
      have := h3.2
      intro e
      have e2 : (y.ov.phase == 3) = true := beq_iff_eq.2 e
      rw [e2] at this
      exact absurd this (by decide)
    omega
  obtain ⟨d, h1, h2, rfl⟩ := h
  rw [List.pairwise_map] at hu3 ⊢
  refine (h2.and hu3).imp_of_mem fun {a b} ha hb hab => ?_
  exact soon_of (hph a.1 (List.mem_map.2 ⟨a, ha, rfl⟩)) (hph b.1 (List.mem_map.2 ⟨b, hb, rfl⟩)) hab.2 hab.1
end Go.Proofs.YtjncoloedakpoaaDoor
