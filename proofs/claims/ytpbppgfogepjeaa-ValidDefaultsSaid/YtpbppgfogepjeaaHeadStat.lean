/- The check of a region's head, pair by pair: cheap at great regions. No condition. -/
import Derived.Test.YtpbppgfogepjeaaHeadLitM
namespace Go.Proofs.Ytpbppgfogepjeaa
open Go.ChangeShapes Go.WideShapes Go.ChangeAt Go.RowKit Go.Deep

def pairsB (ops : Array Oper) : List Oper → Nat → Bool
  | [], _ => true
  | o :: rest, k => rest.all (fun oj => oj.after.any (fun e => Region.binds .any e && e.on == k) || o.apart ops oj) && pairsB ops rest (k + 1)

theorem pairsB_spec {ops : Array Oper} : ∀ {l : List Oper} {k : Nat}, pairsB ops l k = true → ∀ (i j : Nat) (oi oj : Oper), i < j → l[i]? = some oi → l[j]? = some oj →
    (oj.after.any fun e => Region.binds .any e && e.on == k + i) = true ∨ oi.apart ops oj = true
  | [], _, _, i, j, oi, oj, _, hi, _ => by simp at hi
  | o :: rest, k, h, i, j, oi, oj, hij, hi, hj => by
    unfold pairsB at h
    simp only [Bool.and_eq_true] at h
    cases i with
    | zero =>
      obtain ⟨j, rfl⟩ : ∃ q, j = q + 1 := ⟨j - 1, by omega⟩
      simp only [List.getElem?_cons_zero, Option.some.injEq] at hi
      subst hi
      rw [List.getElem?_cons_succ] at hj
      have := List.all_eq_true.1 h.1 oj (List.mem_of_getElem? hj)
      simpa using this
    | succ i =>
      obtain ⟨j, rfl⟩ : ∃ q, j = q + 1 := ⟨j - 1, by omega⟩
      have := pairsB_spec h.2 i j oi oj (by omega) (by simpa using hi) (by simpa using hj)
      rw [show k + 1 + i = k + (i + 1) by omega] at this
      exact this

theorem getD_mix (k f j : Nat) (d : Bool) : (Array.replicate k true ++ Array.replicate f false).getD j d = if j < k then true else if j < k + f then false else d := by
  simp only [Array.getD_eq_getD_getElem?, Array.getElem?_append, Array.size_replicate, Array.getElem?_replicate]
  by_cases h1 : j < k
  · simp [h1]
  · by_cases h2 : j < k + f
    · have : j - k < f := by omega
      simp [h1, h2, this]
    · have : ¬ j - k < f := by omega
      simp [h1, h2, this]

theorem mix_set (k f : Nat) : (Array.replicate k true ++ Array.replicate (f + 1) false).setIfInBounds k true = Array.replicate (k + 1) true ++ Array.replicate f false := by
  apply Array.ext
  · simp; omega
  · intro i h1 h2
    simp only [Array.size_setIfInBounds, Array.size_append, Array.size_replicate] at h1
    rw [Array.getElem_setIfInBounds (by simpa using h1)]
    simp only [Array.getElem_append, Array.size_replicate, Array.getElem_replicate]
    by_cases e : k = i
    · subst e; simp
    · by_cases h3 : i < k
      · have : i < k + 1 := by omega
        simp [e, h3, this]
      · have : ¬ i < k + 1 := by omega
        simp [e, h3, this]

theorem lexFrom_of {ops : Array Oper} (hord : ∀ i o, ops[i]? = some o → ∀ e ∈ o.after, Region.binds .any e = true → e.on < i) (hp : pairsB ops ops.toList 0 = true) :
    ∀ (f k : Nat), k + f = ops.size → Region.lexFrom .any ops f k (Array.replicate k true ++ Array.replicate f false) = true := by
  intro f
  induction f with
  | zero =>
    intro k hk
    unfold Region.lexFrom
    rw [List.isEmpty_iff]
    refine List.eq_nil_iff_forall_not_mem.2 fun i hi => ?_
    obtain ⟨h1, o, ho, _⟩ := mem_ready.1 hi
    have := (Array.getElem?_eq_some_iff.1 ho).1
    rw [getD_mix, if_pos (by omega)] at h1
    cases h1
  | succ f ih =>
    intro k hk
    unfold Region.lexFrom
    simp only [Bool.and_eq_true]
    have hkl : k < ops.size := by omega
    have hko : ops[k]? = some ops[k] := Array.getElem?_eq_getElem hkl
    refine ⟨⟨?_, ?_⟩, ?_⟩
    · rw [List.contains_iff_mem]
      refine mem_ready.2 ⟨by rw [getD_mix, if_neg (by omega), if_pos (by omega)], ops[k], hko, fun e he hb => ?_⟩
      have := hord k _ hko e he hb
      rw [getD_mix, if_pos this]
    · unfold Region.free
      rw [hko]
      dsimp only
      rw [List.all_eq_true]
      intro j hj
      have hj := List.mem_range.1 hj
      rw [getD_mix]
      by_cases h1 : j < k
      · simp [h1]
      · by_cases h2 : j = k
        · simp [h2]
        · have hjo : ops[j]? = some ops[j] := Array.getElem?_eq_getElem hj
          rw [hjo]
          have := pairsB_spec hp k j ops[k] ops[j] (by omega) (by simp) (by simp)
          rw [Nat.zero_add] at this
          rw [if_neg h1, if_pos (by omega)]
          simpa [h2] using this
    · rw [mix_set]
      exact ih (k + 1) (by omega)

theorem lexB_of {ops : Array Oper} (hs : Region.noSelect ops = true) (hord : ∀ i o, ops[i]? = some o → ∀ e ∈ o.after, Region.binds .any e = true → e.on < i) (hp : pairsB ops ops.toList 0 = true) : Region.lexB .any ops = true := by
  unfold Region.lexB
  rw [hs, Bool.true_and]
  have := lexFrom_of hord hp ops.size 0 (by omega)
  simpa using this

def ordL : List Oper → Nat → Bool
  | [], _ => true
  | o :: rest, k => o.after.toList.all (fun e => !Region.binds .any e || decide (e.on < k)) && ordL rest (k + 1)

theorem ordL_spec : ∀ {l : List Oper} {k : Nat}, ordL l k = true → ∀ (i : Nat) (o : Oper), l[i]? = some o → ∀ e ∈ o.after, Region.binds .any e = true → e.on < k + i
  | [], _, _, i, o, hi => by simp at hi
  | o :: rest, k, h, i, o', hi => by
    unfold ordL at h
    simp only [Bool.and_eq_true] at h
    intro e he hb
    cases i with
    | zero =>
      simp only [List.getElem?_cons_zero, Option.some.injEq] at hi
      subst hi
      have := List.all_eq_true.1 h.1 e (by simpa using he)
      simp only [hb, Bool.not_true, Bool.false_or, decide_eq_true_eq] at this
      exact this
    | succ i =>
      have := ordL_spec h.2 i o' (by simpa using hi) e he hb
      omega

def sinkL (l : List Oper) : Nat → Nat → Bool
  | 0, _ => true
  | f + 1, i => (l.any fun o => o.after.any fun e => Region.binds .any e && e.on == i) && sinkL l f (i + 1)

theorem sinkL_spec {l : List Oper} : ∀ {f i : Nat}, sinkL l f i = true → ∀ k, i ≤ k → k < i + f → ∃ (j : Nat) (oj : Oper), l[j]? = some oj ∧ (oj.after.any fun e => Region.binds .any e && e.on == k) = true
  | 0, _, _, k, h1, h2 => by omega
  | f + 1, i, h, k, h1, h2 => by
    unfold sinkL at h
    simp only [Bool.and_eq_true] at h
    by_cases e : k = i
    · subst e
      obtain ⟨o, ho, hb⟩ := List.any_eq_true.1 h.1
      obtain ⟨j, hj, rfl⟩ := List.getElem_of_mem ho
      exact ⟨j, _, List.getElem?_eq_getElem hj, hb⟩
    · exact sinkL_spec h.2 k (by omega) (by omega)

def headB2 (l : List Oper) (n : Nat) : Bool :=
  decide (n < l.length) && (ordL (l.take (n + 1)) 0 && (guardB (l.take n) n && (sinkL (l.take (n + 1)) n 0 && (Region.chainB .any l.toArray n && (Region.noSelect (l.take n).toArray && (pairsB (l.take n).toArray (l.take n) 0 &&
    Region.seqB .any l.toArray (l.drop n).length n (Array.replicate n true ++ Array.replicate (l.drop n).length false)))))))

theorem headB_of {l : List Oper} {n : Nat} (h : headB2 l n = true) : headB l n = true := by
  unfold headB2 at h
  simp only [Bool.and_eq_true, decide_eq_true_eq] at h
  obtain ⟨h1, h2, h3, h4, h5, h6, h7, h8⟩ := h
  have hord := ordL_spec h2
  simp only [Nat.zero_add] at hord
  have hget : ∀ i, i < n → (l.take n).toArray[i]? = (l.take (n + 1))[i]? := fun i hi => by simp [hi, show i < n + 1 by omega]
  have hordn : ∀ i o, (l.take n).toArray[i]? = some o → ∀ e ∈ o.after, Region.binds .any e = true → e.on < i := fun i o ho => by
    have hi : i < n := by
      have := (Array.getElem?_eq_some_iff.1 ho).1
      simp at this
      omega
    exact hord i o (by rw [← hget i hi]; exact ho)
  unfold headB
  simp only [Bool.and_eq_true, decide_eq_true_eq]
  refine ⟨h1, ?_, h3, ?_, h5, lexB_of h6 hordn (by simpa using h7), h8⟩
  · unfold ordB
    refine List.all_eq_true.2 fun i hi => ?_
    cases ho : (l.take n).toArray[i]? with
    | none => rfl
    | some o =>
      dsimp only
      refine List.all_eq_true.2 fun e he => ?_
      cases hb : Region.binds .any e
      · rfl
      · simpa using hordn i o ho e (by simpa using he) hb
  · unfold Region.sinkB
    refine List.all_eq_true.2 fun i hi => ?_
    have hi := List.mem_range.1 hi
    obtain ⟨j, oj, hj, hb⟩ := sinkL_spec h4 i (by omega) (by omega)
    obtain ⟨e, he, hbe⟩ := Array.any_eq_true'.1 hb
    simp only [Bool.and_eq_true, beq_iff_eq] at hbe
    have hij := hord j oj hj e he hbe.1
    have hjn : j < n + 1 := by
      have := (List.getElem?_eq_some_iff.1 hj).1
      simp at this
      omega
    refine List.any_eq_true.2 ⟨j, List.mem_range.2 hjn, ?_⟩
    have hj2 : l.toArray[j]? = some oj := by
      have : (l.take (n + 1))[j]? = l[j]? := by simp [hjn]
      simpa [← this] using hj
    simp only [Bool.and_eq_true, decide_eq_true_eq]
    refine ⟨by omega, ?_⟩
    unfold Region.waitsFor
    rw [hj2]
    exact hb

theorem wp_region_head_lit2 {P : Program} {id : Nat} {l : List Oper} {Q : Exit → Act → World → Prop} {a : Act} {w : World} (n : Nat) (C : World → Prop) (hm : P.follows .mixedOrders = true) (hB : headB2 l n = true) (hC : C { w with drawn := w.drawn + 1 })
    (h : wpQuiet P (l.take n).toArray C (fun a' => ∀ w', C w' → wpList P l.toArray Q (l.drop n) a' w') (l.take n) a) : (Code.region id l.toArray true).wp P Q a w :=
  wp_region_head_lit n C hm (headB_of hB) hC h
end Go.Proofs.Ytpbppgfogepjeaa
