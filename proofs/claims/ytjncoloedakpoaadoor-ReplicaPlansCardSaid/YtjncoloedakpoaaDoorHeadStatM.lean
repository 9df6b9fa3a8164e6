/- A region that draws: its first operations quiet in a class of worlds, in the order of the text; the last ones behind them. No condition. || The like for operations that are written out; a class of worlds: what was there stays. No condition. || The check of a region's head, pair by pair: cheap at great regions. No condition. -/
import Derived.Test.YtjncoloedakpoaaDoorHeadM
namespace Go.Proofs.YtjncoloedakpoaaDoor
open Go.ChangeShapes Go.WideShapes Go.ChangeAt Go.RowKit Go.Deep

theorem wp_region_head {P : Program} {id : Nat} {ops opsH : Array Oper} {t : List Oper} {Q : Exit → Act → World → Prop} {a : Act} {w : World} (C : World → Prop) (hm : P.follows .mixedOrders = true) (H : HeadOf .any ops opsH) (hB : Region.lexB .any opsH = true)
    (ht : ∀ j, t[j]? = ops[opsH.size + j]?) (hlen : ops.size = opsH.size + t.length)
    (hseq : Region.seqB .any ops t.length opsH.size (Array.replicate opsH.size true ++ Array.replicate t.length false) = true) (hC : C { w with drawn := w.drawn + 1 })
    (h : wpQuiet P opsH C (fun a' => ∀ w', C w' → wpList P ops Q t a' w') opsH.toList a) : (Code.region id ops true).wp P Q a w := by
  simp only [Region.lexB, Bool.and_eq_true] at hB
  refine wp_region_any hm ?_
  have hq := wpAnyQ_lex (C := C) (md := .any) hB.1 opsH.toList 0 (Array.replicate opsH.size false) a (by simp) (by simpa using hB.2) h
  have h1 := wpAny_of_quiet (Q' := CutPost (fun a' w' => wpList P ops Q t a' w') Q) (fun _ w' hw' h => h w' hw') _ _ _ _ hC hq
  have h2 := wpAny_head (Q := Q) (R := fun a' w' => wpList P ops Q t a' w') H t.length (fun L a' w' hE hR => by
    have e : L = Array.replicate opsH.size true ++ Array.replicate t.length false := by
      obtain ⟨s1, _, s3, s4⟩ := hE
      apply Array.ext
      · simp [s1, hlen]
      · intro i hi hj
        rw [Array.getElem_append]
        split
        · rename_i hlt
          have hlt' : i < opsH.size := by simpa using hlt
          have := s3 i hlt'
          simp [hi, hlt'] at this ⊢
          exact this
        · rename_i hge
          have hge' : opsH.size ≤ i := by simpa using hge
          have := s4 i hge' (by omega)
          simp [hi] at this ⊢
          exact this
    subst e
    exact wpAny_of_seq t opsH.size _ a' w' ht hseq hR) opsH.toList.length (Array.replicate opsH.size false) (Array.replicate ops.size false) a _
    ⟨by simp, by simp, fun i _ => by rw [getD_replicate_false, getD_replicate_false], fun i _ hi => getD_in (by simpa using hi) (getD_replicate_false _ _)⟩
    ⟨by simp, fun j oj _ hl => (by rw [getD_replicate_false] at hl; cases hl), fun t _ ht => getD_in (by simpa using ht) (getD_replicate_false _ _)⟩
    (by
      rw [List.countP_eq_length.2 (fun i _ => by rw [getD_replicate_false]; rfl)]
      simp) h1
  rw [hlen]
  rw [hlen] at h2
  simpa using h2

end Go.Proofs.YtjncoloedakpoaaDoor
namespace Go.Proofs.YtjncoloedakpoaaDoor
open Go.ChangeShapes Go.WideShapes Go.ChangeAt Go.RowKit Go.Deep

theorem ordLit_of {ops : Array Oper} (h : ((List.range ops.size).all fun i => match ops[i]? with | some o => o.after.toList.all (fun e => !Region.binds .any e || decide (e.on < i)) | none => true) = true) :
    ∀ i o, ops[i]? = some o → ∀ e ∈ o.after, Region.binds .any e = true → e.on < i := by
  intro i o ho e he hb
  have hi : i < ops.size := (Array.getElem?_eq_some_iff.1 ho).1
  have := List.all_eq_true.1 h i (List.mem_range.2 hi)
  simp only [ho] at this
  have := List.all_eq_true.1 this e (by simpa using he)
  simp only [hb, Bool.not_true, Bool.false_or, decide_eq_true_eq] at this
  exact this

def guardB (l : List Oper) (n : Nat) : Bool := l.all fun o => match o.guard with | some (g, _) => decide (g < n) | none => true
def ordB (ops : Array Oper) : Bool := (List.range ops.size).all fun i => match ops[i]? with | some o => o.after.toList.all (fun e => !Region.binds .any e || decide (e.on < i)) | none => true
def headB (l : List Oper) (n : Nat) : Bool :=
  decide (n < l.length) && (ordB (l.take n).toArray && (guardB (l.take n) n && (Region.sinkB .any l.toArray n && (Region.chainB .any l.toArray n && (Region.lexB .any (l.take n).toArray &&
    Region.seqB .any l.toArray (l.drop n).length n (Array.replicate n true ++ Array.replicate (l.drop n).length false))))))

theorem wanted_same {ops opsH : Array Oper} {o : Oper} {n : Nat} (hs : ∀ i, i < n → ops[i]? = opsH[i]?) (hg : (match o.guard with | some (g, _) => decide (g < n) | none => true) = true) (tmps : Array Value) :
    Region.wanted o (yielded ops tmps) = Region.wanted o (yielded opsH tmps) := by
  unfold Region.wanted
  cases hq : o.guard with
  | none => rfl
  | some p =>
    obtain ⟨g, b⟩ := p
    rw [hq] at hg
    have := hs g (by simpa using hg)
    simp only [yielded, this]

theorem wp_region_head_lit {P : Program} {id : Nat} {l : List Oper} {Q : Exit → Act → World → Prop} {a : Act} {w : World} (n : Nat) (C : World → Prop) (hm : P.follows .mixedOrders = true) (hB : headB l n = true) (hC : C { w with drawn := w.drawn + 1 })
    (h : wpQuiet P (l.take n).toArray C (fun a' => ∀ w', C w' → wpList P l.toArray Q (l.drop n) a' w') (l.take n) a) : (Code.region id l.toArray true).wp P Q a w := by
  simp only [headB, Bool.and_eq_true, decide_eq_true_eq] at hB
  obtain ⟨h1, h2, h3, h4, h5, h6, h7⟩ := hB
  have hsz : (l.take n).toArray.size = n := by simp; omega
  have hsame : ∀ i, i < n → l.toArray[i]? = (l.take n).toArray[i]? := fun i hi => by simp [hi]
  refine wp_region_head (opsH := (l.take n).toArray) (t := l.drop n) C hm ⟨by rw [hsz]; simpa using h1, fun i hi => hsame i (by omega), ordLit_of h2, fun i o tmps ho => wanted_same hsame ?_ tmps, by rw [hsz]; exact h4, by rw [hsz]; exact h5⟩ h6 ?_ ?_ ?_ hC (by simpa using h)
  · exact List.all_eq_true.1 h3 o (by
      have := (Array.getElem?_eq_some_iff.1 ho)
      obtain ⟨hlt, rfl⟩ := this
      simpa using Array.getElem_mem hlt)
  · intro j
    rw [hsz]
    simp
  · rw [hsz]; simp; omega
  · rw [hsz]; exact h7

structure BW (w : World) where
  w' : World
  h : Below w.heap.size w w'
theorem BW.cell {w : World} {p : Addr} {v : Value} (h : w.cell? p = some v) (b : BW w) : b.w'.cell? p = some v := Below.cell_some b.h h
theorem BW.call {P : Program} {f : FuncId} {args : Array Value} {w : World} {v : Value} (b : BW w) (h : Calls P f args b.w' fun e w' => e = .returned v ∧ Below b.w'.heap.size b.w' w') : Calls P f args b.w' fun e w' => e = .returned v ∧ ∃ q : BW w, w' = q.w' :=
  h.mono fun _ w' ⟨he, hb⟩ => ⟨he, ⟨w', b.h.trans (hb.mono b.h.size)⟩, rfl⟩
end Go.Proofs.YtjncoloedakpoaaDoor
namespace Go.Proofs.YtjncoloedakpoaaDoor
open Go.ChangeShapes Go.WideShapes Go.ChangeAt Go.RowKit Go.Deep

def pairsB (ops : Array Oper) : List Oper → Nat → Bool
  | [], _ => true
  | o :: rest, k => rest.all (fun oj => oj.after.any (fun e => Region.binds .any e && e.on == k) || o.apart ops oj) && pairsB ops rest (k + 1)

theorem pairsB_spec {ops : Array Oper} : ∀ {l : List Oper} {k : Nat}, pairsB ops l k = true → ∀ (i j : Nat) (oi oj : Oper), i < j → l[i]? = some oi → l[j]? = some oj →
    (oj.after.any fun e => Region.binds .any e && e.on == k + i) = true ∨ oi.apart ops oj = true
  | [], _, _, i, j, oi, oj, _, hi, _ => by simp at hi
  | o :: rest, k, h, i, j, oi, oj, hij, hi, hj => by
    unfold pairsB at h
    simp only [Bool.and_eq_true] at h
    cases i with
    | zero =>
      obtain ⟨j, rfl⟩ : ∃ q, j = q + 1 := ⟨j - 1, by omega⟩
      simp only [List.getElem?_cons_zero, Option.some.injEq] at hi
      subst hi
      rw [List.getElem?_cons_succ] at hj
      have := List.all_eq_true.1 h.1 oj (List.mem_of_getElem? hj)
      simpa using this
    | succ i =>
      obtain ⟨j, rfl⟩ : ∃ q, j = q + 1 := ⟨j - 1, by omega⟩
      have := pairsB_spec h.2 i j oi oj (by omega) (by simpa using hi) (by simpa using hj)
      rw [show k + 1 + i = k + (i + 1) by omega] at this
      exact this

theorem getD_mix (k f j : Nat) (d : Bool) : (Array.replicate k true ++ Array.replicate f false).getD j d = if j < k then true else if j < k + f then false else d := by
  simp only [Array.getD_eq_getD_getElem?, Array.getElem?_append, Array.size_replicate, Array.getElem?_replicate]
  by_cases h1 : j < k
  · simp [h1]
  · by_cases h2 : j < k + f
    · have : j - k < f := by omega
      simp [h1, h2, this]
    · have : ¬ j - k < f := by omega
      simp [h1, h2, this]

theorem mix_set (k f : Nat) : (Array.replicate k true ++ Array.replicate (f + 1) false).setIfInBounds k true = Array.replicate (k + 1) true ++ Array.replicate f false := by
  apply Array.ext
  · simp; omega
  · intro i h1 h2
    simp only [Array.size_setIfInBounds, Array.size_append, Array.size_replicate] at h1
    rw [Array.getElem_setIfInBounds (by simpa using h1)]
    simp only [Array.getElem_append, Array.size_replicate, Array.getElem_replicate]
    by_cases e : k = i
    · subst e; simp
    · by_cases h3 : i < k
      · have : i < k + 1 := by omega
        simp [e, h3, this]
      · have : ¬ i < k + 1 := by omega
        simp [e, h3, this]

theorem lexFrom_of {ops : Array Oper} (hord : ∀ i o, ops[i]? = some o → ∀ e ∈ o.after, Region.binds .any e = true → e.on < i) (hp : pairsB ops ops.toList 0 = true) :
    ∀ (f k : Nat), k + f = ops.size → Region.lexFrom .any ops f k (Array.replicate k true ++ Array.replicate f false) = true := by
  intro f
  induction f with
  | zero =>
    intro k hk
    unfold Region.lexFrom
    rw [List.isEmpty_iff]
    refine List.eq_nil_iff_forall_not_mem.2 fun i hi => ?_
    obtain ⟨h1, o, ho, _⟩ := mem_ready.1 hi
    have := (Array.getElem?_eq_some_iff.1 ho).1
    rw [getD_mix, if_pos (by omega)] at h1
    cases h1
  | succ f ih =>
    intro k hk
    unfold Region.lexFrom
    simp only [Bool.and_eq_true]
    have hkl : k < ops.size := by omega
    have hko : ops[k]? = some ops[k] := Array.getElem?_eq_getElem hkl
    refine ⟨⟨?_, ?_⟩, ?_⟩
    · rw [List.contains_iff_mem]
      refine mem_ready.2 ⟨by rw [getD_mix, if_neg (by omega), if_pos (by omega)], ops[k], hko, fun e he hb => ?_⟩
      have := hord k _ hko e he hb
      rw [getD_mix, if_pos this]
    · unfold Region.free
      rw [hko]
      dsimp only
      rw [List.all_eq_true]
      intro j hj
      have hj := List.mem_range.1 hj
      rw [getD_mix]
      by_cases h1 : j < k
      · simp [h1]
      · by_cases h2 : j = k
        · simp [h2]
        · have hjo : ops[j]? = some ops[j] := Array.getElem?_eq_getElem hj
          rw [hjo]
          have := pairsB_spec hp k j ops[k] ops[j] (by omega) (by simp) (by simp)
          rw [Nat.zero_add] at this
          rw [if_neg h1, if_pos (by omega)]
          simpa [h2] using this
    · rw [mix_set]
      exact ih (k + 1) (by omega)

theorem lexB_of {ops : Array Oper} (hs : Region.noSelect ops = true) (hord : ∀ i o, ops[i]? = some o → ∀ e ∈ o.after, Region.binds .any e = true → e.on < i) (hp : pairsB ops ops.toList 0 = true) : Region.lexB .any ops = true := by
  unfold Region.lexB
  rw [hs, Bool.true_and]
  have := lexFrom_of hord hp ops.size 0 (by omega)
  simpa using this

def ordL : List Oper → Nat → Bool
  | [], _ => true
  | o :: rest, k => o.after.toList.all (fun e => !Region.binds .any e || decide (e.on < k)) && ordL rest (k + 1)

theorem ordL_spec : ∀ {l : List Oper} {k : Nat}, ordL l k = true → ∀ (i : Nat) (o : Oper), l[i]? = some o → ∀ e ∈ o.after, Region.binds .any e = true → e.on < k + i
  | [], _, _, i, o, hi => by simp at hi
  | o :: rest, k, h, i, o', hi => by
    unfold ordL at h
    simp only [Bool.and_eq_true] at h
    intro e he hb
    cases i with
    | zero =>
      simp only [List.getElem?_cons_zero, Option.some.injEq] at hi
      subst hi
      have := List.all_eq_true.1 h.1 e (by simpa using he)
      simp only [hb, Bool.not_true, Bool.false_or, decide_eq_true_eq] at this
      exact this
    | succ i =>
      have := ordL_spec h.2 i o' (by simpa using hi) e he hb
      omega

end Go.Proofs.YtjncoloedakpoaaDoor
