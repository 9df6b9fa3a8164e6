/- Regions phase by phase: the checks by the kernel, the walk. No condition; no program. || Append of a whole slice onto a row of the call's own, in a region that draws. No condition; no program. -/
import Derived.Test.YtoamjihchmokcaaPhase
import Derived.Test.YtoamjihchmokcaaCellsM
namespace Go.Proofs.Ytoamjihchmokcaa
open Go.ChangeShapes Go.WideShapes Go.ChangeAt Go.RowKit Go.Deep

def pairP (ops : Array Oper) (ls : List Nat) (b fuel i j : Nat) (oi oj : Oper) : Bool :=
  (match oj.dst with
   | none => true
   | some t => !memN (oi.looksAt ops) t || ((memN ls j || oi.after.any (fun e => Region.binds .any e && e.on == j)) && (!(!memN ls i && memN ls j) || reachB ops fuel j i))) &&
  ((match oi.dst with
   | none => true
   | some t => match oj.dst with
     | none => true
     | some u => Nat.beq i j || !Nat.beq t u) &&
  ((!(Nat.blt i j && (memN ls i && memN ls j)) || reachB ops fuel j i) &&
   (!((!memN ls i && memOp oi.op) && (memN ls j && Nat.ble b j)) || reachB ops fuel j i)))
def phaseB (l : List Oper) (ls : List Nat) (b lo hi fuel : Nat) : Bool :=
  ordL l 0 && (Nat.ble hi l.length && (idxAll (fun i oi => !inR lo hi i || ((!isSel oi.op && (memN ls i || oi.dst.isSome)) && idxAll (fun j oj => !inR lo hi j || pairP l.toArray ls b fuel i j oi oj) l 0)) l 0 &&
    idxAll (fun t _ => !Nat.ble hi t || idxAll (fun i _ => !inR lo hi i || reachB l.toArray fuel t i) l 0) l 0))

theorem phaseB_ok {l : List Oper} {ls : List Nat} {b lo hi fuel : Nat} (h : phaseB l ls b lo hi fuel = true) : hi ≤ l.length ∧ PhOk l.toArray ls b lo hi := by
  unfold phaseB at h
  simp only [Bool.and_eq_true] at h
  obtain ⟨h1, h0, h2, h3⟩ := h
  have hg : ∀ {i : Nat} {o : Oper}, l.toArray[i]? = some o → l[i]? = some o := fun h => by simpa using h
  have hone : ∀ (i : Nat) (o : Oper), l.toArray[i]? = some o → inR lo hi i = true → (isSel o.op = false ∧ (memN ls i = false → ∃ d, o.dst = some d)) ∧ ∀ (j : Nat) (oj : Oper), l.toArray[j]? = some oj → inR lo hi j = true → pairP l.toArray ls b fuel i j o oj = true := by
    intro i o ho hin
    have := idxAll_spec h2 i o (hg ho)
    rw [Nat.zero_add, hin] at this
    simp only [Bool.not_true, Bool.false_or, Bool.and_eq_true, Bool.or_eq_true, Bool.not_eq_true'] at this
    refine ⟨⟨this.1.1, fun hq => ?_⟩, fun j oj hj hinj => ?_⟩
    · rcases this.1.2 with h | h
      · rw [hq] at h; cases h
      · exact Option.isSome_iff_exists.1 h
    · have := idxAll_spec this.2 j oj (hg hj)
      rw [Nat.zero_add, hinj] at this
      simpa using this
  have hin : ∀ (l : List Nat) (t : Nat), memN l t = false → t ∉ l := fun l t h hh => by rw [memN_of hh] at h; cases h
  refine ⟨Nat.le_of_ble_eq_true h0, fun i o ho => ?_, fun i o ho hi => (hone i o ho hi).1.1, fun i j oi oj t hi hj hii hij hd ht => ?_, fun i j oi oj t hi hj hii hij hdi hdj => ?_, fun i j oi oj hlt hi hj hii hij hqi hqj => ⟨fuel, ?_⟩, fun i j oi oj hi hj hii hij hqi hm hq hb => ⟨fuel, ?_⟩, fun i o ho hi => (hone i o ho hi).1.2, fun t i ht hts hi his => ⟨fuel, ?_⟩⟩
  · have := ordL_spec h1 i o (hg ho)
    simpa using this
  · have := (hone i oi hi hii).2 j oj hj hij
    unfold pairP at this
    rw [hd] at this
    simp only [Bool.and_eq_true, Bool.or_eq_true, Bool.not_eq_true'] at this
    rcases this.1 with h | ⟨h, h'⟩
    · exact absurd ht (hin _ _ h)
    · refine ⟨fun hq => ?_, fun hq hq2 => ⟨fuel, ?_⟩⟩
      · rcases h with h | h
        · rw [hq] at h; cases h
        · obtain ⟨e, he, hb⟩ := Array.any_eq_true'.1 h
          simp only [Bool.and_eq_true, beq_iff_eq] at hb
          exact ⟨e, he, hb.1, hb.2⟩
      · rcases h' with h' | h'
        · rw [hq, hq2] at h'; cases h'
        · exact h'
  · have := (hone i oi hi hii).2 j oj hj hij
    unfold pairP at this
    rw [hdi, hdj] at this
    simp only [Bool.and_eq_true, Bool.or_eq_true, Bool.not_eq_true'] at this
    rcases this.2.1 with h | h
    · exact beq_true h
    · rw [Nat.beq_refl] at h; cases h
  · have := (hone i oi hi hii).2 j oj hj hij
    unfold pairP at this
    simp only [Bool.and_eq_true, Bool.or_eq_true] at this
    rcases this.2.2.1 with h | h
    · rw [hqi, hqj, show Nat.blt i j = true by simpa using hlt] at h; cases h
    · exact h
  · have := (hone i oi hi hii).2 j oj hj hij
    unfold pairP at this
    simp only [Bool.and_eq_true, Bool.or_eq_true] at this
    rcases this.2.2.2 with h | h
    · rw [hqi, hm, hq, show Nat.ble b j = true by simpa using hb] at h; cases h
    · exact h
  · obtain ⟨ot, hot⟩ : ∃ o, l[t]? = some o := ⟨_, List.getElem?_eq_getElem (by simpa using hts)⟩
    obtain ⟨oi, hoi⟩ : ∃ o, l[i]? = some o := ⟨_, List.getElem?_eq_getElem (by simpa using his)⟩
    have := idxAll_spec h3 t ot hot
    rw [Nat.zero_add, Nat.ble_eq_true_of_le ht] at this
    simp only [Bool.not_true, Bool.false_or] at this
    have := idxAll_spec this i oi hoi
    rw [Nat.zero_add, hi] at this
    simpa using this

def quietR (ls : List Nat) (lo hi : Nat) : List Oper → Nat → List Oper
  | [], _ => []
  | o :: r, k => match inR lo hi k && !memN ls k with
    | true => o :: quietR ls lo hi r (k + 1)
    | false => quietR ls lo hi r (k + 1)
theorem quietR_spec {ls : List Nat} {lo hi : Nat} {o : Oper} : ∀ {l : List Oper} {k : Nat}, o ∈ quietR ls lo hi l k ↔ ∃ i, l[i]? = some o ∧ (inR lo hi (k + i) && !memN ls (k + i)) = true
  | [], k => by simp [quietR]
  | x :: r, k => by
    have ih := quietR_spec (ls := ls) (lo := lo) (hi := hi) (o := o) (l := r) (k := k + 1)
    have key : (∃ i, (x :: r)[i]? = some o ∧ (inR lo hi (k + i) && !memN ls (k + i)) = true) ↔ (x = o ∧ (inR lo hi k && !memN ls k) = true) ∨ ∃ i, r[i]? = some o ∧ (inR lo hi (k + 1 + i) && !memN ls (k + 1 + i)) = true := by
      constructor
      · rintro ⟨i, h1, h2⟩
        cases i with
        | zero => exact .inl ⟨Option.some.inj h1, h2⟩
        | succ i => exact .inr ⟨i, by simpa using h1, by rwa [show k + 1 + i = k + (i + 1) by omega]⟩
      · rintro (⟨rfl, h2⟩ | ⟨i, h1, h2⟩)
        · exact ⟨0, rfl, h2⟩
        · exact ⟨i + 1, by simpa using h1, by rwa [show k + (i + 1) = k + 1 + i by omega]⟩
    rw [key, ← ih]
    have e : quietR ls lo hi (x :: r) k = match inR lo hi k && !memN ls k with | true => x :: quietR ls lo hi r (k + 1) | false => quietR ls lo hi r (k + 1) := rfl
    rw [e]
    cases h : (inR lo hi k && !memN ls k)
    · simp
    · simp [eq_comm]

def Later (P : Program) (l : List Oper) (Q : Exit → Act → World → Prop) (hi : Nat) (a : Act) (w : World) : Prop :=
  ∀ D : Array Bool, D.size = l.length → (∀ i, i < l.length → D.getD i false = decide (i < hi)) → wpAny P .any l.toArray Q (l.length - hi) D a w

section
variable {P : Program} {l : List Oper} {Q : Exit → Act → World → Prop} {a : Act} {w : World} {C : World → Prop} {b : Nat} {R : Act → World → Prop}
theorem region_later {id : Nat} (hmx : P.follows .mixedOrders = true) (h : Later P l Q 0 a { w with drawn := w.drawn + 1 }) : (Code.region id l.toArray true).wp P Q a w := by
  refine wp_region_any hmx ?_
  have := h (Array.replicate l.length false) (by simp) (fun i hi => by rw [getD_replicate_false]; simp)
  simpa using this
theorem later_end (hi : Nat) (hhi : l.length = hi) (h : Q .normal a w) : Later P l Q hi a w := by
  intro D hD hl
  rw [hhi, Nat.sub_self]
  refine ⟨List.eq_nil_iff_forall_not_mem.2 fun j hj => ?_, h⟩
  obtain ⟨h1, o, ho, _⟩ := mem_ready.1 hj
  have hlt : j < l.length := by have := (Array.getElem?_eq_some_iff.1 ho).1; simpa using this
  have h1 := getD_both h1
  rw [hl j hlt, decide_eq_true (by omega)] at h1
  cases h1

def rangeB (ls : List Nat) (lo hi n : Nat) : Bool := ls.all fun j => inR lo hi j && Nat.blt j n
def riseB : List Nat → Bool
  | x :: y :: r => Nat.blt x y && riseB (y :: r)
  | _ => true
theorem riseB_ok : ∀ {l : List Nat}, riseB l = true → l.Pairwise (· < ·)
  | [], _ => List.Pairwise.nil
  | [x], _ => List.pairwise_singleton _ _
  | x :: y :: r, h => by
    unfold riseB at h
    rw [Bool.and_eq_true, Nat.blt_eq] at h
    have ih := riseB_ok h.2
    refine List.pairwise_cons.2 ⟨fun z hz => ?_, ih⟩
    rcases List.mem_cons.1 hz with rfl | hz
    · exact h.1
    · exact Nat.lt_trans h.1 ((List.pairwise_cons.1 ih).1 z hz)

theorem later_phase (C : World → Prop) (ls : List Nat) (b lo hi fuel : Nat) (hB : (phaseB l ls b lo hi fuel && (lateB l.toArray (quietR ls lo hi l 0) && (rangeB ls lo hi l.length && (riseB ls && Nat.ble lo hi)))) = true) (hd : dstLt a.tmps.size (quietR ls lo hi l 0) = true) (hC : C w)
    (h : wpVal P l.toArray C (fun A => wpLoud P l.toArray C b (fun a' w' => Later P l Q hi a' w') ls A w) (quietR ls lo hi l 0) a) : Later P l Q lo a w := by
  simp only [Bool.and_eq_true] at hB
  obtain ⟨hB, hL, hrg, hrs, hlh⟩ := hB
  have hlh := Nat.le_of_ble_eq_true hlh
  obtain ⟨hhi, M⟩ := phaseB_ok hB
  intro D hD hl
  obtain ⟨A, hw, i2, i3, i4, i5⟩ := wpVal_vals (quietR ls lo hi l 0) a _ rfl (fun o ho d hdd => by
    have := List.all_eq_true.1 hd o ho
    rw [hdd] at this
    exact Nat.blt_eq ▸ this) h hL
  have hcnt : ∀ n, lo ≤ n → n ≤ l.length → (List.range n).countP (fun i => inR lo hi i && !D.getD i false) = min n hi - lo := by
    intro n
    induction n with
    | zero => intro h1 _; simp
    | succ n ih =>
      intro h1 h2
      rw [List.range_succ, List.countP_append, List.countP_singleton]
      by_cases hn : lo ≤ n
      · rw [ih hn (by omega)]
        by_cases hnh : n < hi
        · rw [if_pos (by rw [inR_iff.2 ⟨hn, hnh⟩, hl n (by omega), decide_eq_false (by omega)]; rfl)]
          omega
        · rw [if_neg (by
            have : inR lo hi n = false := by
              cases hx : inR lo hi n
              · rfl
              · exact absurd (inR_iff.1 hx).2 hnh
            rw [this]; simp)]
          omega
      · have hz : (List.range n).countP (fun i => inR lo hi i && !D.getD i false) = 0 := by
          refine List.countP_eq_zero.2 fun i hi' => ?_
          have hi' := List.mem_range.1 hi'
          have : inR lo hi i = false := by
            cases hx : inR lo hi i
            · rfl
            · have := (inR_iff.1 hx).1; omega
          simp [this]
        have hf : inR lo hi n = false := by
          cases hx : inR lo hi n
          · rfl
          · exact absurd (inR_iff.1 hx).1 hn
        rw [hz, if_neg (by rw [hf]; simp)]
        omega
  have hfuel : l.length - lo = (hi - lo) + (l.toArray.size - hi) := by
    simp only [List.size_toArray]
    omega
  rw [hfuel]
  refine pmid_any (C := C) (b := b) (R := fun a' w' => Later P l Q hi a' w') (V := fun i => match (l.toArray[i]?).bind (·.dst) with | some d => A.tmps.getD d undef | none => undef) M
    (fun D' a' w' h1 h2 h3 => by simpa using h3 D' (by simpa using h1) (by simpa using h2)) _ D a A w ls ?_ ?_
  · have hmem : ∀ j, memN ls j = true ↔ j ∈ ls := fun j => ⟨fun h => memN_mem h, memN_of⟩
    refine ⟨by simpa using hD, fun i o ho hdi e he hb => ?_, fun i h1 h2 => ?_, fun i h1 => ?_, riseB_ok hrs, fun j => ?_, i2.symm, i3.symm, fun s hs => ?_, fun i o ho hin hq _ => ?_, fun _ => hC, hw⟩
    · have hlt : i < l.length := by have := (Array.getElem?_eq_some_iff.1 ho).1; simpa using this
      rw [hl i hlt, decide_eq_true_iff] at hdi
      have := M.ord i o ho e he hb
      rw [hl _ (by omega), decide_eq_true (by omega)]
    · rw [hl i (by simpa using h1), decide_eq_true h2]
    · rcases Nat.lt_or_ge i l.length with h2 | h2
      · rw [hl i h2, decide_eq_false (by omega)]
      · rw [Array.getD_eq_getD_getElem?, Array.getElem?_eq_none (by omega)]
        rfl
    · constructor
      · intro hj
        have := List.all_eq_true.1 hrg j hj
        simp only [Bool.and_eq_true, Nat.blt_eq] at this
        refine ⟨l[j]'this.2, by simp, this.1, (hmem j).2 hj, ?_⟩
        rw [hl j this.2, decide_eq_false (by have := (inR_iff.1 this.1).1; omega)]
      · rintro ⟨o, _, _, h3, _⟩
        exact (hmem j).1 h3
    · refine (i4 s fun hh => ?_).symm
      unfold dstsOf at hh
      obtain ⟨o, ho, hd⟩ := List.mem_filterMap.1 hh
      obtain ⟨i, h1, h2⟩ := quietR_spec.1 ho
      rw [Nat.zero_add, Bool.and_eq_true, Bool.not_eq_true'] at h2
      have := hs i o (by simpa using h1) h2.1 h2.2 hd
      have hlt : i < l.length := (List.getElem?_eq_some_iff.1 h1).1
      rw [hl i hlt, decide_eq_true_iff] at this
      have := (inR_iff.1 h2.1).1
      omega
    · obtain ⟨d, v, hd, hv, hy⟩ := i5 o (quietR_spec.2 ⟨i, by simpa using ho, by rw [Nat.zero_add, hin, hq]; rfl⟩)
      refine ⟨d, hd, ?_, ?_⟩
      · rw [ho]
        simp only [Option.bind_some, hd, Array.getD_eq_getD_getElem?, hv, Option.getD_some]
      · rw [ho]
        simp only [Option.bind_some, hd, Array.getD_eq_getD_getElem?, hv, Option.getD_some]
        exact hy
  · have := hcnt l.length (by omega) (Nat.le_refl _)
    rw [Nat.min_eq_right hhi] at this
    simpa using this

theorem wpVal_takeR {ls : List Nat} {lo hi : Nat} {ops : Array Oper} {Q : Act → Prop} {k : Nat} {o : Oper} {r : List Oper} (hq : (inR lo hi k && !memN ls k) = true) (h : wpVal P ops C Q (o :: quietR ls lo hi r (k + 1)) a) : wpVal P ops C Q (quietR ls lo hi (o :: r) k) a := by
  unfold quietR
  rw [hq]
  exact h
theorem wpVal_skipR {ls : List Nat} {lo hi : Nat} {ops : Array Oper} {Q : Act → Prop} {k : Nat} {o : Oper} {r : List Oper} (hq : (inR lo hi k && !memN ls k) = false) (h : wpVal P ops C Q (quietR ls lo hi r (k + 1)) a) : wpVal P ops C Q (quietR ls lo hi (o :: r) k) a := by
  unfold quietR
  rw [hq]
  exact h
theorem wpVal_endR {ls : List Nat} {lo hi : Nat} {ops : Array Oper} {Q : Act → Prop} {k : Nat} (h : Q a) : wpVal P ops C Q (quietR ls lo hi [] k) a := h

theorem wpVal_mem {ops : Array Oper} {Q : Act → Prop} {o : Oper} {rest : List Oper} (hg : o.guard = none) (hm : memOp o.op = true) (h : ∀ K : Act → Prop, (∀ a, wpVal P ops C Q rest a → K a) → ∃ v, (∀ w, C w → (execOp a.eval o).run P w = .ok (.value v) w) ∧ K (a.put o.dst v)) : wpVal P ops C Q (o :: rest) a := by
  obtain ⟨v, h1, h2⟩ := h _ (fun _ h => h)
  refine ⟨v, ?_, h2⟩
  rw [if_pos (by simp [Region.wanted, hg])]
  exact fun w hw => h1 w (hw hm)
end
end Go.Proofs.Ytoamjihchmokcaa
namespace Go.Proofs.Ytoamjihchmokcaa
open Go.ChangeShapes Go.WideShapes Go.ChangeAt Go.RowKit Go.Deep

end Go.Proofs.Ytoamjihchmokcaa
