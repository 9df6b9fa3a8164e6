/- Regions phase by phase: the checks by the kernel, the walk. No condition; no program. || The contracts of room's add, less, Left, May, Fits, Put and Take. Condition: the numbers don't pass the greatest one; the node's and the pod's rows read. || The contracts of room's Fits, Put and Take. Condition: the numbers don't pass the greatest one; the node's and the pod's rows read. -/
import Derived.Test.YtpbppgfogepjeaaPhaseM
import Derived.Test.YtpbppgfogepjeaaRefLabelM
import Derived.Test.YtpbppgfogepjeaaLabM
namespace Go.Proofs.Ytpbppgfogepjeaa
open Go.ChangeShapes Go.WideShapes Go.ChangeAt Go.RowKit Go.Deep

def pairP (ops : Array Oper) (ls : List Nat) (b fuel i j : Nat) (oi oj : Oper) : Bool :=
  (match oj.dst with
   | none => true
   | some t => !memN (oi.looksAt ops) t || ((memN ls j || oi.after.any (fun e => Region.binds .any e && e.on == j)) && (!(!memN ls i && memN ls j) || reachB ops fuel j i))) &&
  ((match oi.dst with
   | none => true
   | some t => match oj.dst with
     | none => true
     | some u => Nat.beq i j || !Nat.beq t u) &&
  ((!(Nat.blt i j && (memN ls i && memN ls j)) || reachB ops fuel j i) &&
   (!((!memN ls i && memOp oi.op) && (memN ls j && Nat.ble b j)) || reachB ops fuel j i)))
def phaseB (l : List Oper) (ls : List Nat) (b lo hi fuel : Nat) : Bool :=
  ordL l 0 && (Nat.ble hi l.length && (idxAll (fun i oi => !inR lo hi i || ((!isSel oi.op && (memN ls i || oi.dst.isSome)) && idxAll (fun j oj => !inR lo hi j || pairP l.toArray ls b fuel i j oi oj) l 0)) l 0 &&
    idxAll (fun t _ => !Nat.ble hi t || idxAll (fun i _ => !inR lo hi i || reachB l.toArray fuel t i) l 0) l 0))

theorem phaseB_ok {l : List Oper} {ls : List Nat} {b lo hi fuel : Nat} (h : phaseB l ls b lo hi fuel = true) : hi ≤ l.length ∧ PhOk l.toArray ls b lo hi := by
  unfold phaseB at h
  simp only [Bool.and_eq_true] at h
  obtain ⟨h1, h0, h2, h3⟩ := h
  have hg : ∀ {i : Nat} {o : Oper}, l.toArray[i]? = some o → l[i]? = some o := fun h => by simpa using h
  have hone : ∀ (i : Nat) (o : Oper), l.toArray[i]? = some o → inR lo hi i = true → (isSel o.op = false ∧ (memN ls i = false → ∃ d, o.dst = some d)) ∧ ∀ (j : Nat) (oj : Oper), l.toArray[j]? = some oj → inR lo hi j = true → pairP l.toArray ls b fuel i j o oj = true := by
    intro i o ho hin
    have := idxAll_spec h2 i o (hg ho)
    rw [Nat.zero_add, hin] at this
    simp only [Bool.not_true, Bool.false_or, Bool.and_eq_true, Bool.or_eq_true, Bool.not_eq_true'] at this
    refine ⟨⟨this.1.1, fun hq => ?_⟩, fun j oj hj hinj => ?_⟩
    · rcases this.1.2 with h | h
      · rw [hq] at h; cases h
      · exact Option.isSome_iff_exists.1 h
    · have := idxAll_spec this.2 j oj (hg hj)
      rw [Nat.zero_add, hinj] at this
      simpa using this
  have hin : ∀ (l : List Nat) (t : Nat), memN l t = false → t ∉ l := fun l t h hh => by rw [memN_of hh] at h; cases h
  refine ⟨Nat.le_of_ble_eq_true h0, fun i o ho => ?_, fun i o ho hi => (hone i o ho hi).1.1, fun i j oi oj t hi hj hii hij hd ht => ?_, fun i j oi oj t hi hj hii hij hdi hdj => ?_, fun i j oi oj hlt hi hj hii hij hqi hqj => ⟨fuel, ?_⟩, fun i j oi oj hi hj hii hij hqi hm hq hb => ⟨fuel, ?_⟩, fun i o ho hi => (hone i o ho hi).1.2, fun t i ht hts hi his => ⟨fuel, ?_⟩⟩
  · have := ordL_spec h1 i o (hg ho)
    simpa using this
  · have := (hone i oi hi hii).2 j oj hj hij
    unfold pairP at this
    rw [hd] at this
    simp only [Bool.and_eq_true, Bool.or_eq_true, Bool.not_eq_true'] at this
    rcases this.1 with h | ⟨h, h'⟩
    · exact absurd ht (hin _ _ h)
    · refine ⟨fun hq => ?_, fun hq hq2 => ⟨fuel, ?_⟩⟩
      · rcases h with h | h
        · rw [hq] at h; cases h
        · obtain ⟨e, he, hb⟩ := Array.any_eq_true'.1 h
          simp only [Bool.and_eq_true, beq_iff_eq] at hb
          exact ⟨e, he, hb.1, hb.2⟩
      · rcases h' with h' | h'
        · rw [hq, hq2] at h'; cases h'
        · exact h'
  · have := (hone i oi hi hii).2 j oj hj hij
    unfold pairP at this
    rw [hdi, hdj] at this
    simp only [Bool.and_eq_true, Bool.or_eq_true, Bool.not_eq_true'] at this
    rcases this.2.1 with h | h
    · exact beq_true h
    · rw [Nat.beq_refl] at h; cases h
  · have := (hone i oi hi hii).2 j oj hj hij
    unfold pairP at this
    simp only [Bool.and_eq_true, Bool.or_eq_true] at this
    rcases this.2.2.1 with h | h
    · rw [hqi, hqj, show Nat.blt i j = true by simpa using hlt] at h; cases h
    · exact h
  · have := (hone i oi hi hii).2 j oj hj hij
    unfold pairP at this
    simp only [Bool.and_eq_true, Bool.or_eq_true] at this
    rcases this.2.2.2 with h | h
    · rw [hqi, hm, hq, show Nat.ble b j = true by simpa using hb] at h; cases h
    · exact h
  · obtain ⟨ot, hot⟩ : ∃ o, l[t]? = some o := ⟨_, List.getElem?_eq_getElem (by simpa using hts)⟩
    obtain ⟨oi, hoi⟩ : ∃ o, l[i]? = some o := ⟨_, List.getElem?_eq_getElem (by simpa using his)⟩
    have := idxAll_spec h3 t ot hot
    rw [Nat.zero_add, Nat.ble_eq_true_of_le ht] at this
    simp only [Bool.not_true, Bool.false_or] at this
    have := idxAll_spec this i oi hoi
    rw [Nat.zero_add, hi] at this
    simpa using this

/-- The computing operations of a phase. -/
def quietR (ls : List Nat) (lo hi : Nat) : List Oper → Nat → List Oper
  | [], _ => []
  | o :: r, k => match inR lo hi k && !memN ls k with
    | true => o :: quietR ls lo hi r (k + 1)
    | false => quietR ls lo hi r (k + 1)
theorem quietR_spec {ls : List Nat} {lo hi : Nat} {o : Oper} : ∀ {l : List Oper} {k : Nat}, o ∈ quietR ls lo hi l k ↔ ∃ i, l[i]? = some o ∧ (inR lo hi (k + i) && !memN ls (k + i)) = true
  | [], k => by simp [quietR]
  | x :: r, k => by
    have ih := quietR_spec (ls := ls) (lo := lo) (hi := hi) (o := o) (l := r) (k := k + 1)
    have key : (∃ i, (x :: r)[i]? = some o ∧ (inR lo hi (k + i) && !memN ls (k + i)) = true) ↔ (x = o ∧ (inR lo hi k && !memN ls k) = true) ∨ ∃ i, r[i]? = some o ∧ (inR lo hi (k + 1 + i) && !memN ls (k + 1 + i)) = true := by
      constructor
      · rintro ⟨i, h1, h2⟩
        cases i with
        | zero => exact .inl ⟨Option.some.inj h1, h2⟩
        | succ i => exact .inr ⟨i, by simpa using h1, by rwa [show k + 1 + i = k + (i + 1) by omega]⟩
      · rintro (⟨rfl, h2⟩ | ⟨i, h1, h2⟩)
        · exact ⟨0, rfl, h2⟩
        · exact ⟨i + 1, by simpa using h1, by rwa [show k + (i + 1) = k + 1 + i by omega]⟩
    rw [key, ← ih]
    have e : quietR ls lo hi (x :: r) k = match inR lo hi k && !memN ls k with | true => x :: quietR ls lo hi r (k + 1) | false => quietR ls lo hi r (k + 1) := rfl
    rw [e]
    cases h : (inR lo hi k && !memN ls k)
    · simp
    · simp [eq_comm]

/-- All that is ahead of number hi is done, nothing else: the rest, in whatever order. -/
def Later (P : Program) (l : List Oper) (Q : Exit → Act → World → Prop) (hi : Nat) (a : Act) (w : World) : Prop :=
  ∀ D : Array Bool, D.size = l.length → (∀ i, i < l.length → D.getD i false = decide (i < hi)) → wpAny P .any l.toArray Q (l.length - hi) D a w

section
variable {P : Program} {l : List Oper} {Q : Exit → Act → World → Prop} {a : Act} {w : World} {C : World → Prop} {b : Nat} {R : Act → World → Prop}
theorem region_later {id : Nat} (hmx : P.follows .mixedOrders = true) (h : Later P l Q 0 a { w with drawn := w.drawn + 1 }) : (Code.region id l.toArray true).wp P Q a w := by
  refine wp_region_any hmx ?_
  have := h (Array.replicate l.length false) (by simp) (fun i hi => by rw [getD_replicate_false]; simp)
  simpa using this
theorem later_end (hi : Nat) (hhi : l.length = hi) (h : Q .normal a w) : Later P l Q hi a w := by
  intro D hD hl
  rw [hhi, Nat.sub_self]
  refine ⟨List.eq_nil_iff_forall_not_mem.2 fun j hj => ?_, h⟩
  obtain ⟨h1, o, ho, _⟩ := mem_ready.1 hj
  have hlt : j < l.length := by have := (Array.getElem?_eq_some_iff.1 ho).1; simpa using this
  have h1 := getD_both h1
  rw [hl j hlt, decide_eq_true (by omega)] at h1
  cases h1

def rangeB (ls : List Nat) (lo hi n : Nat) : Bool := ls.all fun j => inR lo hi j && Nat.blt j n
def riseB : List Nat → Bool
  | x :: y :: r => Nat.blt x y && riseB (y :: r)
  | _ => true
theorem riseB_ok : ∀ {l : List Nat}, riseB l = true → l.Pairwise (· < ·)
  | [], _ => List.Pairwise.nil
  | [x], _ => List.pairwise_singleton _ _
  | x :: y :: r, h => by
    unfold riseB at h
    rw [Bool.and_eq_true, Nat.blt_eq] at h
    have ih := riseB_ok h.2
    refine List.pairwise_cons.2 ⟨fun z hz => ?_, ih⟩
    rcases List.mem_cons.1 hz with rfl | hz
    · exact h.1
    · exact Nat.lt_trans h.1 ((List.pairwise_cons.1 ih).1 z hz)

/-- A phase: the computing ones in the text's order, then the chain of the others. -/
theorem later_phase (C : World → Prop) (ls : List Nat) (b lo hi fuel : Nat) (hB : (phaseB l ls b lo hi fuel && (lateB l.toArray (quietR ls lo hi l 0) && (rangeB ls lo hi l.length && (riseB ls && Nat.ble lo hi)))) = true) (hd : dstLt a.tmps.size (quietR ls lo hi l 0) = true) (hC : C w)
    (h : wpVal P l.toArray C (fun A => wpLoud P l.toArray C b (fun a' w' => Later P l Q hi a' w') ls A w) (quietR ls lo hi l 0) a) : Later P l Q lo a w := by
  simp only [Bool.and_eq_true] at hB
  obtain ⟨hB, hL, hrg, hrs, hlh⟩ := hB
  have hlh := Nat.le_of_ble_eq_true hlh
  obtain ⟨hhi, M⟩ := phaseB_ok hB
  intro D hD hl
  obtain ⟨A, hw, i2, i3, i4, i5⟩ := wpVal_vals (quietR ls lo hi l 0) a _ rfl (fun o ho d hdd => by
    have := List.all_eq_true.1 hd o ho
    rw [hdd] at this
    exact Nat.blt_eq ▸ this) h hL
  have hcnt : ∀ n, lo ≤ n → n ≤ l.length → (List.range n).countP (fun i => inR lo hi i && !D.getD i false) = min n hi - lo := by
    intro n
    induction n with
    | zero => intro h1 _; simp
    | succ n ih =>
      intro h1 h2
      rw [List.range_succ, List.countP_append, List.countP_singleton]
      by_cases hn : lo ≤ n
      · rw [ih hn (by omega)]
        by_cases hnh : n < hi
        · rw [if_pos (by rw [inR_iff.2 ⟨hn, hnh⟩, hl n (by omega), decide_eq_false (by omega)]; rfl)]
          omega
        · rw [if_neg (by
            have : inR lo hi n = false := by
              cases hx : inR lo hi n
              · rfl
              · exact absurd (inR_iff.1 hx).2 hnh
            rw [this]; simp)]
          omega
      · have hz : (List.range n).countP (fun i => inR lo hi i && !D.getD i false) = 0 := by
          refine List.countP_eq_zero.2 fun i hi' => ?_
          have hi' := List.mem_range.1 hi'
          have : inR lo hi i = false := by
            cases hx : inR lo hi i
            · rfl
            · have := (inR_iff.1 hx).1; omega
          simp [this]
        have hf : inR lo hi n = false := by
          cases hx : inR lo hi n
          · rfl
          · exact absurd (inR_iff.1 hx).1 hn
        rw [hz, if_neg (by rw [hf]; simp)]
        omega
  have hfuel : l.length - lo = (hi - lo) + (l.toArray.size - hi) := by
    simp only [List.size_toArray]
    omega
  rw [hfuel]
  refine pmid_any (C := C) (b := b) (R := fun a' w' => Later P l Q hi a' w') (V := fun i => match (l.toArray[i]?).bind (·.dst) with | some d => A.tmps.getD d undef | none => undef) M
    (fun D' a' w' h1 h2 h3 => by simpa using h3 D' (by simpa using h1) (by simpa using h2)) _ D a A w ls ?_ ?_
  · have hmem : ∀ j, memN ls j = true ↔ j ∈ ls := fun j => ⟨fun h => memN_mem h, memN_of⟩
    refine ⟨by simpa using hD, fun i o ho hdi e he hb => ?_, fun i h1 h2 => ?_, fun i h1 => ?_, riseB_ok hrs, fun j => ?_, i2.symm, i3.symm, fun s hs => ?_, fun i o ho hin hq _ => ?_, fun _ => hC, hw⟩
    · have hlt : i < l.length := by have := (Array.getElem?_eq_some_iff.1 ho).1; simpa using this
      rw [hl i hlt, decide_eq_true_iff] at hdi
      have := M.ord i o ho e he hb
      rw [hl _ (by omega), decide_eq_true (by omega)]
    · rw [hl i (by simpa using h1), decide_eq_true h2]
    · rcases Nat.lt_or_ge i l.length with h2 | h2
      · rw [hl i h2, decide_eq_false (by omega)]
      · rw [Array.getD_eq_getD_getElem?, Array.getElem?_eq_none (by omega)]
        rfl
    · constructor
      · intro hj
        have := List.all_eq_true.1 hrg j hj
        simp only [Bool.and_eq_true, Nat.blt_eq] at this
        refine ⟨l[j]'this.2, by simp, this.1, (hmem j).2 hj, ?_⟩
        rw [hl j this.2, decide_eq_false (by have := (inR_iff.1 this.1).1; omega)]
      · rintro ⟨o, _, _, h3, _⟩
        exact (hmem j).1 h3
    · refine (i4 s fun hh => ?_).symm
      unfold dstsOf at hh
      obtain ⟨o, ho, hd⟩ := List.mem_filterMap.1 hh
      obtain ⟨i, h1, h2⟩ := quietR_spec.1 ho
      rw [Nat.zero_add, Bool.and_eq_true, Bool.not_eq_true'] at h2
      have := hs i o (by simpa using h1) h2.1 h2.2 hd
      have hlt : i < l.length := (List.getElem?_eq_some_iff.1 h1).1
      rw [hl i hlt, decide_eq_true_iff] at this
      have := (inR_iff.1 h2.1).1
      omega
    · obtain ⟨d, v, hd, hv, hy⟩ := i5 o (quietR_spec.2 ⟨i, by simpa using ho, by rw [Nat.zero_add, hin, hq]; rfl⟩)
      refine ⟨d, hd, ?_, ?_⟩
      · rw [ho]
        simp only [Option.bind_some, hd, Array.getD_eq_getD_getElem?, hv, Option.getD_some]
      · rw [ho]
        simp only [Option.bind_some, hd, Array.getD_eq_getD_getElem?, hv, Option.getD_some]
        exact hy
  · have := hcnt l.length (by omega) (Nat.le_refl _)
    rw [Nat.min_eq_right hhi] at this
    simpa using this

theorem wpVal_takeR {ls : List Nat} {lo hi : Nat} {ops : Array Oper} {Q : Act → Prop} {k : Nat} {o : Oper} {r : List Oper} (hq : (inR lo hi k && !memN ls k) = true) (h : wpVal P ops C Q (o :: quietR ls lo hi r (k + 1)) a) : wpVal P ops C Q (quietR ls lo hi (o :: r) k) a := by
  unfold quietR
  rw [hq]
  exact h
theorem wpVal_skipR {ls : List Nat} {lo hi : Nat} {ops : Array Oper} {Q : Act → Prop} {k : Nat} {o : Oper} {r : List Oper} (hq : (inR lo hi k && !memN ls k) = false) (h : wpVal P ops C Q (quietR ls lo hi r (k + 1)) a) : wpVal P ops C Q (quietR ls lo hi (o :: r) k) a := by
  unfold quietR
  rw [hq]
  exact h
theorem wpVal_endR {ls : List Nat} {lo hi : Nat} {ops : Array Oper} {Q : Act → Prop} {k : Nat} (h : Q a) : wpVal P ops C Q (quietR ls lo hi [] k) a := h

/-- A load of one cell, the same in all worlds of the class. -/
theorem wpVal_mem {ops : Array Oper} {Q : Act → Prop} {o : Oper} {rest : List Oper} (hg : o.guard = none) (hm : memOp o.op = true) (h : ∀ K : Act → Prop, (∀ a, wpVal P ops C Q rest a → K a) → ∃ v, (∀ w, C w → (execOp a.eval o).run P w = .ok (.value v) w) ∧ K (a.put o.dst v)) : wpVal P ops C Q (o :: rest) a := by
  obtain ⟨v, h1, h2⟩ := h _ (fun _ h => h)
  refine ⟨v, ?_, h2⟩
  rw [if_pos (by simp [Region.wanted, hg])]
  exact fun w hw => h1 w (hw hm)
end
end Go.Proofs.Ytpbppgfogepjeaa
namespace Go.Proofs.Ytpbppgfogepjeaa
open Go.ChangeShapes Go.WideShapes Go.ChangeAt Go.RowKit Go.Deep

/-- Within a number's reach. -/
def In60 (x : Int) : Prop := 0 ≤ x ∧ x ≤ 1152921504606846976

set_option maxRecDepth 100000 in
theorem radd_any (a b c d : Int) (w : World) (ha : In60 a) (hb : In60 b) (hc : In60 c) (hd : In60 d) :
    Calls Try.prog 45 #[.agg #[.int .i64 a, .int .i64 b], .agg #[.int .i64 c, .int .i64 d]] w fun e w' => e = .returned (.agg #[.int .i64 (min (a + c) 1152921504606846976), .int .i64 (min (b + d) 1152921504606846976)]) ∧ Below w.heap.size w w' := by
  obtain ⟨s, hs⟩ : ∃ s, a + c = s := ⟨_, rfl⟩
  obtain ⟨t, ht⟩ : ∃ t, b + d = t := ⟨_, rfl⟩
  have g1 : IntKind.i64.wrap s = s := IntWalk.i64_in _ (by unfold In60 at *; omega)
  have g2 : IntKind.i64.wrap t = t := IntWalk.i64_in _ (by unfold In60 at *; omega)
  clear ha hb hc hd
  go_enter Try.func45, Try.ntmps45
  go_wp2_with fail
  exact bodyPost_ret (v := .agg #[.int .i64 (min s 1152921504606846976), .int .i64 (min t 1152921504606846976)]) (by simp [results, Try.results45, go_sem]) rfl ⟨by rw [hs, ht], (((Below.refl _ _).alloc (Nat.le_refl _) _).alloc (by simp) _).alloc (by simp; omega) _⟩

set_option maxRecDepth 100000 in
theorem rless_any (a b c d : Int) (w : World) (ha : In60 a) (hb : In60 b) (hc : In60 c) (hd : In60 d) :
    Calls Try.prog 47 #[.agg #[.int .i64 a, .int .i64 b], .agg #[.int .i64 c, .int .i64 d]] w fun e w' => e = .returned (.agg #[.int .i64 (max (a - c) 0), .int .i64 (max (b - d) 0)]) ∧ Below w.heap.size w w' := by
  obtain ⟨s, hs⟩ : ∃ s, a - c = s := ⟨_, rfl⟩
  obtain ⟨t, ht⟩ : ∃ t, b - d = t := ⟨_, rfl⟩
  have g1 : IntKind.i64.wrap s = s := IntWalk.i64_in _ (by unfold In60 at *; omega)
  have g2 : IntKind.i64.wrap t = t := IntWalk.i64_in _ (by unfold In60 at *; omega)
  clear ha hb hc hd
  go_enter Try.func47, Try.ntmps47
  go_wp2_with fail
  exact bodyPost_ret (v := .agg #[.int .i64 (max s 0), .int .i64 (max t 0)]) (by simp [results, Try.results47, go_sem]) rfl ⟨by rw [hs, ht], (((Below.refl _ _).alloc (Nat.le_refl _) _).alloc (by simp) _).alloc (by simp; omega) _⟩

theorem block_at {w : World} {b : Nat} {cs : Array Value} {t : TypeId} (h : w.heap[b]? = some (.cells cs t (0, 0))) {i : Nat} {n : Nat} (l : List Value) (hl : l = (cs.toList.drop i).take n) : ∀ j u, l[j]? = some u → w.cell? ((⟨b, i, none⟩ : Addr).add j) = some u := fun j u hu => by
  rw [Addr.add_lit, cell_of_row _ b _ _ _ (0, 0) h]
  rw [hl] at hu
  rw [List.getElem?_take] at hu
  split at hu
  · rw [List.getElem?_drop] at hu
    simpa using hu
  · cases hu

theorem two_set {w : World} {b : Nat} {t : TypeId} {x0 x1 : Value} (h : w.heap[b]? = some (.cells #[x0, x1] t (0, 0))) (y0 y1 : Value) : ((w.setCell ⟨b, 0, none⟩ y0).setCell ⟨b, 1, none⟩ y1).heap[b]? = some (.cells #[y0, y1] t (0, 0)) := row_setCell (row_setCell h _) _
/-- What is left in a room. -/
def RoomI.left (r : RoomI) : Int × Int := (max (r.n.cpu - r.cpu) 0, max (r.n.mem - r.mem) 0)
structure RoomI.In (r : RoomI) : Prop where
  ncpu : In60 r.n.cpu
  nmem : In60 r.n.mem
  cpu : In60 r.cpu
  mem : In60 r.mem

set_option maxRecDepth 100000 in
theorem rleft_any (r : RoomI) (w : World) (hr : r.In) :
    Calls Try.prog 17 #[.agg r.cells.toArray] w fun e w' => e = .returned (.agg #[.int .i64 r.left.1, .int .i64 r.left.2]) ∧ Below w.heap.size w w' := by
  obtain ⟨w1, hw1⟩ : ∃ w1, w.alloc (.cells r.cells.toArray 57) = w1 := ⟨_, rfl⟩
  obtain ⟨w2, hw2⟩ : ∃ w2, w1.alloc (.cells #[.int .i64 0, .int .i64 0] 25) = w2 := ⟨_, rfl⟩
  have hb1 : Below w.heap.size w w1 := by rw [← hw1]; exact (Below.refl _ _).alloc (Nat.le_refl _) _
  have hb12 : Below w1.heap.size w1 w2 := by rw [← hw2]; exact (Below.refl _ _).alloc (Nat.le_refl _) _
  have hb2 : Below w.heap.size w w2 := hb1.trans (hb12.mono hb1.size)
  obtain ⟨N, hN⟩ : ∃ N, w.heap.size = N := ⟨_, rfl⟩
  have hN1 : w1.heap.size = N + 1 := by rw [← hw1, ← hN]; simp
  have hN2 : w2.heap.size = N + 2 := by rw [← hw2]; simp [hN1]
  have hr1 : w2.heap[N]? = some (.cells r.cells.toArray 57 (0, 0)) := (hb12.block N (by omega)).trans (by rw [← hw1, ← hN]; exact heap_alloc_new _ _)
  have hr2 : w2.heap[N + 1]? = some (.cells #[.int .i64 0, .int .i64 0] 25 (0, 0)) := by rw [← hw2, ← hN1]; exact heap_alloc_new _ _
  have ca := block_at hr1 (i := 2) (n := 2) [.int .i64 r.n.cpu, .int .i64 r.n.mem] rfl
  have cb := block_at hr1 (i := 8) (n := 2) [.int .i64 r.cpu, .int .i64 r.mem] rfl
  have HL := Lib.hid (fun wx => rless_any r.n.cpu r.n.mem r.cpu r.mem wx hr.ncpu hr.nmem hr.cpu hr.mem)
  obtain ⟨x, hx⟩ : ∃ x, max (r.n.cpu - r.cpu) 0 = x := ⟨_, rfl⟩
  obtain ⟨y, hy⟩ : ∃ y, max (r.n.mem - r.mem) 0 = y := ⟨_, rfl⟩
  have hle : r.left = (x, y) := by unfold RoomI.left; rw [hx, hy]
  rw [hx, hy] at HL
  rw [hle]
  have HR2 := Lib.hid hr2
  have H2 := Lib.hid hb2
  clear hr hx hy hle hb1 hb12 hb2 hr1 hr2
  unfold RoomI.cells at hw1 ⊢
  go_enter Try.func17, Try.ntmps17
  go_wp2_with (first
    | ((with_reducible refine at_slot 5 ?_); go_must (refine wpList_load_at aggRes rfl _ rfl ⟨N, 2, none⟩ rfl _ rfl ca ?_))
    | ((with_reducible refine at_slot 7 ?_); go_must (refine wpList_load_at aggRes rfl _ rfl ⟨N, 8, none⟩ rfl _ rfl cb ?_)))
  refine (HL.out _).mono ?_
  rintro e w3 ⟨rfl, hb3⟩
  have hr3 := (hb3.block (N + 1) (by omega)).trans HR2.out
  have k0 := cell_of_row w3 (N + 1) 0 _ _ _ hr3
  have k1 := cell_of_row w3 (N + 1) 1 _ _ _ hr3
  simp at k0 k1
  have f0 := row_free hr3 0
  have f1 := row_free hr3 1
  have H3 := Lib.hid (H2.out.trans (hb3.mono (by omega)))
  clear hb3 ca cb
  go_wp2_with fail
  have hf := two_set hr3 (.int .i64 x) (.int .i64 y)
  have q0 := cell_of_row _ (N + 1) 0 _ _ _ hf
  have q1 := cell_of_row _ (N + 1) 1 _ _ _ hf
  simp at q0 q1
  exact bodyPost_ret (v := .agg #[.int .i64 x, .int .i64 y]) (by simp [results, Try.results17, go_sem, q0, q1]) rfl ⟨rfl, (H3.out.setCell (p := ⟨N + 1, 0, none⟩) (by simp; omega) _).setCell (p := ⟨N + 1, 1, none⟩) (by simp; omega) _⟩

/-! ### A room and a pod -/
def PodV.vals (p : PodV) : List Value := [.string p.owner, .string p.node, .int .i64 p.phase, .int .i64 p.since, .int .i64 p.cpu, .int .i64 p.mem, .slice p.L.ao p.L.la p.L.ca, .slice p.S.ao p.S.la p.S.ca, .slice p.T.ao p.T.la p.T.ca, .int .i64 p.warm]
/-- The arguments' variables: a room at N, a pod at N + 1. -/
structure RP (w0 w : World) (N : Nat) (r : RoomI) (p : PodV) : Prop where
  room : w.heap[N]? = some (.cells r.cells.toArray 57 (0, 0))
  pod : w.heap[N + 1]? = some (.cells p.vals.toArray 31 (0, 0))
  below : Below N w0 w
  size : N + 2 ≤ w.heap.size
theorem RP.b {w0 w w' : World} {N : Nat} {r : RoomI} {p : PodV} (h : RP w0 w N r p) (hb : Below w.heap.size w w') : RP w0 w' N r p :=
  ⟨(hb.block N (by have := h.size; omega)).trans h.room, (hb.block (N + 1) (by have := h.size; omega)).trans h.pod, h.below.trans (hb.mono (by have := h.size; omega)), Nat.le_trans h.size hb.size⟩
theorem RP.new (w : World) (r : RoomI) (p : PodV) : RP w ((w.alloc (.cells r.cells.toArray 57)).alloc (.cells p.vals.toArray 31)) w.heap.size r p := by
  refine ⟨?_, ?_, ((Below.refl _ _).alloc (Nat.le_refl _) _).alloc (by simp) _, by simp⟩
  · exact (Below.heap_alloc _ _ _ (by simp)).trans (heap_alloc_new _ _)
  · have := heap_alloc_new (w.alloc (.cells r.cells.toArray 57)) (.cells p.vals.toArray 31)
    rwa [World.size_alloc] at this
def mayB (n : NodeV) (p : PodV) : Bool := !n.closed && (p.S.xs.all (holdsL n.L.xs) && tolL n.T.xs p.T.xs)

set_option maxRecDepth 100000 in
theorem rmay_any (r : RoomI) (p : PodV) (w : World) (hN : NodeAt w r.n) (hP : PodAt w p) :
    Calls Try.prog 46 #[.agg r.cells.toArray, .agg p.vals.toArray] w fun e w' => e = .returned (.bool (mayB r.n p)) ∧ Below w.heap.size w w' := by
  obtain ⟨w2, hw2⟩ : ∃ w2, (w.alloc (.cells r.cells.toArray 57)).alloc (.cells p.vals.toArray 31) = w2 := ⟨_, rfl⟩
  have hRP := RP.new w r p
  rw [hw2] at hRP
  obtain ⟨N, hNs⟩ : ∃ N, w.heap.size = N := ⟨_, rfl⟩
  have hb2 : Below w.heap.size w w2 := hRP.below
  rw [hNs] at hRP
  have k7 := cell_of_row w2 N 7 _ _ _ hRP.room
  have k4 := cell_of_row w2 N 4 _ _ _ hRP.room
  have p7 := cell_of_row w2 (N + 1) 7 _ _ _ hRP.pod
  simp only [RoomI.cells, PodV.vals, List.getElem?_toArray, List.getElem?_cons_succ, List.getElem?_cons_zero] at k7 k4 p7
  have HM := Lib.hid (match_any r.n.L.xs p.S.xs r.n.L.ao p.S.ao r.n.L.la r.n.L.ca p.S.la p.S.ca w2 (hN.b hb2).L (hP.b hb2).S)
  have HT : Hid (∀ wx : World, Below w2.heap.size w2 wx → _) := fun wx hb => tolerates_any r.n.T.xs p.T.xs r.n.T.ao p.T.ao r.n.T.la r.n.T.ca p.T.la p.T.ca wx ((hN.b hb2).b hb).T ((hP.b hb2).b hb).T
  have H2 := Lib.hid hb2
  have HR := Lib.hid hRP
  clear hN hP hb2 hRP
  unfold mayB
  obtain ⟨cl, hcl⟩ : ∃ c, r.n.closed = c := ⟨_, rfl⟩
  obtain ⟨m, hm⟩ : ∃ c, p.S.xs.all (holdsL r.n.L.xs) = c := ⟨_, rfl⟩
  obtain ⟨t, ht⟩ : ∃ c, tolL r.n.T.xs p.T.xs = c := ⟨_, rfl⟩
  rw [hm] at HM
  rw [ht] at HT
  rw [hcl, hm, ht]
  rw [hcl] at k7
  clear hm ht hcl
  unfold RoomI.cells PodV.vals at hw2 ⊢
  go_enter Try.func46, Try.ntmps46
  cases cl
  · go_wp2_with fail
    refine HM.out.mono ?_
    rintro e w3 ⟨rfl, hb3⟩
    have HR3 := Lib.hid (HR.out.b hb3)
    have HT3 := Lib.hid (HT.out w3 hb3)
    have H3 := Lib.hid (H2.out.trans (hb3.mono H2.out.size))
    have q5 := cell_of_row w3 N 5 _ _ _ HR3.out.room
    have p8 := cell_of_row w3 (N + 1) 8 _ _ _ HR3.out.pod
    simp only [RoomI.cells, PodV.vals, List.getElem?_toArray, List.getElem?_cons_succ, List.getElem?_cons_zero] at q5 p8
    clear hb3 HM HT k7 k4 p7
    cases m
    · go_wp2_with fail
      go_ret
      exact ⟨rfl, H3.out⟩
    · go_wp2_with fail
      refine HT3.out.mono ?_
      rintro e w4 ⟨rfl, hb4⟩
      have H4 := Lib.hid (H3.out.trans (hb4.mono H3.out.size))
      clear hb4
      go_wp2_with fail
      go_ret
      exact ⟨rfl, H4.out⟩
  · go_wp2_with fail
    go_ret
    exact ⟨rfl, H2.out⟩
end Go.Proofs.Ytpbppgfogepjeaa
namespace Go.Proofs.Ytpbppgfogepjeaa
open Go.ChangeShapes Go.WideShapes Go.ChangeAt Go.RowKit Go.Deep

def fitsB (r : RoomI) (p : PodV) : Bool := mayB r.n p && (decide (p.cpu ≤ r.left.1) && decide (p.mem ≤ r.left.2))
theorem RP.roomAt {w0 w : World} {N : Nat} {r : RoomI} {p : PodV} (h : RP w0 w N r p) : ∀ j u, r.cells[j]? = some u → w.cell? ((⟨N, 0, none⟩ : Addr).add j) = some u := block_at h.room (i := 0) (n := 11) r.cells rfl
theorem RP.podAt {w0 w : World} {N : Nat} {r : RoomI} {p : PodV} (h : RP w0 w N r p) : ∀ j u, p.vals[j]? = some u → w.cell? ((⟨N + 1, 0, none⟩ : Addr).add j) = some u := block_at h.pod (i := 0) (n := 10) p.vals rfl

set_option maxRecDepth 100000 in
set_option maxHeartbeats 1000000 in
theorem rfits_any (r : RoomI) (p : PodV) (w : World) (hN : NodeAt w r.n) (hP : PodAt w p) (hI : r.In) :
    Calls Try.prog 16 #[.agg r.cells.toArray, .agg p.vals.toArray] w fun e w' => e = .returned (.bool (fitsB r p)) ∧ Below w.heap.size w w' := by
  obtain ⟨w2, hw2⟩ : ∃ w2, (w.alloc (.cells r.cells.toArray 57)).alloc (.cells p.vals.toArray 31) = w2 := ⟨_, rfl⟩
  have hRP := RP.new w r p
  rw [hw2] at hRP
  have hsz2 : w2.heap.size = w.heap.size + 2 := by rw [← hw2]; simp
  obtain ⟨N, hNs⟩ : ∃ N, w.heap.size = N := ⟨_, rfl⟩
  have hb2 : Below w.heap.size w w2 := hRP.below
  rw [hNs] at hRP hsz2
  have HL := Lib.hid (fun wx => rleft_any r wx hI)
  have HM : Hid (∀ wx : World, Below w.heap.size w wx → _) := fun wx hb => rmay_any r p wx (hN.b hb) (hP.b hb)
  have H2 := Lib.hid hb2
  have HR := Lib.hid hRP
  have cr := HR.out.roomAt
  clear hN hP hb2 hRP hI
  unfold fitsB
  obtain ⟨lc, hlc⟩ : ∃ c, r.left.1 = c := ⟨_, rfl⟩
  obtain ⟨lm, hlm⟩ : ∃ c, r.left.2 = c := ⟨_, rfl⟩
  obtain ⟨mb, hmb⟩ : ∃ c, mayB r.n p = c := ⟨_, rfl⟩
  rw [hlc, hlm] at HL
  rw [hmb] at HM
  rw [hlc, hlm, hmb]
  clear hlc hlm hmb
  obtain ⟨rc, hrc⟩ : ∃ l, r.cells = l := ⟨_, rfl⟩
  obtain ⟨pc, hpc⟩ : ∃ l, p.vals = l := ⟨_, rfl⟩
  have hrl : rc.length = 11 := by rw [← hrc]; rfl
  have hpl : pc.length = 10 := by rw [← hpc]; rfl
  have hro : rc.all (fun u => u.oneCell') = true := by rw [← hrc]; rfl
  have hpo : pc.all (fun u => u.oneCell') = true := by rw [← hpc]; rfl
  have Hrc := Lib.hid hrc
  have Hpc := Lib.hid hpc
  rw [hrc] at cr HL HM hw2
  rw [hpc] at HM hw2
  rw [hrc, hpc]
  clear hrc hpc
  go_enter Try.func16, Try.ntmps16
  go_wp2_with (first
    | ((with_reducible refine at_slot 6 ?_); go_must (refine wpList_load_at aggRoom rfl _ rfl ⟨N, 0, none⟩ rfl rc hrl cr ?_)))
  refine (HL.out _).mono ?_
  rintro e w3 ⟨rfl, hb3⟩
  have HR3 := Lib.hid (HR.out.b hb3)
  have H3 := Lib.hid (H2.out.trans (hb3.mono H2.out.size))
  obtain ⟨w4, hw4⟩ : ∃ w4, w3.alloc (.cells #[.int .i64 lc, .int .i64 lm] 25) = w4 := ⟨_, rfl⟩
  have hb4 : Below w3.heap.size w3 w4 := by rw [← hw4]; exact (Below.refl _ _).alloc (Nat.le_refl _) _
  obtain ⟨lb, hlb⟩ : ∃ lb, w3.heap.size = lb := ⟨_, rfl⟩
  have hrl4 : w4.heap[lb]? = some (.cells #[.int .i64 lc, .int .i64 lm] 25 (0, 0)) := by rw [← hw4, ← hlb]; exact heap_alloc_new _ _
  have HR4 := Lib.hid (HR3.out.b hb4)
  have H4 := Lib.hid (H3.out.trans (hb4.mono H3.out.size))
  have HL4 := Lib.hid hrl4
  have cr4 := HR4.out.roomAt
  have cp4 := HR4.out.podAt
  rw [Hrc.out] at cr4
  rw [Hpc.out] at cp4
  clear hb3 hb4 cr HL hrl4
  go_wp2_with (first
    | ((with_reducible refine at_slot 8 ?_); go_must (refine wpList_load_at aggRoom rfl _ rfl ⟨N, 0, none⟩ rfl rc hrl cr4 ?_))
    | ((with_reducible refine at_slot 9 ?_); go_must (refine wpList_load_at aggPod rfl _ rfl ⟨N + 1, 0, none⟩ rfl pc hpl cp4 ?_)))
  refine (HM.out _ H4.out).mono ?_
  rintro e w5 ⟨rfl, hb5⟩
  have hlb4 : lb < w4.heap.size := (Array.getElem?_eq_some_iff.1 HL4.out).1
  have hrl5 := (hb5.block lb hlb4).trans HL4.out
  have HR5 := HR4.out.b hb5
  have H5 := Lib.hid (H4.out.trans (hb5.mono H4.out.size))
  have l0 := cell_of_row w5 lb 0 _ _ _ hrl5
  have l1 := cell_of_row w5 lb 1 _ _ _ hrl5
  have p4 := cell_of_row w5 (N + 1) 4 _ _ _ HR5.pod
  have p5 := cell_of_row w5 (N + 1) 5 _ _ _ HR5.pod
  simp only [PodV.vals, List.getElem?_toArray, List.getElem?_cons_succ, List.getElem?_cons_zero] at p4 p5 l0 l1
  clear hb5 HM cr4 cp4 HR5 hrl5 hlb4
  cases mb
  · go_wp2_with fail
    go_ret
    exact ⟨rfl, H5.out⟩
  · obtain ⟨d1, hd1⟩ : ∃ d, decide (p.cpu ≤ lc) = d := ⟨_, rfl⟩
    obtain ⟨d2, hd2⟩ : ∃ d, decide (p.mem ≤ lm) = d := ⟨_, rfl⟩
    cases d1
    · go_wp2_with fail
      go_ret
      exact ⟨by rw [hd1]; rfl, H5.out⟩
    · go_wp2_with fail
      go_ret
      exact ⟨by rw [hd1, hd2]; rfl, H5.out⟩
end Go.Proofs.Ytpbppgfogepjeaa
