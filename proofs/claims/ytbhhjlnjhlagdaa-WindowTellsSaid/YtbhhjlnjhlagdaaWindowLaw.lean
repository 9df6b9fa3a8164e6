/- The plain law of the window's answers: what is least and greatest is told alike. No program. -/
import Derived.Test.YtbhhjlnjhlagdaaWindowKept
namespace Go.Proofs.Ytbhhjlnjhlagdaa

def WInv (now wv : Int) (l : List LNote) (s : Int × Int × Bool) : Prop :=
  (s = (0, 0, false) ∧ ∀ y ∈ l, inSpanL now wv y = false) ∨
  (∃ lo hi, s = (lo, hi, true) ∧ (∃ y ∈ l, inSpanL now wv y = true ∧ y.n = lo) ∧ (∃ y ∈ l, inSpanL now wv y = true ∧ y.n = hi) ∧ ∀ y ∈ l, inSpanL now wv y = true → lo ≤ y.n ∧ y.n ≤ hi)

theorem WInv.step {now wv : Int} {l : List LNote} {s : Int × Int × Bool} (h : WInv now wv l s) (x : LNote) : WInv now wv (l ++ [x]) (wStep now wv s x) := by
  cases hx : inSpanL now wv x
  · have e : wStep now wv s x = s := by unfold wStep; rw [if_neg (by rw [hx]; decide)]
    rw [e]
    rcases h with ⟨hs, hl⟩ | ⟨lo, hi, hs, ⟨y, hy, hy1, hy2⟩, ⟨z, hz, hz1, hz2⟩, hl⟩
    · refine .inl ⟨hs, fun y hy => ?_⟩
      rcases List.mem_append.1 hy with hy | hy
      · exact hl y hy
      · rw [List.mem_singleton.1 hy]; exact hx
    · refine .inr ⟨lo, hi, hs, ⟨y, List.mem_append_left _ hy, hy1, hy2⟩, ⟨z, List.mem_append_left _ hz, hz1, hz2⟩, fun y hy h1 => ?_⟩
      rcases List.mem_append.1 hy with hy | hy
      · exact hl y hy h1
      · rw [List.mem_singleton.1 hy, hx] at h1; cases h1
  · rcases h with ⟨rfl, hl⟩ | ⟨lo, hi, rfl, ⟨y, hy, hy1, hy2⟩, ⟨z, hz, hz1, hz2⟩, hl⟩
    · have e : wStep now wv (0, 0, false) x = (x.n, x.n, true) := by unfold wStep; rw [if_pos hx]; simp
      rw [e]
      refine .inr ⟨_, _, rfl, ⟨x, by simp, hx, rfl⟩, ⟨x, by simp, hx, rfl⟩, fun y hy h1 => ?_⟩
      rcases List.mem_append.1 hy with hy | hy
      · rw [hl y hy] at h1; cases h1
      · rw [List.mem_singleton.1 hy]; exact ⟨Int.le_refl _, Int.le_refl _⟩
    · rw [wStep_met hx]
      refine .inr ⟨_, _, rfl, ?_, ?_, fun p hp h1 => ?_⟩
      · by_cases c : lo ≤ x.n
        · exact ⟨y, List.mem_append_left _ hy, hy1, by omega⟩
        · exact ⟨x, by simp, hx, by omega⟩
      · by_cases c : x.n ≤ hi
        · exact ⟨z, List.mem_append_left _ hz, hz1, by omega⟩
        · exact ⟨x, by simp, hx, by omega⟩
      · rcases List.mem_append.1 hp with hp | hp
        · have := hl p hp h1; omega
        · rw [List.mem_singleton.1 hp]; omega

theorem WInv.fold {now wv : Int} (l : List LNote) : ∀ (pre : List LNote) (s : Int × Int × Bool), WInv now wv pre s → WInv now wv (pre ++ l) (l.foldl (wStep now wv) s) := by
  induction l with
  | nil => intro pre s h; simpa using h
  | cons x xs ih =>
    intro pre s h
    have := ih (pre ++ [x]) (wStep now wv s x) (h.step x)
    simpa using this

theorem within_spec (now wv : Int) (l : List LNote) : WInv now wv l (withinOf now wv l) := WInv.fold l [] (0, 0, false) (.inl ⟨rfl, by simp⟩)

theorem fold_min (xs : List Note) : ∀ b : Int, xs.foldl (fun b y => min b y.low) b ≤ b ∧ (∀ y ∈ xs, xs.foldl (fun b y => min b y.low) b ≤ y.low) ∧ (xs.foldl (fun b y => min b y.low) b = b ∨ ∃ y ∈ xs, xs.foldl (fun b y => min b y.low) b = y.low) := by
  induction xs with
  | nil => intro b; exact ⟨Int.le_refl _, by simp, .inl rfl⟩
  | cons x xs ih =>
    intro b
    obtain ⟨h1, h2, h3⟩ := ih (min b x.low)
    rw [List.foldl_cons]
    refine ⟨by omega, fun y hy => ?_, ?_⟩
    · rcases List.mem_cons.1 hy with rfl | hy
      · omega
      · exact h2 y hy
    · rcases h3 with h3 | ⟨y, hy, h3⟩
      · by_cases c : b ≤ x.low
        · exact .inl (by omega)
        · exact .inr ⟨x, by simp, by omega⟩
      · exact .inr ⟨y, List.mem_cons_of_mem _ hy, h3⟩

theorem fold_max (xs : List Note) : ∀ b : Int, b ≤ xs.foldl (fun b y => max b y.high) b ∧ (∀ y ∈ xs, y.high ≤ xs.foldl (fun b y => max b y.high) b) ∧ (xs.foldl (fun b y => max b y.high) b = b ∨ ∃ y ∈ xs, xs.foldl (fun b y => max b y.high) b = y.high) := by
  induction xs with
  | nil => intro b; exact ⟨Int.le_refl _, by simp, .inl rfl⟩
  | cons x xs ih =>
    intro b
    obtain ⟨h1, h2, h3⟩ := ih (max b x.high)
    rw [List.foldl_cons]
    refine ⟨by omega, fun y hy => ?_, ?_⟩
    · rcases List.mem_cons.1 hy with rfl | hy
      · omega
      · exact h2 y hy
    · rcases h3 with h3 | ⟨y, hy, h3⟩
      · by_cases c : x.high ≤ b
        · exact .inl (by omega)
        · exact .inr ⟨x, by simp, by omega⟩
      · exact .inr ⟨y, List.mem_cons_of_mem _ hy, h3⟩

theorem Mem.le_last {out : List LNote} {xs : List Note} (h : Mem out xs) : ∀ q ∈ out, q.at_ ≤ lastAt out := by
  rcases h.last with ⟨rfl, rfl⟩ | ⟨o, y, z, x, rfl, rfl, hq, hmax⟩
  · simp
  · have e : lastAt (o ++ [y]) = y.at_ := by unfold lastAt; simp
    rw [e]
    exact hmax

theorem Mem.last_mem {out : List LNote} {xs : List Note} (h : Mem out xs) (hne : out ≠ []) : ∃ y ∈ out, y.at_ = lastAt out := by
  rcases h.last with ⟨rfl, rfl⟩ | ⟨o, y, z, x, rfl, rfl, hq, hmax⟩
  · exact absurd rfl hne
  · exact ⟨y, by simp, by unfold lastAt; simp⟩

/-- A note that is left is told of by the memory. -/
theorem Mem.told {out : List LNote} {xs : List Note} (h : Mem out xs) {y : LNote} (hy : y ∈ leftOf out) : ∃ x ∈ xs, x.at_ = y.at_ ∧ x.low ≤ y.n ∧ y.n ≤ x.high := by
  obtain ⟨h1, h2⟩ := List.mem_filter.1 hy
  have h2 := of_decide_eq_true h2
  obtain ⟨x, hx, e⟩ := h.all y h1 (fun q hq => by have := h.le_last q hq; omega)
  exact ⟨x, hx, e, h.low x hx y h1 e.symm⟩

/-- What the memory tells of is left. -/
theorem Mem.stays {out : List LNote} {xs : List Note} (h : Mem out xs) {x : Note} (hx : x ∈ xs) : (∃ y ∈ leftOf out, y.at_ = x.at_ ∧ y.n = x.low) ∧ (∃ y ∈ leftOf out, y.at_ = x.at_ ∧ y.n = x.high) := by
  obtain ⟨⟨y, hy, h1, h2⟩, ⟨z, hz, h3, h4⟩⟩ := h.lowIs x hx
  have hne : out ≠ [] := fun e => by rw [e] at hy; cases hy
  obtain ⟨q, hq, hql⟩ := h.last_mem hne
  have := h.near x hx q hq
  exact ⟨⟨y, List.mem_filter.2 ⟨hy, decide_eq_true (by omega)⟩, h1, h2⟩, ⟨z, List.mem_filter.2 ⟨hz, decide_eq_true (by omega)⟩, h3, h4⟩⟩

theorem span_same {now wv : Int} {x : Note} {y : LNote} (h : x.at_ = y.at_) : inSpan now wv x = inSpanL now wv y := by unfold inSpan inSpanL; rw [h]

theorem least_same {out : List LNote} {xs : List Note} (h : Mem out xs) (now wv : Int) : leastOf (xs.filter (inSpan now wv)) = ((withinOf now wv (leftOf out)).1, (withinOf now wv (leftOf out)).2.2) := by
  rcases within_spec now wv (leftOf out) with ⟨hs, hl⟩ | ⟨lo, hi, hs, ⟨y, hy, hy1, hy2⟩, _, hl⟩
  · rw [hs]
    have e : xs.filter (inSpan now wv) = [] := by
      rw [List.filter_eq_nil_iff]
      intro x hx
      obtain ⟨y, hy, hyx, _⟩ := (h.stays hx).1
      rw [span_same hyx.symm, hl y hy]
      decide
    rw [e]
    rfl
  · rw [hs]
    obtain ⟨x, hx, e, h1, h2⟩ := h.told hy
    have hxs : x ∈ xs.filter (inSpan now wv) := List.mem_filter.2 ⟨hx, by rw [span_same e]; exact hy1⟩
    have hall : ∀ p ∈ xs.filter (inSpan now wv), lo ≤ p.low := by
      intro p hp
      obtain ⟨h3, h4⟩ := List.mem_filter.1 hp
      obtain ⟨q, hq, hqp, h5⟩ := (h.stays h3).1
      have := hl q hq (by rw [← span_same hqp.symm]; exact h4)
      omega
    cases hc : xs.filter (inSpan now wv) with
    | nil => rw [hc] at hxs; cases hxs
    | cons a tl =>
      rw [hc] at hxs hall
      obtain ⟨f1, f2, f3⟩ := fold_min (a :: tl) a.low
      have g1 := f2 x hxs
      have g2 : lo ≤ (a :: tl).foldl (fun b y => min b y.low) a.low := by
        rcases f3 with f3 | ⟨p, hp, f3⟩
        · rw [f3]; exact hall a (by simp)
        · rw [f3]; exact hall p hp
      have : (a :: tl).foldl (fun b y => min b y.low) a.low = lo := by omega
      show ((a :: tl).foldl (fun b y => min b y.low) a.low, true) = (lo, true)
      rw [this]

theorem greatest_same {out : List LNote} {xs : List Note} (h : Mem out xs) (now wv : Int) : greatestOf (xs.filter (inSpan now wv)) = ((withinOf now wv (leftOf out)).2.1, (withinOf now wv (leftOf out)).2.2) := by
  rcases within_spec now wv (leftOf out) with ⟨hs, hl⟩ | ⟨lo, hi, hs, _, ⟨y, hy, hy1, hy2⟩, hl⟩
  · rw [hs]
    have e : xs.filter (inSpan now wv) = [] := by
      rw [List.filter_eq_nil_iff]
      intro x hx
      obtain ⟨y, hy, hyx, _⟩ := (h.stays hx).1
      rw [span_same hyx.symm, hl y hy]
      decide
    rw [e]
    rfl
  · rw [hs]
    obtain ⟨x, hx, e, h1, h2⟩ := h.told hy
    have hxs : x ∈ xs.filter (inSpan now wv) := List.mem_filter.2 ⟨hx, by rw [span_same e]; exact hy1⟩
    have hy0 := (h.good y (List.mem_filter.1 hy).1).2.2
    have hall : ∀ p ∈ xs.filter (inSpan now wv), p.high ≤ hi := by
      intro p hp
      obtain ⟨h3, h4⟩ := List.mem_filter.1 hp
      obtain ⟨q, hq, hqp, h5⟩ := (h.stays h3).2
      have := hl q hq (by rw [← span_same hqp.symm]; exact h4)
      omega
    obtain ⟨f1, f2, f3⟩ := fold_max (xs.filter (inSpan now wv)) 0
    have g1 := f2 x hxs
    have g2 : (xs.filter (inSpan now wv)).foldl (fun b y => max b y.high) 0 ≤ hi := by
      rcases f3 with f3 | ⟨p, hp, f3⟩
      · rw [f3]; omega
      · rw [f3]; exact hall p hp
    unfold greatestOf
    have e1 : (xs.filter (inSpan now wv)).foldl (fun b y => max b y.high) 0 = hi := by omega
    have e2 : (!(xs.filter (inSpan now wv)).isEmpty) = true := by
      cases hc : xs.filter (inSpan now wv) with
      | nil => rw [hc] at hxs; cases hxs
      | cons a tl => rfl
    rw [e1, e2]

/-- The stable number, by what is within. -/
theorem stable_same {out : List LNote} {xs : List Note} (h : Mem out xs) (now there up down : Int) : stableOf xs now there up down =
    stV (withinOf now (spanOf up) (leftOf out)).1 (withinOf now (spanOf up) (leftOf out)).2.2 (withinOf now (spanOf down) (leftOf out)).2.1 (withinOf now (spanOf down) (leftOf out)).2.2 there := by
  unfold stableOf
  rw [least_same h, greatest_same h]

/-- At the last note's tick there is a note within. -/
theorem within_last {out : List LNote} {xs : List Note} (h : Mem out xs) (hne : out ≠ []) (wv : Int) : (withinOf (lastAt out) wv (leftOf out)).2.2 = true := by
  obtain ⟨y, hy, e⟩ := h.last_mem hne
  have hyl : y ∈ leftOf out := List.mem_filter.2 ⟨hy, decide_eq_true (by omega)⟩
  rcases within_spec (lastAt out) wv (leftOf out) with ⟨_, hl⟩ | ⟨lo, hi, hs, _⟩
  · have := hl y hyl
    unfold inSpanL at this
    rw [e] at this
    simp at this
  · rw [hs]

theorem holds_plain (p r there : Int) : decide (min there r ≤ stV p true r true there) = true ∧ decide (stV p true r true there ≤ max there p) = true := by
  unfold stV
  simp only [true_and]
  split
  · exact ⟨decide_eq_true (by omega), decide_eq_true (by omega)⟩
  · split
    · exact ⟨decide_eq_true (by omega), decide_eq_true (by omega)⟩
    · exact ⟨decide_eq_true (by omega), decide_eq_true (by omega)⟩
end Go.Proofs.Ytbhhjlnjhlagdaa
