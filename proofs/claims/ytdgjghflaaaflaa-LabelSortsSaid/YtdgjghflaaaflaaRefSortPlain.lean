/- The plain law of the reference's sort of labels. No condition. -/
import Derived.Test.YtdgjghflaaaflaaMergePlain
namespace Go.Proofs.Ytdgjghflaaaflaa

structure Canon (xs ys : List Label) : Prop where
  rise : ys.Pairwise KLt
  val : ∀ x ∈ ys, getL x.key xs = (x.val, true)
  all : ∀ k, (getL k xs).2 = true → ∃ x ∈ ys, x.key.toList = k.toList

theorem sorted_canon {xs ys : List Label} (h : SortedL xs ys) : Canon xs ys := ⟨sorted_rise h, sorted_val h, sorted_all h⟩

theorem canon_sub {xs ys ys' : List Label} (h : Canon xs ys) (h' : Canon xs ys') : ∀ x ∈ ys, x ∈ ys' := fun x hx => by
  have v := h.val x hx
  obtain ⟨y, hy, hk⟩ := h'.all x.key (by rw [v])
  have v' := h'.val y hy
  rw [getL_congr hk, v] at v'
  have e1 : y.key = x.key := toList_injL.1 hk
  have e2 : x.val = y.val := (Prod.mk.inj v').1
  obtain ⟨xk, xv⟩ := x
  obtain ⟨yk, yv⟩ := y
  dsimp only at e1 e2
  subst e1 e2
  exact hy
theorem canon_same {xs ys ys' : List Label} (h : Canon xs ys) (h' : Canon xs ys') : ys = ys' := rise_eq ys ys' h.rise h'.rise fun x => ⟨canon_sub h h' x, canon_sub h' h x⟩

theorem KLt.trans {x y z : Label} (h1 : KLt x y) (h2 : KLt y z) : KLt x z := less_trans h1 h2
theorem KLt.asym {x y : Label} (h1 : KLt x y) (h2 : KLt y x) : False := by
  have := less_asym h1
  rw [show Op.bytesLess y.key.toList x.key.toList = true from h2] at this
  cases this
theorem KLt.ne {x y : Label} (h1 : KLt x y) (h : x.key.toList = y.key.toList) : False := by
  unfold KLt at h1
  rw [h, less_irrefl] at h1
  cases h1
theorem klt_three (x y : Label) : KLt x y ∨ KLt y x ∨ x.key.toList = y.key.toList := by
  unfold KLt
  cases h1 : Op.bytesLess x.key.toList y.key.toList
  · cases h2 : Op.bytesLess y.key.toList x.key.toList
    · exact .inr (.inr (less_tri h1 h2))
    · exact .inr (.inl rfl)
  · exact .inl rfl
theorem KLt.right {x y z : Label} (h : KLt x y) (e : y.key.toList = z.key.toList) : KLt x z := by
  unfold KLt at h ⊢
  rw [← e]
  exact h

def Cand (out : List Label) (x : Label) : Prop := ∀ y ∈ out, KLt y x

structure RefI (l out : List Label) : Prop where
  rise : out.Pairwise KLt
  val : ∀ x ∈ out, getL x.key l = (x.val, true)
  all : ∀ x ∈ l, (∃ y ∈ out, y.key.toList = x.key.toList) ∨ Cand out x

def BestN (l out : List Label) (i : Nat) : Prop := ∀ t, (h : t < l.length) → t < i → ¬ Cand out l[t]
def BestS (l out : List Label) (i j : Nat) : Prop := ∃ hj : j < l.length, j < i ∧ Cand out l[j] ∧ (∀ t, (h : t < l.length) → t < i → Cand out l[t] → ¬ KLt l[t] l[j]) ∧ (∀ t, (h : t < l.length) → t < j → Cand out l[t] → KLt l[j] l[t])

variable {l out : List Label} {i j : Nat}

theorem bestN_start : BestN l out 0 := fun t _ h => by omega
theorem bestN_skip (hi : i < l.length) (h : BestN l out i) (hc : ¬ Cand out l[i]) : BestN l out (i + 1) := fun t ht h2 => by
  by_cases e : t = i
  · subst e; exact hc
  · exact h t ht (by omega)
theorem bestS_skip (hi : i < l.length) (h : BestS l out i j) (hc : ¬ Cand out l[i]) : BestS l out (i + 1) j := by
  obtain ⟨hj, h1, h2, h3, h4⟩ := h
  refine ⟨hj, by omega, h2, fun t ht h5 hct => ?_, h4⟩
  by_cases e : t = i
  · subst e; exact absurd hct hc
  · exact h3 t ht (by omega) hct
theorem best_new (hi : i < l.length) (h : BestN l out i) (hc : Cand out l[i]) : BestS l out (i + 1) i := by
  refine ⟨hi, by omega, hc, fun t ht h5 hct hk => ?_, fun t ht h5 hct => absurd hct (h t ht h5)⟩
  by_cases e : t = i
  · subst e; exact hk.asym hk
  · exact h t ht (by omega) hct
theorem best_less (hi : i < l.length) (h : BestS l out i j) (hc : Cand out l[i]) (hk : KLt l[i] (l[j]'h.1)) : BestS l out (i + 1) i := by
  obtain ⟨hj, h1, h2, h3, h4⟩ := h
  refine ⟨hi, by omega, hc, fun t ht h5 hct hkt => ?_, fun t ht h5 hct => ?_⟩
  · by_cases e : t = i
    · subst e; exact hkt.asym hkt
    · exact h3 t ht (by omega) hct (hkt.trans hk)
  · rcases klt_three l[j] l[t] with h6 | h6 | h6
    · exact hk.trans h6
    · exact absurd h6 (h3 t ht h5 hct)
    · exact hk.right h6
theorem best_more (hi : i < l.length) (h : BestS l out i j) (hk : ¬ KLt l[i] (l[j]'h.1)) : BestS l out (i + 1) j := by
  obtain ⟨hj, h1, h2, h3, h4⟩ := h
  refine ⟨hj, by omega, h2, fun t ht h5 hct => ?_, h4⟩
  by_cases e : t = i
  · subst e; exact hk
  · exact h3 t ht (by omega) hct

theorem cand_last {n : Nat} (hr : out.Pairwise KLt) (hn : out.length = n + 1) (x : Label) : Cand out x ↔ KLt (out[n]'(by omega)) x := by
  refine ⟨fun h => h _ (List.getElem_mem _), fun h y hy => ?_⟩
  obtain ⟨t, ht, rfl⟩ := List.mem_iff_getElem.1 hy
  by_cases e : t = n
  · subst e; exact h
  · exact (List.pairwise_iff_getElem.1 hr t n ht (by omega) (by omega)).trans h

theorem ref_start (l : List Label) : RefI l [] := ⟨List.Pairwise.nil, (by intro x hx; cases hx), fun x _ => .inr (by intro y hy; cases hy)⟩

theorem ref_done (h : RefI l out) (hb : BestN l out l.length) : Canon l out := by
  refine ⟨h.rise, h.val, fun k hk => ?_⟩
  obtain ⟨x, hx, hxk, _⟩ := getL_mem k l hk
  rcases h.all x hx with ⟨y, hy, e⟩ | hc
  · exact ⟨y, hy, e.trans hxk⟩
  · obtain ⟨t, ht, rfl⟩ := List.mem_iff_getElem.1 hx
    exact absurd hc (hb t ht ht)

theorem getL_first : ∀ (l : List Label) (j : Nat) (hj : j < l.length), (∀ t, (h : t < j) → ¬ (l[t]'(by omega)).key.toList = l[j].key.toList) → getL l[j].key l = (l[j].val, true)
  | x :: l, 0, _, _ => by rw [List.getElem_cons_zero, getL_yes (by simp)]
  | x :: l, j + 1, hj, h => by
    have h0 := h 0 (by omega)
    rw [List.getElem_cons_succ] at h0 ⊢
    rw [getL_no (by rw [beq_iff_eq]; exact h0)]
    exact getL_first l j (by simpa using hj) fun t ht => by
      have := h (t + 1) (by omega)
      simpa using this

theorem ref_step (h : RefI l out) (hb : BestS l out l.length j) : RefI l (out ++ [l[j]'hb.1]) := by
  obtain ⟨hj, h1, h2, h3, h4⟩ := hb
  refine ⟨List.pairwise_append.2 ⟨h.rise, List.pairwise_singleton _ _, fun y hy z hz => ?_⟩, fun x hx => ?_, fun x hx => ?_⟩
  · rw [List.mem_singleton] at hz
    subst hz
    exact h2 y hy
  · rcases List.mem_append.1 hx with hx | hx
    · exact h.val x hx
    · rw [List.mem_singleton] at hx
      subst hx
      exact getL_first l j hj fun t ht e => (h4 t (by omega) ht (fun y hy => (h2 y hy).right e.symm)).ne e.symm
  · rcases h.all x hx with ⟨y, hy, e⟩ | hc
    · exact .inl ⟨y, List.mem_append.2 (.inl hy), e⟩
    · obtain ⟨t, ht, rfl⟩ := List.mem_iff_getElem.1 hx
      rcases klt_three l[j] l[t] with h6 | h6 | h6
      · refine .inr fun y hy => ?_
        rcases List.mem_append.1 hy with hy | hy
        · exact hc y hy
        · rw [List.mem_singleton] at hy
          subst hy
          exact h6
      · exact absurd h6 (h3 t ht ht hc)
      · exact .inl ⟨l[j], by simp, h6⟩

theorem rise_len : ∀ (ys l : List Label), ys.Pairwise KLt → (∀ y ∈ ys, ∃ x ∈ l, x.key.toList = y.key.toList) → ys.length ≤ l.length
  | [], _, _, _ => by simp
  | y :: ys, l, hp, h => by
    obtain ⟨p1, p2⟩ := List.pairwise_cons.1 hp
    obtain ⟨x, hx, e⟩ := h y (by simp)
    obtain ⟨s, t, rfl⟩ := List.append_of_mem hx
    have := rise_len ys (s ++ t) p2 fun z hz => by
      obtain ⟨u, hu, e2⟩ := h z (List.mem_cons_of_mem _ hz)
      refine ⟨u, ?_, e2⟩
      rcases List.mem_append.1 hu with hu | hu
      · exact List.mem_append.2 (.inl hu)
      · rcases List.mem_cons.1 hu with rfl | hu
        · exact ((p1 z hz).ne (e.symm.trans e2)).elim
        · exact List.mem_append.2 (.inr hu)
    simp at this ⊢
    omega

theorem ref_len (h : RefI l out) : out.length ≤ l.length := rise_len out l h.rise fun y hy => by
  have v := h.val y hy
  obtain ⟨x, hx, e, _⟩ := getL_mem y.key l (by rw [v])
  exact ⟨x, hx, e⟩
end Go.Proofs.Ytdgjghflaaaflaa
