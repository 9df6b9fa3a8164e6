/- Regions that draw their order, phase by phase: a phase whose other operations are told by an invariant of which of them are done. No condition; no program. -/
import Derived.Test.YtpbppgfogepjeaaPhase2
namespace Go.Proofs.Ytpbppgfogepjeaa
open Go.ChangeShapes Go.WideShapes Go.ChangeAt Go.RowKit Go.Deep

variable {P : Program} {ops : Array Oper} {ls : List Nat} {lo hi : Nat}

structure PhOkI (ops : Array Oper) (ls : List Nat) (lo hi : Nat) : Prop where
  ord : ∀ (i : Nat) (o : Oper), ops[i]? = some o → ∀ e ∈ o.after, Region.binds .any e = true → e.on < i
  sel : ∀ (i : Nat) (o : Oper), ops[i]? = some o → inR lo hi i = true → isSel o.op = false
  dep : ∀ (i j : Nat) (oi oj : Oper) (t : Nat), ops[i]? = some oi → ops[j]? = some oj → inR lo hi i = true → inR lo hi j = true → oj.dst = some t → t ∈ oi.looksAt ops → (memN ls j = false → ∃ e ∈ oi.after, Region.binds .any e = true ∧ e.on = j) ∧ (memN ls i = false → memN ls j = true → ∃ f, reachB ops f j i = true)
  uniq : ∀ (i j : Nat) (oi oj : Oper) (t : Nat), ops[i]? = some oi → ops[j]? = some oj → inR lo hi i = true → inR lo hi j = true → oi.dst = some t → oj.dst = some t → i = j
  dsts : ∀ (i : Nat) (o : Oper), ops[i]? = some o → inR lo hi i = true → memN ls i = false → ∃ d, o.dst = some d
  late : ∀ (t i : Nat), hi ≤ t → t < ops.size → inR lo hi i = true → i < ops.size → ∃ f, reachB ops f t i = true

structure IMid (P : Program) (ops : Array Oper) (ls : List Nat) (C : World → Prop) (lo hi : Nat) (Inv : (Nat → Bool) → Act → World → Prop) (V : Nat → Value) (D : Array Bool) (a A : Act) (w : World) : Prop where
  size : D.size = ops.size
  down : ∀ (i : Nat) (o : Oper), ops[i]? = some o → D.getD i false = true → ∀ e ∈ o.after, Region.binds .any e = true → D.getD e.on false = true
  low : ∀ i, i < ops.size → i < lo → D.getD i false = true
  high : ∀ i, hi ≤ i → D.getD i false = false
  fsize : a.tmps.size = A.tmps.size
  defers : a.defers = A.defers
  fr : ∀ s, (∀ (i : Nat) (o : Oper), ops[i]? = some o → inR lo hi i = true → memN ls i = false → o.dst = some s → D.getD i false = true) → a.tmps[s]? = A.tmps[s]?
  val : ∀ (i : Nat) (o : Oper), ops[i]? = some o → inR lo hi i = true → memN ls i = false → D.getD i false = false → ∃ d, o.dst = some d ∧ A.tmps[d]? = some (V i) ∧ YieldsC P ops C o (V i) A
  cw : C w
  wl : Inv (fun k => memN ls k && D.getD k false) A w

theorem imid_any {C : World → Prop} {Inv : (Nat → Bool) → Act → World → Prop} {V : Nat → Value} {fuel : Nat} (M : PhOkI ops ls lo hi) {Q : Exit → Act → World → Prop}
    (hgd : ∀ (i : Nat) (o : Oper), ops[i]? = some o → memN ls i = true → o.guard = none)
    (hstep : ∀ (i : Nat) (o : Oper), ops[i]? = some o → memN ls i = true → ∀ d A w, Inv d A w → d i = false → (∀ k, memN ls k = true → reachB ops fuel i k = true → d k = true) → C w → loudUpon P (fun v w' => C w' ∧ Inv (fun k => if k = i then true else d k) (A.put o.dst v) w') ((execOp A.eval o).run P w))
    (hR : ∀ D a w, D.size = ops.size → (∀ i, i < ops.size → D.getD i false = decide (i < hi)) → C w → Inv (fun k => memN ls k && D.getD k false) a w → wpAny P .any ops Q (ops.size - hi) D a w) :
    ∀ (f : Nat) (D : Array Bool) (a A : Act) (w : World), IMid P ops ls C lo hi Inv V D a A w → (List.range ops.size).countP (fun i => inR lo hi i && !D.getD i false) = f → wpAny P .any ops Q (f + (ops.size - hi)) D a w := by
  intro f
  induction f with
  | zero =>
    intro D a A w I hc
    have hall : ∀ i, i < ops.size → inR lo hi i = true → D.getD i false = true := fun i hi' hin => by
      have := List.countP_eq_zero.1 hc i (List.mem_range.2 hi')
      simp only [hin, Bool.true_and, Bool.not_eq_true'] at this
      simpa using this
    have e : a = A := by
      obtain ⟨t1, d1⟩ := a
      obtain ⟨t2, d2⟩ := A
      have h1 := I.defers
      dsimp only at h1
      subst h1
      congr 1
      apply Array.ext_getElem?
      intro s
      exact I.fr s fun i o ho hin _ _ => hall i (Array.getElem?_eq_some_iff.1 ho).1 hin
    rw [Nat.zero_add]
    refine hR D a w I.size (fun i hi' => ?_) I.cw (e ▸ I.wl)
    by_cases h1 : i < lo
    · by_cases h2 : i < hi
      · rw [I.low i hi' h1, decide_eq_true h2]
      · have := I.low i hi' h1
        rw [I.high i (by omega)] at this
        cases this
    · by_cases h2 : i < hi
      · rw [hall i hi' (inR_iff.2 ⟨by omega, h2⟩), decide_eq_true h2]
      · rw [I.high i (by omega), decide_eq_false h2]
  | succ f ih =>
    intro D a A w I hc
    obtain ⟨u, hu1, hu2, hu3⟩ : ∃ u, u < ops.size ∧ inR lo hi u = true ∧ D.getD u false = false := by
      have : 0 < (List.range ops.size).countP (fun i => inR lo hi i && !D.getD i false) := by omega
      obtain ⟨u, h1, h2⟩ := List.countP_pos_iff.1 this
      simp only [Bool.and_eq_true, Bool.not_eq_true'] at h2
      exact ⟨u, List.mem_range.1 h1, h2.1, h2.2⟩
    rw [show f + 1 + (ops.size - hi) = f + (ops.size - hi) + 1 by omega]
    refine ⟨fun h0 => ?_, fun i hi' => ?_⟩
    · have := head_full I.size M.ord h0 u hu1
      rw [hu3] at this
      cases this
    obtain ⟨h1, o, ho, hafter⟩ := mem_ready.1 hi'
    have hDi : D.getD i false = false := getD_both h1
    have hlt := (Array.getElem?_eq_some_iff.1 ho).1
    have hltD : i < D.size := by rw [I.size]; exact hlt
    have hgo : ∀ g j, reachB ops g i j = true → D.getD j false = true := fun g j hg => reach_down (D := fun k => D.getD k false = true) I.down g i j hg (fun o' ho' e he hb => by rw [ho] at ho'; cases ho'; exact hafter e he hb)
    have hin : inR lo hi i = true := by
      refine inR_iff.2 ⟨?_, ?_⟩
      · rcases Nat.lt_or_ge i lo with h | h
        · have := I.low i hlt h
          rw [hDi] at this
          cases this
        · exact h
      · rcases Nat.lt_or_ge i hi with h | h
        · exact h
        · obtain ⟨g, hg⟩ := M.late i u h hlt hu2 hu1
          have := hgo g u hg
          rw [hu3] at this
          cases this
    have hcount : (List.range ops.size).countP (fun k => inR lo hi k && !(D.setIfInBounds i true).getD k false) = f := by
      have := countP_one (i := i) (p := fun k => inR lo hi k && !(D.setIfInBounds i true).getD k false) (q := fun k => inR lo hi k && !D.getD k false) (by rw [getD_put hltD, if_pos rfl]; simp) (by rw [hin, hDi]; rfl)
        (fun k hk => by rw [getD_put hltD, if_neg (fun e => hk e.symm)]) List.nodup_range (List.mem_range.2 hlt)
      omega
    have hdown2 : ∀ (k : Nat) (ok : Oper), ops[k]? = some ok → (D.setIfInBounds i true).getD k false = true → ∀ e ∈ ok.after, Region.binds .any e = true → (D.setIfInBounds i true).getD e.on false = true := by
      intro k ok hok hk e he hb
      rw [getD_put hltD] at hk ⊢
      by_cases ek : i = k
      · subst ek
        rw [ho] at hok
        cases hok
        rw [hafter e he hb]
        split <;> rfl
      · rw [if_neg ek] at hk
        rw [I.down k ok hok hk e he hb]
        split <;> rfl
    have hlow2 : ∀ k, k < ops.size → k < lo → (D.setIfInBounds i true).getD k false = true := fun k k1 k2 => by
      rw [getD_put hltD, I.low k k1 k2]
      split <;> rfl
    have hhigh2 : ∀ k, hi ≤ k → (D.setIfInBounds i true).getD k false = false := fun k k1 => by
      rw [getD_put hltD, if_neg (fun e => by have := (inR_iff.1 hin).2; omega), I.high k k1]
    have hlooks : ∀ t ∈ o.looksAt ops, a.tmps[t]? = A.tmps[t]? := by
      intro t ht
      refine I.fr t fun k ok hok hink hqk hdk => ?_
      obtain ⟨e, he, hb, hk⟩ := (M.dep i k o ok t ho hok hin hink hdk ht).1 hqk
      rw [← hk]
      exact hafter e he hb
    obtain ⟨hev, hwt⟩ := looks_eval (M.sel i o ho hin) hlooks
    unfold wpOp
    simp only [ho]
    have hunl : ∀ k, (D.setIfInBounds i true).getD k false = false → i ≠ k ∧ D.getD k false = false := fun k hk => by
      rw [getD_put hltD] at hk
      split at hk
      · cases hk
      · rename_i hne
        exact ⟨hne, hk⟩
    cases hq : memN ls i with
    | false =>
      obtain ⟨d, hd, hAd, hy⟩ := I.val i o ho hin hq hDi
      have hnext : wpAny P .any ops Q (f + (ops.size - hi)) (D.setIfInBounds i true) (a.put o.dst (V i)) w := by
        refine ih _ _ A w ⟨by simp [I.size], hdown2, hlow2, hhigh2, ?_, ?_, fun s hs => ?_, fun k ok hok hink hqk hDk => I.val k ok hok hink hqk (hunl k hDk).2, I.cw, ?_⟩ hcount
        · rw [hd]; simp [Act.put, I.fsize]
        · rw [hd]; exact I.defers
        · rw [hd]
          simp only [Act.put]
          rw [Array.getElem?_setIfInBounds]
          by_cases e : d = s
          · subst e
            have : d < a.tmps.size := by
              rw [I.fsize]
              exact (Array.getElem?_eq_some_iff.1 hAd).1
            rw [if_pos rfl, if_pos this, hAd]
          · rw [if_neg e]
            refine I.fr s fun k ok hok hink hqk hdk => ?_
            have := hs k ok hok hink hqk hdk
            rw [getD_put hltD] at this
            split at this
            · rename_i ek
              subst ek
              rw [ho] at hok
              cases hok
              rw [hd] at hdk
              exact absurd (Option.some.inj hdk) e
            · exact this
        · have e : (fun k => memN ls k && (D.setIfInBounds i true).getD k false) = (fun k => memN ls k && D.getD k false) := by
            funext k
            rw [getD_put hltD]
            split
            · rename_i ek
              subst ek
              rw [hq]
              rfl
            · rfl
          rw [e]
          exact I.wl
      rw [hwt]
      unfold YieldsC at hy
      split
      · rename_i hw
        rw [if_pos hw] at hy
        refine .inl ?_
        unfold Oper.wp
        rw [hev, hy w (fun _ => I.cw)]
        exact hnext
      · rename_i hw
        rw [if_neg hw] at hy
        rw [hy] at hnext
        exact hnext
    | true =>
      have hnext : ∀ (v : Value) (w' : World), C w' → Inv (fun k => if k = i then true else memN ls k && D.getD k false) (A.put o.dst v) w' →
          wpAny P .any ops Q (f + (ops.size - hi)) (D.setIfInBounds i true) (a.put o.dst v) w' := by
        intro v w' hC hl
        refine ih _ _ (A.put o.dst v) w' ⟨by simp [I.size], hdown2, hlow2, hhigh2, ?_, ?_, fun s hs => ?_, fun k ok hok hink hqk hDk => ?_, hC, ?_⟩ hcount
        · cases o.dst <;> simp [Act.put, I.fsize]
        · cases o.dst <;> exact I.defers
        · have hold := I.fr s fun k ok hok hink hqk hdk => by
            have := hs k ok hok hink hqk hdk
            rw [getD_put hltD] at this
            split at this
            · rename_i ek
              subst ek
              rw [hq] at hqk
              cases hqk
            · exact this
          cases hd : o.dst with
          | none => exact hold
          | some d =>
            simp only [Act.put]
            rw [Array.getElem?_setIfInBounds, Array.getElem?_setIfInBounds, hold, I.fsize]
        · obtain ⟨_, hDk'⟩ := hunl k hDk
          obtain ⟨dk, h1, h2, h3⟩ := I.val k ok hok hink hqk hDk'
          cases hd : o.dst with
          | none => exact ⟨dk, h1, h2, h3⟩
          | some d =>
            have hne : d ≠ dk := fun e => by
              subst e
              have := M.uniq i k o ok d ho hok hin hink hd h1
              subst this
              rw [hq] at hqk
              cases hqk
            refine ⟨dk, h1, ?_, h3.of_same (M.sel k ok hok hink) fun t ht => ?_⟩
            · simp only [Act.put]
              rw [Array.getElem?_setIfInBounds, if_neg hne, h2]
            · simp only [Act.put]
              rw [Array.getElem?_setIfInBounds, if_neg (fun e => by
                subst e
                obtain ⟨g, hg⟩ := (M.dep k i ok o d hok ho hink hin hd ht).2 hqk hq
                have := hgo g k hg
                rw [hDk'] at this
                cases this)]
        · have e : (fun k => memN ls k && (D.setIfInBounds i true).getD k false) = (fun k => if k = i then true else memN ls k && D.getD k false) := by
            funext k
            rw [getD_put hltD]
            by_cases ek : i = k
            · subst ek
              rw [if_pos rfl, if_pos rfl, hq]
              rfl
            · rw [if_neg ek, if_neg (fun e => ek e.symm)]
          rw [e]
          exact hl
      have hs := hstep i o ho hq (fun k => memN ls k && D.getD k false) A w I.wl (by rw [hDi, Bool.and_false]) (fun k hk hr => by rw [hk, hgo fuel k hr]; rfl) I.cw
      have hwA : Region.wanted o (yielded ops A.tmps) = true := by simp [Region.wanted, hgd i o ho hq]
      rw [hwt, if_pos hwA]
      refine .inl (loud_wp ?_)
      rw [hev]
      exact loudUpon_mono (fun v w' ⟨hb, hl'⟩ => hnext v w' hb hl') hs

theorem later_count {D : Array Bool} {n lo hi : Nat} (hl : ∀ i, i < n → D.getD i false = decide (i < lo)) (hlh : lo ≤ hi) (hhi : hi ≤ n) : (List.range n).countP (fun i => inR lo hi i && !D.getD i false) = hi - lo := by
  have hcnt : ∀ m, m ≤ n → (List.range m).countP (fun i => inR lo hi i && !D.getD i false) = min m hi - lo := by
    intro m
    induction m with
    | zero => intro _; simp
    | succ m ih =>
      intro h2
      rw [List.range_succ, List.countP_append, List.countP_singleton, ih (by omega)]
      by_cases hn : lo ≤ m
      · by_cases hnh : m < hi
        · rw [if_pos (by rw [inR_iff.2 ⟨hn, hnh⟩, hl m (by omega), decide_eq_false (by omega)]; rfl)]
          omega
        · rw [if_neg (by
            have : inR lo hi m = false := by
              cases hx : inR lo hi m
              · rfl
              · exact absurd (inR_iff.1 hx).2 hnh
            rw [this]; simp)]
          omega
      · rw [if_neg (by
          have : inR lo hi m = false := by
            cases hx : inR lo hi m
            · rfl
            · exact absurd (inR_iff.1 hx).1 hn
          rw [this]; simp)]
        omega
  rw [hcnt n (Nat.le_refl _), Nat.min_eq_right hhi]

def pairI (ops : Array Oper) (ls : List Nat) (fuel i j : Nat) (oi oj : Oper) : Bool :=
  (match oj.dst with
   | none => true
   | some t => !memN (oi.looksAt ops) t || ((memN ls j || oi.after.any (fun e => Region.binds .any e && e.on == j)) && (!(!memN ls i && memN ls j) || reachB ops fuel j i))) &&
  ((match oi.dst with
   | none => true
   | some t => match oj.dst with
     | none => true
     | some u => Nat.beq i j || !Nat.beq t u))
def phaseI (l : List Oper) (ls : List Nat) (lo hi fuel : Nat) : Bool :=
  ordL l 0 && (Nat.ble hi l.length && (idxAll (fun i oi => !inR lo hi i || ((!isSel oi.op && (memN ls i || oi.dst.isSome)) && idxAll (fun j oj => !inR lo hi j || pairI l.toArray ls fuel i j oi oj) l 0)) l 0 &&
    idxAll (fun t _ => !Nat.ble hi t || idxAll (fun i _ => !inR lo hi i || reachB l.toArray fuel t i) l 0) l 0))

theorem phaseI_ok {l : List Oper} {ls : List Nat} {lo hi fuel : Nat} (h : phaseI l ls lo hi fuel = true) : hi ≤ l.length ∧ PhOkI l.toArray ls lo hi := by
  unfold phaseI at h
  simp only [Bool.and_eq_true] at h
  obtain ⟨h1, h0, h2, h3⟩ := h
  have hg : ∀ {i : Nat} {o : Oper}, l.toArray[i]? = some o → l[i]? = some o := fun h => by simpa using h
  have hone : ∀ (i : Nat) (o : Oper), l.toArray[i]? = some o → inR lo hi i = true → (isSel o.op = false ∧ (memN ls i = false → ∃ d, o.dst = some d)) ∧ ∀ (j : Nat) (oj : Oper), l.toArray[j]? = some oj → inR lo hi j = true → pairI l.toArray ls fuel i j o oj = true := by
    intro i o ho hin
    have := idxAll_spec h2 i o (hg ho)
    rw [Nat.zero_add, hin] at this
    simp only [Bool.not_true, Bool.false_or, Bool.and_eq_true, Bool.or_eq_true, Bool.not_eq_true'] at this
    refine ⟨⟨this.1.1, fun hq => ?_⟩, fun j oj hj hinj => ?_⟩
    · rcases this.1.2 with h | h
      · rw [hq] at h; cases h
      · exact Option.isSome_iff_exists.1 h
    · have := idxAll_spec this.2 j oj (hg hj)
      rw [Nat.zero_add, hinj] at this
      simpa using this
  have hin : ∀ (l : List Nat) (t : Nat), memN l t = false → t ∉ l := fun l t h hh => by rw [memN_of hh] at h; cases h
  refine ⟨Nat.le_of_ble_eq_true h0, fun i o ho => ?_, fun i o ho hi => (hone i o ho hi).1.1, fun i j oi oj t hi hj hii hij hd ht => ?_, fun i j oi oj t hi hj hii hij hdi hdj => ?_, fun i o ho hi => (hone i o ho hi).1.2, fun t i ht hts hi his => ⟨fuel, ?_⟩⟩
  · have := ordL_spec h1 i o (hg ho)
    simpa using this
  · have := (hone i oi hi hii).2 j oj hj hij
    unfold pairI at this
    rw [hd] at this
    simp only [Bool.and_eq_true, Bool.or_eq_true, Bool.not_eq_true'] at this
    rcases this.1 with h | ⟨h, h'⟩
    · exact absurd ht (hin _ _ h)
    · refine ⟨fun hq => ?_, fun hq hq2 => ⟨fuel, ?_⟩⟩
      · rcases h with h | h
        · rw [hq] at h; cases h
        · obtain ⟨e, he, hb⟩ := Array.any_eq_true'.1 h
          simp only [Bool.and_eq_true, beq_iff_eq] at hb
          exact ⟨e, he, hb.1, hb.2⟩
      · rcases h' with h' | h'
        · rw [hq, hq2] at h'; cases h'
        · exact h'
  · have := (hone i oi hi hii).2 j oj hj hij
    unfold pairI at this
    rw [hdi, hdj] at this
    simp only [Bool.and_eq_true, Bool.or_eq_true, Bool.not_eq_true'] at this
    rcases this.2 with h | h
    · exact beq_true h
    · rw [Nat.beq_refl] at h; cases h
  · obtain ⟨ot, hot⟩ : ∃ o, l[t]? = some o := ⟨_, List.getElem?_eq_getElem (by simpa using hts)⟩
    obtain ⟨oi, hoi⟩ : ∃ o, l[i]? = some o := ⟨_, List.getElem?_eq_getElem (by simpa using his)⟩
    have := idxAll_spec h3 t ot hot
    rw [Nat.zero_add, Nat.ble_eq_true_of_le ht] at this
    simp only [Bool.not_true, Bool.false_or] at this
    have := idxAll_spec this i oi hoi
    rw [Nat.zero_add, hi] at this
    simpa using this


section
variable {P : Program} {l : List Oper} {Q : Exit → Act → World → Prop} {a : Act} {w : World}
def plainB (ls : List Nat) (lo hi : Nat) (l : List Oper) : Bool := ls.all fun j => inR lo hi j && (match nthOp j l with | some o => o.guard.isNone | none => false)
theorem later_inv (C : World → Prop) (Inv : (Nat → Bool) → Act → World → Prop) (ls : List Nat) (lo hi fuel : Nat) (hB : (phaseI l ls lo hi fuel && (lateB l.toArray (quietR ls lo hi l 0) && (plainB ls lo hi l && Nat.ble lo hi))) = true) (hd : dstLt a.tmps.size (quietR ls lo hi l 0) = true) (hC : C w)
    (hstep : ∀ (i : Nat) (o : Oper), nthOp i l = some o → i ∈ ls → ∀ d A w, Inv d A w → d i = false → (∀ k, memN ls k = true → reachB l.toArray fuel i k = true → d k = true) → C w → loudUpon P (fun v w' => C w' ∧ Inv (fun k => if k = i then true else d k) (A.put o.dst v) w') ((execOp A.eval o).run P w))
    (hR : ∀ A w, C w → (∃ d, Inv d A w ∧ ∀ k ∈ ls, d k = true) → Later P l Q hi A w)
    (h : wpVal P l.toArray C (fun A => Inv (fun _ => false) A w) (quietR ls lo hi l 0) a) : Later P l Q lo a w := by
  simp only [Bool.and_eq_true] at hB
  obtain ⟨hB, hL, hpl, hlh⟩ := hB
  have hlh := Nat.le_of_ble_eq_true hlh
  obtain ⟨hhi, M⟩ := phaseI_ok hB
  have hmem : ∀ j, memN ls j = true ↔ j ∈ ls := fun j => ⟨fun h => memN_mem h, memN_of⟩
  have hnth : ∀ (i : Nat) (o : Oper), l.toArray[i]? = some o → nthOp i l = some o := by
    intro i o ho
    have h1 : ∀ (m : List Oper) (i : Nat), m[i]? = nthOp i m := by
      intro m
      induction m with
      | nil => intro i; cases i <;> rfl
      | cons x m ih =>
        intro i
        cases i with
        | zero => rfl
        | succ i => simpa [nthOp] using ih i
    rw [← h1]
    simpa using ho
  intro D hD hl
  obtain ⟨A, hw, i2, i3, i4, i5⟩ := wpVal_vals (quietR ls lo hi l 0) a _ rfl (fun o ho d hdd => by
    have := List.all_eq_true.1 hd o ho
    rw [hdd] at this
    exact Nat.blt_eq ▸ this) h hL
  have hcnt : (List.range l.length).countP (fun i => inR lo hi i && !D.getD i false) = hi - lo := later_count hl hlh hhi
  have hfuel : l.length - lo = (hi - lo) + (l.toArray.size - hi) := by
    simp only [List.size_toArray]
    omega
  rw [hfuel]
  have hgd : ∀ (i : Nat) (o : Oper), l.toArray[i]? = some o → memN ls i = true → o.guard = none := by
    intro i o ho hi
    have := List.all_eq_true.1 hpl i ((hmem i).1 hi)
    rw [hnth i o ho] at this
    simp only [Bool.and_eq_true, Option.isNone_iff_eq_none] at this
    exact this.2
  have hlin : ∀ k, memN ls k = true → inR lo hi k = true := fun k hk => by
    have := List.all_eq_true.1 hpl k ((hmem k).1 hk)
    simp only [Bool.and_eq_true] at this
    exact this.1
  refine imid_any (C := C) (Inv := Inv) (fuel := fuel) (V := fun i => match (l.toArray[i]?).bind (·.dst) with | some d => A.tmps.getD d undef | none => undef) M hgd
    (fun i o ho hi d A' w' hI hd hb hc => hstep i o (hnth i o ho) ((hmem i).1 hi) d A' w' hI hd hb hc)
    (fun D' a' w' h1 h2 hC' h3 => by
      have := hR a' w' hC' ⟨_, h3, fun k hk => ?_⟩ D' (by simpa using h1) (by simpa using h2)
      · simpa using this
      · have hk' := (hmem k).2 hk
        have := (inR_iff.1 (hlin k hk')).2
        have hks : k < l.toArray.size := by simp; omega
        rw [hk', h2 k hks, decide_eq_true this]
        rfl) _ D a A w ?_ ?_
  · refine ⟨by simpa using hD, fun i o ho hdi e he hb => ?_, fun i h1 h2 => ?_, fun i h1 => ?_, i2.symm, i3.symm, fun s hs => ?_, fun i o ho hin hq _ => ?_, hC, ?_⟩
    · have hlt : i < l.length := by have := (Array.getElem?_eq_some_iff.1 ho).1; simpa using this
      rw [hl i hlt, decide_eq_true_iff] at hdi
      have := M.ord i o ho e he hb
      rw [hl _ (by omega), decide_eq_true (by omega)]
    · rw [hl i (by simpa using h1), decide_eq_true h2]
    · rcases Nat.lt_or_ge i l.length with h2 | h2
      · rw [hl i h2, decide_eq_false (by omega)]
      · rw [Array.getD_eq_getD_getElem?, Array.getElem?_eq_none (by omega)]
        rfl
    · refine (i4 s fun hh => ?_).symm
      unfold dstsOf at hh
      obtain ⟨o, ho, hd⟩ := List.mem_filterMap.1 hh
      obtain ⟨i, h1, h2⟩ := quietR_spec.1 ho
      rw [Nat.zero_add, Bool.and_eq_true, Bool.not_eq_true'] at h2
      have := hs i o (by simpa using h1) h2.1 h2.2 hd
      have hlt : i < l.length := (List.getElem?_eq_some_iff.1 h1).1
      rw [hl i hlt, decide_eq_true_iff] at this
      have := (inR_iff.1 h2.1).1
      omega
    · obtain ⟨d, v, hd, hv, hy⟩ := i5 o (quietR_spec.2 ⟨i, by simpa using ho, by rw [Nat.zero_add, hin, hq]; rfl⟩)
      refine ⟨d, hd, ?_, ?_⟩
      · rw [ho]
        simp only [Option.bind_some, hd, Array.getD_eq_getD_getElem?, hv, Option.getD_some]
      · rw [ho]
        simp only [Option.bind_some, hd, Array.getD_eq_getD_getElem?, hv, Option.getD_some]
        exact hy
    · have e : (fun k => memN ls k && D.getD k false) = fun _ => false := by
        funext k
        cases hk : memN ls k
        · rfl
        · have := inR_iff.1 (hlin k hk)
          rw [hl k (by omega), decide_eq_false (by omega)]
          rfl
      rw [e]
      exact hw
  · simpa using hcnt
end
end Go.Proofs.Ytpbppgfogepjeaa
