/- Regions that draw their order, phase by phase: in each phase the computing operations are walked in the text's order, then a chain of others; a phase is over when all of it is done. No condition; no program. -/
import Derived.Test.YtoamjihchmokcaaValM
namespace Go.Proofs.Ytoamjihchmokcaa
open Go.ChangeShapes Go.WideShapes Go.ChangeAt Go.RowKit Go.Deep

variable {P : Program} {ops : Array Oper} {ls : List Nat} {lo hi : Nat}

def inR (lo hi i : Nat) : Bool := Nat.ble lo i && Nat.blt i hi
theorem inR_iff {i : Nat} : inR lo hi i = true ↔ lo ≤ i ∧ i < hi := by
  unfold inR
  rw [Bool.and_eq_true, Nat.ble_eq, Nat.blt_eq]

structure PhOk (ops : Array Oper) (ls : List Nat) (b lo hi : Nat) : Prop where
  ord : ∀ (i : Nat) (o : Oper), ops[i]? = some o → ∀ e ∈ o.after, Region.binds .any e = true → e.on < i
  sel : ∀ (i : Nat) (o : Oper), ops[i]? = some o → inR lo hi i = true → isSel o.op = false
  dep : ∀ (i j : Nat) (oi oj : Oper) (t : Nat), ops[i]? = some oi → ops[j]? = some oj → inR lo hi i = true → inR lo hi j = true → oj.dst = some t → t ∈ oi.looksAt ops → (memN ls j = false → ∃ e ∈ oi.after, Region.binds .any e = true ∧ e.on = j) ∧ (memN ls i = false → memN ls j = true → ∃ f, reachB ops f j i = true)
  uniq : ∀ (i j : Nat) (oi oj : Oper) (t : Nat), ops[i]? = some oi → ops[j]? = some oj → inR lo hi i = true → inR lo hi j = true → oi.dst = some t → oj.dst = some t → i = j
  chain : ∀ (i j : Nat) (oi oj : Oper), i < j → ops[i]? = some oi → ops[j]? = some oj → inR lo hi i = true → inR lo hi j = true → memN ls i = true → memN ls j = true → ∃ f, reachB ops f j i = true
  read : ∀ (i j : Nat) (oi oj : Oper), ops[i]? = some oi → ops[j]? = some oj → inR lo hi i = true → inR lo hi j = true → memN ls i = false → memOp oi.op = true → memN ls j = true → b ≤ j → ∃ f, reachB ops f j i = true
  dsts : ∀ (i : Nat) (o : Oper), ops[i]? = some o → inR lo hi i = true → memN ls i = false → ∃ d, o.dst = some d
  late : ∀ (t i : Nat), hi ≤ t → t < ops.size → inR lo hi i = true → i < ops.size → ∃ f, reachB ops f t i = true

structure PMid (P : Program) (ops : Array Oper) (ls : List Nat) (C : World → Prop) (b lo hi : Nat) (R : Act → World → Prop) (V : Nat → Value) (D : Array Bool) (a A : Act) (w : World) (r : List Nat) : Prop where
  size : D.size = ops.size
  down : ∀ (i : Nat) (o : Oper), ops[i]? = some o → D.getD i false = true → ∀ e ∈ o.after, Region.binds .any e = true → D.getD e.on false = true
  low : ∀ i, i < ops.size → i < lo → D.getD i false = true
  high : ∀ i, hi ≤ i → D.getD i false = false
  sorted : r.Pairwise (· < ·)
  rem : ∀ j, j ∈ r ↔ ∃ o : Oper, ops[j]? = some o ∧ inR lo hi j = true ∧ memN ls j = true ∧ D.getD j false = false
  fsize : a.tmps.size = A.tmps.size
  defers : a.defers = A.defers
  fr : ∀ s, (∀ (i : Nat) (o : Oper), ops[i]? = some o → inR lo hi i = true → memN ls i = false → o.dst = some s → D.getD i false = true) → a.tmps[s]? = A.tmps[s]?
  val : ∀ (i : Nat) (o : Oper), ops[i]? = some o → inR lo hi i = true → memN ls i = false → D.getD i false = false → ∃ d, o.dst = some d ∧ A.tmps[d]? = some (V i) ∧ YieldsC P ops C o (V i) A
  cw : (∃ (i : Nat) (o : Oper), ops[i]? = some o ∧ inR lo hi i = true ∧ memN ls i = false ∧ memOp o.op = true ∧ D.getD i false = false) → C w
  wl : wpLoud P ops C b R r A w

theorem countP_one {p q : Nat → Bool} {i : Nat} (hp : p i = false) (hq : q i = true) (h : ∀ k, k ≠ i → p k = q k) : ∀ {l : List Nat}, l.Nodup → i ∈ l → l.countP q = l.countP p + 1
  | [], _, hi => by cases hi
  | x :: l, hn, hi => by
    obtain ⟨hx, hn⟩ := List.nodup_cons.1 hn
    rw [List.countP_cons, List.countP_cons]
    rcases List.mem_cons.1 hi with rfl | hi
    · rw [hp, hq]
      have : l.countP q = l.countP p := List.countP_congr fun k hk => by rw [h k (fun e => hx (e ▸ hk))]
      simp [this]
    · have := countP_one hp hq h hn hi
      have hxi : x ≠ i := fun e => hx (e ▸ hi)
      rw [h x hxi, this]
      omega

theorem pmid_any {C : World → Prop} {b : Nat} {R : Act → World → Prop} {V : Nat → Value} (M : PhOk ops ls b lo hi) {Q : Exit → Act → World → Prop}
    (hR : ∀ D a w, D.size = ops.size → (∀ i, i < ops.size → D.getD i false = decide (i < hi)) → R a w → wpAny P .any ops Q (ops.size - hi) D a w) :
    ∀ (f : Nat) (D : Array Bool) (a A : Act) (w : World) (r : List Nat), PMid P ops ls C b lo hi R V D a A w r → (List.range ops.size).countP (fun i => inR lo hi i && !D.getD i false) = f → wpAny P .any ops Q (f + (ops.size - hi)) D a w := by
  intro f
  induction f with
  | zero =>
    intro D a A w r I hc
    have hall : ∀ i, i < ops.size → inR lo hi i = true → D.getD i false = true := fun i hi' hin => by
      have := List.countP_eq_zero.1 hc i (List.mem_range.2 hi')
      simp only [hin, Bool.true_and, Bool.not_eq_true'] at this
      simpa using this
    have hr : r = [] := by
      refine List.eq_nil_iff_forall_not_mem.2 fun j hj => ?_
      obtain ⟨o, ho, h1, _, hd⟩ := (I.rem j).1 hj
      rw [hall j (Array.getElem?_eq_some_iff.1 ho).1 h1] at hd
      cases hd
    have hw := I.wl
    rw [hr] at hw
    have e : a = A := by
      obtain ⟨t1, d1⟩ := a
      obtain ⟨t2, d2⟩ := A
      have h1 := I.defers
      dsimp only at h1
      subst h1
      congr 1
      apply Array.ext_getElem?
      intro s
      exact I.fr s fun i o ho hin _ _ => hall i (Array.getElem?_eq_some_iff.1 ho).1 hin
    rw [Nat.zero_add]
    refine hR D a w I.size (fun i hi' => ?_) (e ▸ hw)
    by_cases h1 : i < lo
    · by_cases h2 : i < hi
      · rw [I.low i hi' h1, decide_eq_true h2]
      · have := I.low i hi' h1
        rw [I.high i (by omega)] at this
        cases this
    · by_cases h2 : i < hi
      · rw [hall i hi' (inR_iff.2 ⟨by omega, h2⟩), decide_eq_true h2]
      · rw [I.high i (by omega), decide_eq_false h2]
  | succ f ih =>
    intro D a A w r I hc
    obtain ⟨u, hu1, hu2, hu3⟩ : ∃ u, u < ops.size ∧ inR lo hi u = true ∧ D.getD u false = false := by
      have : 0 < (List.range ops.size).countP (fun i => inR lo hi i && !D.getD i false) := by omega
      obtain ⟨u, h1, h2⟩ := List.countP_pos_iff.1 this
      simp only [Bool.and_eq_true, Bool.not_eq_true'] at h2
      exact ⟨u, List.mem_range.1 h1, h2.1, h2.2⟩
    rw [show f + 1 + (ops.size - hi) = f + (ops.size - hi) + 1 by omega]
    refine ⟨fun h0 => ?_, fun i hi' => ?_⟩
    · have := head_full I.size M.ord h0 u hu1
      rw [hu3] at this
      cases this
    obtain ⟨h1, o, ho, hafter⟩ := mem_ready.1 hi'
    have hDi : D.getD i false = false := getD_both h1
    have hlt := (Array.getElem?_eq_some_iff.1 ho).1
    have hltD : i < D.size := by rw [I.size]; exact hlt
    have hgo : ∀ g j, reachB ops g i j = true → D.getD j false = true := fun g j hg => reach_down (D := fun k => D.getD k false = true) I.down g i j hg (fun o' ho' e he hb => by rw [ho] at ho'; cases ho'; exact hafter e he hb)
    have hin : inR lo hi i = true := by
      refine inR_iff.2 ⟨?_, ?_⟩
      · rcases Nat.lt_or_ge i lo with h | h
        · have := I.low i hlt h
          rw [hDi] at this
          cases this
        · exact h
      · rcases Nat.lt_or_ge i hi with h | h
        · exact h
        · obtain ⟨g, hg⟩ := M.late i u h hlt hu2 hu1
          have := hgo g u hg
          rw [hu3] at this
          cases this
    have hcount : (List.range ops.size).countP (fun k => inR lo hi k && !(D.setIfInBounds i true).getD k false) = f := by
      have := countP_one (i := i) (p := fun k => inR lo hi k && !(D.setIfInBounds i true).getD k false) (q := fun k => inR lo hi k && !D.getD k false) (by rw [getD_put hltD, if_pos rfl]; simp) (by rw [hin, hDi]; rfl)
        (fun k hk => by rw [getD_put hltD, if_neg (fun e => hk e.symm)]) List.nodup_range (List.mem_range.2 hlt)
      omega
    have hdown2 : ∀ (k : Nat) (ok : Oper), ops[k]? = some ok → (D.setIfInBounds i true).getD k false = true → ∀ e ∈ ok.after, Region.binds .any e = true → (D.setIfInBounds i true).getD e.on false = true := by
      intro k ok hok hk e he hb
      rw [getD_put hltD] at hk ⊢
      by_cases ek : i = k
      · subst ek
        rw [ho] at hok
        cases hok
        rw [hafter e he hb]
        split <;> rfl
      · rw [if_neg ek] at hk
        rw [I.down k ok hok hk e he hb]
        split <;> rfl
    have hlow2 : ∀ k, k < ops.size → k < lo → (D.setIfInBounds i true).getD k false = true := fun k k1 k2 => by
      rw [getD_put hltD, I.low k k1 k2]
      split <;> rfl
    have hhigh2 : ∀ k, hi ≤ k → (D.setIfInBounds i true).getD k false = false := fun k k1 => by
      rw [getD_put hltD, if_neg (fun e => by have := (inR_iff.1 hin).2; omega), I.high k k1]
    have hlooks : ∀ t ∈ o.looksAt ops, a.tmps[t]? = A.tmps[t]? := by
      intro t ht
      refine I.fr t fun k ok hok hink hqk hdk => ?_
      obtain ⟨e, he, hb, hk⟩ := (M.dep i k o ok t ho hok hin hink hdk ht).1 hqk
      rw [← hk]
      exact hafter e he hb
    obtain ⟨hev, hwt⟩ := looks_eval (M.sel i o ho hin) hlooks
    unfold wpOp
    simp only [ho]
    have hunl : ∀ k, (D.setIfInBounds i true).getD k false = false → i ≠ k ∧ D.getD k false = false := fun k hk => by
      rw [getD_put hltD] at hk
      split at hk
      · cases hk
      · rename_i hne
        exact ⟨hne, hk⟩
    cases hq : memN ls i with
    | false =>
      obtain ⟨d, hd, hAd, hy⟩ := I.val i o ho hin hq hDi
      have hnext : wpAny P .any ops Q (f + (ops.size - hi)) (D.setIfInBounds i true) (a.put o.dst (V i)) w := by
        refine ih _ _ A w r ⟨by simp [I.size], hdown2, hlow2, hhigh2, I.sorted, fun j => ?_, ?_, ?_, fun s hs => ?_, fun k ok hok hink hqk hDk => I.val k ok hok hink hqk (hunl k hDk).2, fun ⟨k, ok, k1, k2, k3, k4, k5⟩ => I.cw ⟨k, ok, k1, k2, k3, k4, (hunl k k5).2⟩, I.wl⟩ hcount
        · rw [I.rem j]
          constructor
          · rintro ⟨oj, h1, h2, h3, h4⟩
            refine ⟨oj, h1, h2, h3, ?_⟩
            rw [getD_put hltD, if_neg (fun e => ?_)]
            · exact h4
            · subst e
              rw [hq] at h3
              cases h3
          · rintro ⟨oj, h1, h2, h3, h4⟩
            exact ⟨oj, h1, h2, h3, (hunl j h4).2⟩
        · rw [hd]; simp [Act.put, I.fsize]
        · rw [hd]; exact I.defers
        · rw [hd]
          simp only [Act.put]
          rw [Array.getElem?_setIfInBounds]
          by_cases e : d = s
          · subst e
            have : d < a.tmps.size := by
              rw [I.fsize]
              exact (Array.getElem?_eq_some_iff.1 hAd).1
            rw [if_pos rfl, if_pos this, hAd]
          · rw [if_neg e]
            refine I.fr s fun k ok hok hink hqk hdk => ?_
            have := hs k ok hok hink hqk hdk
            rw [getD_put hltD] at this
            split at this
            · rename_i ek
              subst ek
              rw [ho] at hok
              cases hok
              rw [hd] at hdk
              exact absurd (Option.some.inj hdk) e
            · exact this
      rw [hwt]
      unfold YieldsC at hy
      split
      · rename_i hw
        rw [if_pos hw] at hy
        refine .inl ?_
        unfold Oper.wp
        rw [hev, hy w (fun hm => I.cw ⟨i, o, ho, hin, hq, hm, hDi⟩)]
        exact hnext
      · rename_i hw
        rw [if_neg hw] at hy
        rw [hy] at hnext
        exact hnext
    | true =>
      have hir : i ∈ r := (I.rem i).2 ⟨o, ho, hin, hq, hDi⟩
      have hlow : ∀ j, j ∈ r → i ≤ j := by
        intro j hj
        rcases Nat.lt_or_ge j i with hlt2 | hge
        · obtain ⟨oj, h1, h2, h3, h4⟩ := (I.rem j).1 hj
          obtain ⟨g, hg⟩ := M.chain j i oj o hlt2 h1 ho h2 hin h3 hq
          have := hgo g j hg
          rw [h4] at this
          cases this
        · exact hge
      obtain ⟨r', rfl⟩ : ∃ r', r = i :: r' := by
        cases r with
        | nil => cases hir
        | cons x r' =>
          have h2 := hlow x (by simp)
          rcases List.mem_cons.1 hir with e | h3
          · exact ⟨r', by rw [e]⟩
          · have := (List.pairwise_cons.1 I.sorted).1 i h3
            omega
      have hnext : ∀ (v : Value) (w' : World), ((∃ (k : Nat) (ok : Oper), ops[k]? = some ok ∧ inR lo hi k = true ∧ memN ls k = false ∧ memOp ok.op = true ∧ (D.setIfInBounds i true).getD k false = false) → C w') → wpLoud P ops C b R r' (A.put o.dst v) w' →
          wpAny P .any ops Q (f + (ops.size - hi)) (D.setIfInBounds i true) (a.put o.dst v) w' := by
        intro v w' hC hl
        refine ih _ _ (A.put o.dst v) w' r' ⟨by simp [I.size], hdown2, hlow2, hhigh2, (List.pairwise_cons.1 I.sorted).2, fun j => ?_, ?_, ?_, fun s hs => ?_, fun k ok hok hink hqk hDk => ?_, hC, hl⟩ hcount
        · constructor
          · intro hj
            obtain ⟨oj, h1, h2, h3, h4⟩ := (I.rem j).1 (by simp [hj])
            have hne : i ≠ j := fun e => by
              have := (List.pairwise_cons.1 I.sorted).1 j hj
              omega
            exact ⟨oj, h1, h2, h3, by rw [getD_put hltD, if_neg hne]; exact h4⟩
          · rintro ⟨oj, h1, h2, h3, h4⟩
            obtain ⟨hne, h4⟩ := hunl j h4
            have := (I.rem j).2 ⟨oj, h1, h2, h3, h4⟩
            rcases List.mem_cons.1 this with e | h5
            · exact absurd e.symm hne
            · exact h5
        · cases o.dst <;> simp [Act.put, I.fsize]
        · cases o.dst <;> exact I.defers
        · have hold := I.fr s fun k ok hok hink hqk hdk => by
            have := hs k ok hok hink hqk hdk
            rw [getD_put hltD] at this
            split at this
            · rename_i ek
              subst ek
              rw [hq] at hqk
              cases hqk
            · exact this
          cases hd : o.dst with
          | none => exact hold
          | some d =>
            simp only [Act.put]
            rw [Array.getElem?_setIfInBounds, Array.getElem?_setIfInBounds, hold, I.fsize]
        · obtain ⟨_, hDk'⟩ := hunl k hDk
          obtain ⟨dk, h1, h2, h3⟩ := I.val k ok hok hink hqk hDk'
          cases hd : o.dst with
          | none => exact ⟨dk, h1, h2, h3⟩
          | some d =>
            have hne : d ≠ dk := fun e => by
              subst e
              have := M.uniq i k o ok d ho hok hin hink hd h1
              subst this
              rw [hq] at hqk
              cases hqk
            refine ⟨dk, h1, ?_, h3.of_same (M.sel k ok hok hink) fun t ht => ?_⟩
            · simp only [Act.put]
              rw [Array.getElem?_setIfInBounds, if_neg hne, h2]
            · simp only [Act.put]
              rw [Array.getElem?_setIfInBounds, if_neg (fun e => by
                subst e
                obtain ⟨g, hg⟩ := (M.dep k i ok o d hok ho hink hin hd ht).2 hqk hq
                have := hgo g k hg
                rw [hDk'] at this
                cases this)]
      have hl := I.wl
      unfold wpLoud at hl
      simp only [ho] at hl
      have hCkeep : ∀ w', (i < b → C w') → (∃ (k : Nat) (ok : Oper), ops[k]? = some ok ∧ inR lo hi k = true ∧ memN ls k = false ∧ memOp ok.op = true ∧ (D.setIfInBounds i true).getD k false = false) → C w' := by
        rintro w' hb ⟨k, ok, k1, k2, k3, k4, k5⟩
        rcases Nat.lt_or_ge i b with hlt2 | hge
        · exact hb hlt2
        · obtain ⟨g, hg⟩ := M.read k i ok o k1 ho k2 hin k3 k4 hq hge
          have := hgo g k hg
          rw [(hunl k k5).2] at this
          cases this
      rw [hwt]
      split
      · rename_i hw
        rw [if_pos hw] at hl
        refine .inl (loud_wp ?_)
        rw [hev]
        exact loudUpon_mono (fun v w' ⟨hb, hl'⟩ => hnext v w' (hCkeep w' hb) hl') hl
      · rename_i hw
        rw [if_neg hw] at hl
        exact hnext _ _ (fun ⟨k, ok, k1, k2, k3, k4, k5⟩ => I.cw ⟨k, ok, k1, k2, k3, k4, (hunl k k5).2⟩) hl
end Go.Proofs.Ytoamjihchmokcaa
