/- A region that draws its order, of reading operations and a chain of others: one walk serves every order. No condition. -/
import Derived.Test.YtpbppgfogepjeaaOwnStM
namespace Go.Proofs.Ytpbppgfogepjeaa
open Go.ChangeShapes Go.WideShapes Go.ChangeAt Go.RowKit Go.Deep

variable {P : Program} {ops : Array Oper} {ex : List Nat}

def quietOp : Op → Bool
  | .move _ | .assign _ | .pick .. | .fieldAddr .. | .load .. | .binOp .. | .unOp .. | .nilCheck _ | .field .. => true
  | .call ⟨.builtin .len, _, _⟩ => true
  | _ => false
def idxOp : Op → Bool
  | .indexAddr .. => true
  | _ => false
def quietI (ex : List Nat) (i : Nat) (o : Oper) : Bool := (quietOp o.op || (idxOp o.op && memN ex (i + 1000))) && !memN ex i
def isSel : Op → Bool
  | .select .. => true
  | _ => false

theorem looks_eval {o : Oper} (hs : isSel o.op = false) {a A : Act} (h : ∀ t ∈ o.looksAt ops, a.tmps[t]? = A.tmps[t]?) :
    execOp a.eval o = execOp A.eval o ∧ Region.wanted o (yielded ops a.tmps) = Region.wanted o (yielded ops A.tmps) := by
  refine ⟨execOp_congr o (fun cs b e => by rw [e] at hs; cases hs) fun x hx => ?_, ?_⟩
  · cases x with
    | tmp t =>
      have := h t (List.mem_append_left _ (List.mem_filterMap.2 ⟨.tmp t, by simpa using hx, rfl⟩))
      simp only [Act.eval, Array.getD_eq_getD_getElem?, this]
    | const v => rfl
    | global g => rfl
    | func f => rfl
  · unfold Region.wanted
    cases hg : o.guard with
    | none => rfl
    | some gw =>
      obtain ⟨g, want⟩ := gw
      have hy : yielded ops a.tmps g = yielded ops A.tmps g := by
        unfold yielded
        cases ht : (ops[g]?).bind (·.dst) with
        | none => rfl
        | some t =>
          have := h t (by unfold Oper.looksAt; rw [hg]; simp [ht])
          simp [this]
      simp only [hy]

def YieldsC (P : Program) (ops : Array Oper) (C : World → Prop) (o : Oper) (v : Value) (A : Act) : Prop :=
  if Region.wanted o (yielded ops A.tmps) then ∀ w, (memOp o.op = true → C w) → (execOp A.eval o).run P w = .ok (.value v) w else v = undef

theorem YieldsC.of_same {C : World → Prop} {o : Oper} {v : Value} {a A : Act} (hs : isSel o.op = false) (h : ∀ t ∈ o.looksAt ops, a.tmps[t]? = A.tmps[t]?) (hy : YieldsC P ops C o v A) : YieldsC P ops C o v a := by
  obtain ⟨h1, h2⟩ := looks_eval hs h
  unfold YieldsC at hy ⊢
  rw [h1, h2]
  exact hy

def loudUpon (P : Program) (next : Value → World → Prop) : Result Next → Prop
  | .ok (.value v) w => next v w
  | .ok .skip w => next undef w
  | .ok (.enter f args) w => Calls P f args w fun e w' => ∃ v, e = .returned v ∧ next v w'
  | _ => False

theorem loud_wp {o : Oper} {a : Act} {w : World} {K : Act → World → Prop} {Q : Exit → Act → World → Prop} (h : loudUpon P (fun v w' => K (a.put o.dst v) w') ((execOp a.eval o).run P w)) : o.wp P a w K Q := by
  unfold Oper.wp
  generalize (execOp a.eval o).run P w = r at h
  cases r with
  | halt x w' => exact h.elim
  | ok n w' =>
    cases n <;> simp only [loudUpon] at h <;> simp only [Oper.upon]
    case value v => exact h
    case skip => exact h
    case enter f args => exact h.mono fun e w'' ⟨v, he, hv⟩ => by subst he; exact hv
theorem loudUpon_mono {next next' : Value → World → Prop} (hm : ∀ v w, next v w → next' v w) {r : Result Next} (h : loudUpon P next r) : loudUpon P next' r := by
  cases r with
  | halt x w' => exact h
  | ok n w' =>
    cases n <;> simp only [loudUpon] at h ⊢
    case value v => exact hm _ _ h
    case skip => exact hm _ _ h
    case enter f args => exact h.mono fun e w'' ⟨v, he, hv⟩ => ⟨v, he, hm _ _ hv⟩

def wpLoud (P : Program) (ops : Array Oper) (C : World → Prop) (b : Nat) (R : Act → World → Prop) : List Nat → Act → World → Prop
  | [], A, w => R A w
  | j :: r, A, w => match ops[j]? with
    | none => False
    | some o => if Region.wanted o (yielded ops A.tmps) then loudUpon P (fun v w' => (j < b → C w') ∧ wpLoud P ops C b R r (A.put o.dst v) w') ((execOp A.eval o).run P w) else wpLoud P ops C b R r (A.put o.dst undef) w

def reachB (ops : Array Oper) : Nat → Nat → Nat → Bool
  | 0, _, _ => false
  | f + 1, j, i => match ops[j]? with
    | none => false
    | some o => o.after.any (fun e => Region.binds .any e && e.on == i) || o.after.any (fun e => Region.binds .any e && reachB ops f e.on i)

theorem reach_down {D : Nat → Prop} (hdown : ∀ (i : Nat) (o : Oper), ops[i]? = some o → D i → ∀ e ∈ o.after, Region.binds .any e = true → D e.on) :
    ∀ (f j i : Nat), reachB ops f j i = true → (∀ o : Oper, ops[j]? = some o → ∀ e ∈ o.after, Region.binds .any e = true → D e.on) → D i
  | 0, _, _, h, _ => by cases h
  | f + 1, j, i, h, hj => by
    unfold reachB at h
    split at h
    · cases h
    · rename_i o ho
      simp only [Bool.or_eq_true] at h
      rcases h with h | h
      · obtain ⟨e, he, hb⟩ := Array.any_eq_true'.1 h
        simp only [Bool.and_eq_true, beq_iff_eq] at hb
        rw [← hb.2]
        exact hj o ho e he hb.1
      · obtain ⟨e, he, hb⟩ := Array.any_eq_true'.1 h
        simp only [Bool.and_eq_true] at hb
        have hD := hj o ho e he hb.1
        exact reach_down hdown f e.on i hb.2 fun o' ho' e' he' hb' => hdown e.on o' ho' hD e' he' hb'

structure MixOk (ops : Array Oper) (ex : List Nat) (b : Nat) : Prop where
  ord : ∀ (i : Nat) (o : Oper), ops[i]? = some o → ∀ e ∈ o.after, Region.binds .any e = true → e.on < i
  sel : ∀ (i : Nat) (o : Oper), ops[i]? = some o → isSel o.op = false
  dep : ∀ (i j : Nat) (oi oj : Oper) (t : Nat), ops[i]? = some oi → ops[j]? = some oj → oj.dst = some t → t ∈ oi.looksAt ops → (quietI ex j oj = true → ∃ e ∈ oi.after, Region.binds .any e = true ∧ e.on = j) ∧ (quietI ex i oi = true → quietI ex j oj = false → ∃ f, reachB ops f j i = true)
  uniq : ∀ (i j : Nat) (oi oj : Oper) (t : Nat), ops[i]? = some oi → ops[j]? = some oj → oi.dst = some t → oj.dst = some t → i = j
  chain : ∀ (i j : Nat) (oi oj : Oper), i < j → ops[i]? = some oi → ops[j]? = some oj → quietI ex i oi = false → quietI ex j oj = false → ∃ f, reachB ops f j i = true
  read : ∀ (i j : Nat) (oi oj : Oper), ops[i]? = some oi → ops[j]? = some oj → quietI ex i oi = true → memOp oi.op = true → quietI ex j oj = false → b ≤ j → ∃ f, reachB ops f j i = true
  dsts : ∀ (i : Nat) (o : Oper), ops[i]? = some o → quietI ex i o = true → ∃ d, o.dst = some d

theorem countP_lt {p q : Nat → Bool} {i : Nat} (hp : p i = false) (hq : q i = true) : ∀ {l : List Nat}, (∀ k, p k = true → q k = true) → i ∈ l → l.countP p < l.countP q
  | [], _, hi => by cases hi
  | x :: l, h, hi => by
    have hle : ∀ (l : List Nat), l.countP p ≤ l.countP q := fun l => List.countP_mono_left fun k _ hk => h k hk
    rw [List.countP_cons, List.countP_cons]
    rcases List.mem_cons.1 hi with rfl | hi
    · rw [hp, hq]
      have := hle l
      simp
      omega
    · have h1 := countP_lt hp hq h hi
      by_cases hx : p x = true
      · rw [hx, h x hx]
        simp
        omega
      · have : p x = false := by simpa using hx
        rw [this]
        simp
        omega

structure Mid (P : Program) (ops : Array Oper) (ex : List Nat) (C : World → Prop) (b : Nat) (R : Act → World → Prop) (V : Nat → Value) (D : Array Bool) (a A : Act) (w : World) (r : List Nat) : Prop where
  size : D.size = ops.size
  down : ∀ (i : Nat) (o : Oper), ops[i]? = some o → D.getD i false = true → ∀ e ∈ o.after, Region.binds .any e = true → D.getD e.on false = true
  sorted : r.Pairwise (· < ·)
  rem : ∀ j, j ∈ r ↔ ∃ o : Oper, ops[j]? = some o ∧ quietI ex j o = false ∧ D.getD j false = false
  fsize : a.tmps.size = A.tmps.size
  defers : a.defers = A.defers
  fr : ∀ s, (∀ (i : Nat) (o : Oper), ops[i]? = some o → quietI ex i o = true → o.dst = some s → D.getD i false = true) → a.tmps[s]? = A.tmps[s]?
  val : ∀ (i : Nat) (o : Oper), ops[i]? = some o → quietI ex i o = true → D.getD i false = false → ∃ d, o.dst = some d ∧ A.tmps[d]? = some (V i) ∧ YieldsC P ops C o (V i) A
  cw : (∃ (i : Nat) (o : Oper), ops[i]? = some o ∧ quietI ex i o = true ∧ memOp o.op = true ∧ D.getD i false = false) → C w
  wl : wpLoud P ops C b R r A w

theorem getD_put {D : Array Bool} {i j : Nat} (h : i < D.size) : (D.setIfInBounds i true).getD j false = if i = j then true else D.getD j false := by
  by_cases e : i = j
  · subst e
    simp [h]
  · rw [if_neg e, getD_set_ne false e]

theorem mid_any {C : World → Prop} {b : Nat} {R : Act → World → Prop} {V : Nat → Value} (M : MixOk ops ex b) {Q : Exit → Act → World → Prop} (hR : ∀ a w, R a w → Q .normal a w) :
    ∀ (f : Nat) (D : Array Bool) (a A : Act) (w : World) (r : List Nat), Mid P ops ex C b R V D a A w r → (List.range ops.size).countP (fun i => !D.getD i false) ≤ f → wpAny P .any ops Q f D a w := by
  have hend : ∀ (D : Array Bool) (a A : Act) (w : World) (r : List Nat), Mid P ops ex C b R V D a A w r → Region.ready .any ops D = [] → Q .normal a w := by
    intro D a A w r I h0
    have hall : ∀ i, i < ops.size → D.getD i false = true := head_full I.size M.ord h0
    have hr : r = [] := by
      refine List.eq_nil_iff_forall_not_mem.2 fun j hj => ?_
      obtain ⟨o, ho, _, hd⟩ := (I.rem j).1 hj
      rw [hall j (Array.getElem?_eq_some_iff.1 ho).1] at hd
      cases hd
    have hw := I.wl
    rw [hr] at hw
    have e : a = A := by
      obtain ⟨t1, d1⟩ := a
      obtain ⟨t2, d2⟩ := A
      have h1 := I.defers
      dsimp only at h1
      subst h1
      congr 1
      apply Array.ext_getElem?
      intro s
      exact I.fr s fun i o ho _ _ => hall i (Array.getElem?_eq_some_iff.1 ho).1
    rw [e]
    exact hR A w hw
  have hdone : ∀ (D : Array Bool), D.size = ops.size → (List.range ops.size).countP (fun i => !D.getD i false) ≤ 0 → Region.ready .any ops D = [] := by
    intro D hD hc
    refine List.eq_nil_iff_forall_not_mem.2 fun j hj => ?_
    obtain ⟨h1, o, ho, _⟩ := mem_ready.1 hj
    have hlt := (Array.getElem?_eq_some_iff.1 ho).1
    have := List.countP_eq_zero.1 (Nat.le_zero.1 hc) j (List.mem_range.2 hlt)
    rw [getD_both h1] at this
    simp at this
  intro f
  induction f with
  | zero =>
    intro D a A w r I hc
    have h0 := hdone D I.size hc
    exact ⟨h0, hend D a A w r I h0⟩
  | succ f ih =>
    intro D a A w r I hc
    refine ⟨hend D a A w r I, fun i hi => ?_⟩
    obtain ⟨h1, o, ho, hafter⟩ := mem_ready.1 hi
    have hDi : D.getD i false = false := getD_both h1
    have hlt := (Array.getElem?_eq_some_iff.1 ho).1
    have hltD : i < D.size := by rw [I.size]; exact hlt
    have hcount : (List.range ops.size).countP (fun k => !(D.setIfInBounds i true).getD k false) ≤ f := by
      have : (List.range ops.size).countP (fun k => !(D.setIfInBounds i true).getD k false) < (List.range ops.size).countP (fun k => !D.getD k false) := by
        refine countP_lt (i := i) (by rw [getD_put hltD, if_pos rfl]; rfl) (by rw [hDi]; rfl) (fun k hk => ?_) (List.mem_range.2 hlt)
        rw [getD_put hltD] at hk
        by_cases e : i = k
        · rw [if_pos e] at hk; cases hk
        · rw [if_neg e] at hk; exact hk
      omega
    have hdown2 : ∀ (k : Nat) (ok : Oper), ops[k]? = some ok → (D.setIfInBounds i true).getD k false = true → ∀ e ∈ ok.after, Region.binds .any e = true → (D.setIfInBounds i true).getD e.on false = true := by
      intro k ok hok hk e he hb
      rw [getD_put hltD] at hk ⊢
      by_cases ek : i = k
      · subst ek
        rw [ho] at hok
        cases hok
        rw [hafter e he hb]
        split <;> rfl
      · rw [if_neg ek] at hk
        rw [I.down k ok hok hk e he hb]
        split <;> rfl
    have hlooks : ∀ t ∈ o.looksAt ops, a.tmps[t]? = A.tmps[t]? := by
      intro t ht
      refine I.fr t fun k ok hok hqk hdk => ?_
      obtain ⟨e, he, hb, hk⟩ := (M.dep i k o ok t ho hok hdk ht).1 hqk
      rw [← hk]
      exact hafter e he hb
    obtain ⟨hev, hwt⟩ := looks_eval (M.sel i o ho) hlooks
    unfold wpOp
    simp only [ho]
    cases hq : quietI ex i o with
    | true =>
      obtain ⟨d, hd, hAd, hy⟩ := I.val i o ho hq hDi
      have hnext : wpAny P .any ops Q f (D.setIfInBounds i true) (a.put o.dst (V i)) w := by
        refine ih _ _ A w r ⟨by simp [I.size], hdown2, I.sorted, fun j => ?_, ?_, ?_, fun s hs => ?_, fun k ok hok hqk hDk => I.val k ok hok hqk (by rw [getD_put hltD] at hDk; split at hDk; cases hDk; exact hDk), fun ⟨k, ok, k1, k2, k3, k4⟩ => I.cw ⟨k, ok, k1, k2, k3, ?_⟩, I.wl⟩ hcount
        · rw [I.rem j]
          constructor
          · rintro ⟨oj, h1, h2, h3⟩
            refine ⟨oj, h1, h2, ?_⟩
            rw [getD_put hltD, if_neg (fun e => ?_)]
            · exact h3
            · subst e
              rw [ho] at h1
              cases h1
              rw [hq] at h2
              cases h2
          · rintro ⟨oj, h1, h2, h3⟩
            rw [getD_put hltD] at h3
            split at h3
            · cases h3
            · exact ⟨oj, h1, h2, h3⟩
        · rw [hd]; simp [Act.put, I.fsize]
        · rw [hd]; exact I.defers
        · rw [hd]
          simp only [Act.put]
          rw [Array.getElem?_setIfInBounds]
          by_cases e : d = s
          · subst e
            have : d < a.tmps.size := by
              rw [I.fsize]
              exact (Array.getElem?_eq_some_iff.1 hAd).1
            rw [if_pos rfl, if_pos this, hAd]
          · rw [if_neg e]
            refine I.fr s fun k ok hok hqk hdk => ?_
            have := hs k ok hok hqk hdk
            rw [getD_put hltD] at this
            split at this
            · rename_i ek
              subst ek
              rw [ho] at hok
              cases hok
              rw [hd] at hdk
              exact absurd (Option.some.inj hdk) e
            · exact this
        · rw [getD_put hltD] at k4
          split at k4
          · cases k4
          · exact k4
      rw [hwt]
      unfold YieldsC at hy
      split
      · rename_i hw
        rw [if_pos hw] at hy
        refine .inl ?_
        unfold Oper.wp
        rw [hev, hy w (fun hm => I.cw ⟨i, o, ho, hq, hm, hDi⟩)]
        exact hnext
      · rename_i hw
        rw [if_neg hw] at hy
        rw [hy] at hnext
        exact hnext
    | false =>
      have hir : i ∈ r := (I.rem i).2 ⟨o, ho, hq, hDi⟩
      have hlow : ∀ j, j ∈ r → i ≤ j := by
        intro j hj
        rcases Nat.lt_or_ge j i with hlt2 | hge
        · obtain ⟨oj, h1, h2, h3⟩ := (I.rem j).1 hj
          obtain ⟨g, hg⟩ := M.chain j i oj o hlt2 h1 ho h2 hq
          have := reach_down (D := fun k => D.getD k false = true) I.down g i j hg (fun o' ho' e he hb => by rw [ho] at ho'; cases ho'; exact hafter e he hb)
          rw [h3] at this
          cases this
        · exact hge
      obtain ⟨r', rfl⟩ : ∃ r', r = i :: r' := by
        cases r with
        | nil => cases hir
        | cons x r' =>
          have h2 := hlow x (by simp)
          rcases List.mem_cons.1 hir with e | h3
          · exact ⟨r', by rw [e]⟩
          · have := (List.pairwise_cons.1 I.sorted).1 i h3
            omega
      have hnext : ∀ (v : Value) (w' : World), ((∃ (k : Nat) (ok : Oper), ops[k]? = some ok ∧ quietI ex k ok = true ∧ memOp ok.op = true ∧ (D.setIfInBounds i true).getD k false = false) → C w') → wpLoud P ops C b R r' (A.put o.dst v) w' →
          wpAny P .any ops Q f (D.setIfInBounds i true) (a.put o.dst v) w' := by
        intro v w' hC hl
        refine ih _ _ (A.put o.dst v) w' r' ⟨by simp [I.size], hdown2, (List.pairwise_cons.1 I.sorted).2, fun j => ?_, ?_, ?_, fun s hs => ?_, fun k ok hok hqk hDk => ?_, hC, hl⟩ hcount
        · constructor
          · intro hj
            obtain ⟨oj, h1, h2, h3⟩ := (I.rem j).1 (by simp [hj])
            have hne : i ≠ j := fun e => by
              have := (List.pairwise_cons.1 I.sorted).1 j hj
              omega
            exact ⟨oj, h1, h2, by rw [getD_put hltD, if_neg hne]; exact h3⟩
          · rintro ⟨oj, h1, h2, h3⟩
            rw [getD_put hltD] at h3
            split at h3
            · cases h3
            · rename_i hne
              have := (I.rem j).2 ⟨oj, h1, h2, h3⟩
              rcases List.mem_cons.1 this with e | h4
              · exact absurd e.symm hne
              · exact h4
        · cases o.dst <;> simp [Act.put, I.fsize]
        · cases o.dst <;> exact I.defers
        · have hold := I.fr s fun k ok hok hqk hdk => by
            have := hs k ok hok hqk hdk
            rw [getD_put hltD] at this
            split at this
            · rename_i ek
              subst ek
              rw [ho] at hok
              cases hok
              rw [hq] at hqk
              cases hqk
            · exact this
          cases hd : o.dst with
          | none => exact hold
          | some d =>
            simp only [Act.put]
            rw [Array.getElem?_setIfInBounds, Array.getElem?_setIfInBounds, hold, I.fsize]
        · have hDk' : D.getD k false = false := by
            rw [getD_put hltD] at hDk
            split at hDk
            · cases hDk
            · exact hDk
          obtain ⟨dk, h1, h2, h3⟩ := I.val k ok hok hqk hDk'
          cases hd : o.dst with
          | none => exact ⟨dk, h1, h2, h3⟩
          | some d =>
            have hne : d ≠ dk := fun e => by
              subst e
              have := M.uniq i k o ok d ho hok hd h1
              subst this
              rw [ho] at hok
              cases hok
              rw [hq] at hqk
              cases hqk
            refine ⟨dk, h1, ?_, h3.of_same (M.sel k ok hok) fun t ht => ?_⟩
            · simp only [Act.put]
              rw [Array.getElem?_setIfInBounds, if_neg hne, h2]
            · simp only [Act.put]
              rw [Array.getElem?_setIfInBounds, if_neg (fun e => by
                subst e
                obtain ⟨g, hg⟩ := (M.dep k i ok o d hok ho hd ht).2 hqk hq
                have := reach_down (D := fun k => D.getD k false = true) I.down g i k hg (fun o' ho' e he hb => by rw [ho] at ho'; cases ho'; exact hafter e he hb)
                rw [hDk'] at this
                cases this)]
      have hl := I.wl
      unfold wpLoud at hl
      simp only [ho] at hl
      have hCkeep : ∀ w', (i < b → C w') → (∃ (k : Nat) (ok : Oper), ops[k]? = some ok ∧ quietI ex k ok = true ∧ memOp ok.op = true ∧ (D.setIfInBounds i true).getD k false = false) → C w' := by
        rintro w' hb ⟨k, ok, k1, k2, k3, k4⟩
        rcases Nat.lt_or_ge i b with hlt2 | hge
        · exact hb hlt2
        · obtain ⟨g, hg⟩ := M.read k i ok o k1 ho k2 k3 hq hge
          have := reach_down (D := fun k => D.getD k false = true) I.down g i k hg (fun o' ho' e he hb => by rw [ho] at ho'; cases ho'; exact hafter e he hb)
          rw [getD_put hltD] at k4
          split at k4
          · cases k4
          · rw [this] at k4; cases k4
      rw [hwt]
      split
      · rename_i hw
        rw [if_pos hw] at hl
        refine .inl (loud_wp ?_)
        rw [hev]
        exact loudUpon_mono (fun v w' ⟨hb, hl'⟩ => hnext v w' (hCkeep w' hb) hl') hl
      · rename_i hw
        rw [if_neg hw] at hl
        refine hnext _ _ (fun ⟨k, ok, k1, k2, k3, k4⟩ => I.cw ⟨k, ok, k1, k2, k3, ?_⟩) hl
        rw [getD_put hltD] at k4
        split at k4
        · cases k4
        · exact k4
end Go.Proofs.Ytpbppgfogepjeaa
