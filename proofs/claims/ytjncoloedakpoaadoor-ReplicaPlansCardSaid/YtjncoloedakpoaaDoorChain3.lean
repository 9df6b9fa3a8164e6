/- The check of a whole row of operations. No condition. -/
import Derived.Test.YtjncoloedakpoaaDoorChain2
namespace Go.Proofs.YtjncoloedakpoaaDoor
open Go.ChangeShapes Go.WideShapes Go.ChangeAt Go.RowKit Go.Deep

variable {P : Program} {β : Nat → Nat × Nat} {C : World → Prop} {S S' : St} {a : Act} {T : Tab} {ops : Array Oper} {N : Nat}

theorem opnd_org (inv : Inv β S a) {gs : List (Nat × Bool)} {x : Operand} {org : Option Nat} {sv : SV} (h : opnd S gs x = some (org, sv)) : OrgOk S.G org sv := by
  cases x with
  | tmp t =>
    simp only [opnd] at h
    split at h
    · rename_i e he
      split at h
      · cases h
        exact inv.org t e he
      · cases h
    · cases h
  | const v => simp only [opnd] at h; cases h; exact no_org
  | func f => simp only [opnd] at h; cases h; exact no_org
  | global g => cases h

theorem outOf_org (inv : Inv β S a) {gs : List (Nat × Bool)} {d : Nat} {op : Op} {org : Option Nat} {sv : SV} (h : outOf T S gs d op = some (.v org sv)) : OrgOk S.G org sv := by
  cases org with
  | none => exact no_org
  | some g =>
    unfold outOf at h
    split at h
    · split at h
      · rename_i p hp
        obtain ⟨p1, p2⟩ := p
        simp only [Option.some.injEq, Out.v.injEq] at h
        obtain ⟨rfl, rfl⟩ := h
        exact opnd_org inv hp
      · cases h
    · split at h
      · rename_i p hp
        obtain ⟨p1, p2⟩ := p
        simp only [Option.some.injEq, Out.v.injEq] at h
        obtain ⟨rfl, rfl⟩ := h
        exact opnd_org inv hp
      · cases h
    all_goals repeat' split at h
    all_goals cases h

theorem guard_sound (inv : Inv β S a) {o : Oper} {gs : List (Nat × Bool)} (h : guardOf ops S o = some gs) :
    Region.wanted o (yielded ops a.tmps) = holds S.G gs ∧ ∀ p ∈ gs, (lookG S.G p.1).isSome = true := by
  unfold guardOf at h
  unfold Region.wanted
  split at h
  · rename_i hq
    cases h
    rw [hq]
    exact ⟨rfl, fun p hp => by cases hp⟩
  · rename_i j b hq
    rw [hq]
    split at h
    · cases h
    · rename_i s hs
      split at h
      · rename_i slot gs0 g sv he
        cases h
        have h1 := inv.at_ s _ he
        obtain ⟨c, hc1, hc2⟩ := inv.org s _ he g rfl
        have h3 := inv.gs s _ he
        dsimp only at h1 hc1 h3
        refine ⟨?_, ?_⟩
        · dsimp only
          unfold yielded
          have hs' : (ops[j]?.bind fun x => x.dst) = some s := hs
          rw [hs']
          simp only [Option.bind_some, h1, hc1, SV.den]
          have e : holds S.G ((g, b) :: gs0) = ((some c == some b) && holds S.G gs0) := by
            unfold holds
            rw [List.all_cons, hc2]
          rw [e]
          cases hh : holds S.G gs0
          · simp only [Bool.false_eq_true, if_false, Bool.and_false]
            rfl
          · simp
        · intro p hp
          rcases List.mem_cons.1 hp with rfl | hp
          · dsimp only; rw [hc2]; rfl
          · exact h3 p hp
      · cases h

theorem beq_ne {a b : Nat} (h : a ≠ b) : Nat.beq a b = false := by
  cases hb : Nat.beq a b
  · rfl
  · exact absurd (Nat.eq_of_beq_eq_true hb) h

theorem lookG_fresh {G : List (Nat × Bool)} {d k : Nat} {c : Bool} (h : lookG G d = none) (hk : (lookG G k).isSome = true) : lookG ((d, c) :: G) k = lookG G k := by
  have hne : d ≠ k := by rintro rfl; rw [h] at hk; cases hk
  show (match Nat.beq d k with | true => some c | false => lookG G k) = _
  rw [beq_ne hne]

structure Grows (G G' : List (Nat × Bool)) : Prop where
  at_ : ∀ k, (lookG G k).isSome = true → lookG G' k = lookG G k
theorem Grows.holds {G G' : List (Nat × Bool)} (h : Grows G G') {gs : List (Nat × Bool)} (hk : ∀ p ∈ gs, (lookG G p.1).isSome = true) : holds G' gs = holds G gs := by
  unfold Go.Proofs.YtjncoloedakpoaaDoor.holds
  induction gs with
  | nil => rfl
  | cons x r ih =>
    rw [List.all_cons, List.all_cons, h.at_ x.1 (hk x (by simp)), ih fun p hp => hk p (by simp [hp])]

theorem inv_push {env : List Ent} {G G' : List (Nat × Bool)} {obs obs' : List Ob} {d : Nat} {gs : List (Nat × Bool)} {org : Option Nat} {sv : SV} (inv : Inv β ⟨env, G, obs⟩ a) (hG : Grows G G') (hgs : ∀ p ∈ gs, (lookG G p.1).isSome = true)
    (hd : d < a.tmps.size) (ho : OrgOk G' org sv) : Inv β ⟨⟨d, gs, org, sv⟩ :: env, G', obs'⟩ (a.put (some d) (if holds G gs then sv.den β else undef)) := by
  have key : ∀ s e, look (⟨d, gs, org, sv⟩ :: env) s = some e → (s = d ∧ e = ⟨d, gs, org, sv⟩) ∨ (s ≠ d ∧ look env s = some e) := by
    intro s e h
    unfold look at h
    split at h
    · rename_i hb
      cases h
      exact .inl ⟨(beq_true hb).symm, rfl⟩
    · rename_i hb
      exact .inr ⟨fun e => beq_false hb e.symm, h⟩
  refine ⟨fun s e h => ?_, fun s e h => ?_, fun s e h => ?_⟩
  · rcases key s e h with ⟨rfl, rfl⟩ | ⟨hne, h⟩
    · simp only [Act.put]
      rw [Array.getElem?_setIfInBounds, if_pos rfl, if_pos hd, hG.holds hgs]
    · have h1 := inv.at_ s e h
      have h2 := inv.gs s e h
      dsimp only at h1 h2
      simp only [Act.put]
      rw [Array.getElem?_setIfInBounds, if_neg (fun h => hne h.symm), h1, hG.holds h2]
  · rcases key s e h with ⟨rfl, rfl⟩ | ⟨hne, h⟩
    · exact ho
    · intro g hg
      obtain ⟨c, h1, h2⟩ := inv.org s e h g hg
      dsimp only at h2 ⊢
      exact ⟨c, h1, by rw [hG.at_ g (by rw [h2]; rfl), h2]⟩
  · rcases key s e h with ⟨rfl, rfl⟩ | ⟨hne, h⟩
    · intro p hp
      dsimp only at hp ⊢
      rw [hG.at_ p.1 (hgs p hp)]
      exact hgs p hp
    · intro p hp
      have h2 := inv.gs s e h p hp
      dsimp only at h2 ⊢
      rw [hG.at_ p.1 h2]
      exact h2

theorem with_sound {d : Nat} {gs : List (Nat × Bool)} {org : Option Nat} {sv : SV} (h : S.with d gs org sv = some S') (inv : Inv β S a) (hgs : ∀ p ∈ gs, (lookG S.G p.1).isSome = true) (hd : d < a.tmps.size) (ho : OrgOk S.G org sv) :
    Inv β S' (a.put (some d) (if holds S.G gs then sv.den β else undef)) ∧ S'.obs = S.obs := by
  unfold St.with at h
  split at h
  · rename_i g
    cases h
    exact ⟨inv_push inv ⟨fun _ _ => rfl⟩ hgs hd ho, rfl⟩
  · split at h
    · rename_i c
      split at h
      · rename_i hn
        cases h
        refine ⟨inv_push inv ⟨fun k hk => lookG_fresh hn hk⟩ hgs hd ?_, rfl⟩
        intro g hg
        cases hg
        refine ⟨c, rfl, ?_⟩
        show (match Nat.beq d d with | true => some c | false => lookG S.G d) = _
        rw [Nat.beq_refl]
      · cases h
    · cases h
      exact ⟨inv_push inv ⟨fun _ _ => rfl⟩ hgs hd no_org, rfl⟩

theorem step1_obs {o : Oper} (h : step1 T N ops S o = some S') : ∀ ob ∈ S.obs, ob ∈ S'.obs := by
  have hw : ∀ {S S' : St} {d gs org sv}, S.with d gs org sv = some S' → S'.obs = S.obs := by
    intro S S' d gs org sv h
    unfold St.with at h
    repeat' split at h
    all_goals cases h
    all_goals rfl
  unfold step1 at h
  repeat' split at h
  all_goals first | (cases h; done) | skip
  · rw [hw h]; exact fun _ h => h
  · rw [hw h]; intro ob hob; simp [hob]
  · rw [hw h]; intro ob hob; simp [hob]
  · rw [hw h]; intro ob hob; simp [hob]

theorem runL_obs : ∀ {l : List Oper} {S S' : St}, runL T N ops l S = some S' → ∀ ob ∈ S.obs, ob ∈ S'.obs
  | [], S, S', h, ob, hob => by cases h; exact hob
  | o :: r, S, S', h, ob, hob => by
    unfold runL at h
    split at h
    · cases h
    · rename_i S1 h1
      exact runL_obs h ob (step1_obs h1 ob hob)

theorem step1_sound (hT : T.Ok P β C) {o : Oper} (h : step1 T N ops S o = some S') (inv : Inv β S a) (hN : a.tmps.size = N) (hob : ∀ ob ∈ S'.obs, ob.holds P β C) {K : Act → Prop}
    (hK : ∀ (d : Nat) (v : Value), o.dst = some d → Inv β S' (a.put (some d) v) → K (a.put (some d) v)) : if Region.wanted o (yielded ops a.tmps) then o.quiet P a C K else K (a.put o.dst undef) := by
  have hobs := step1_obs h
  unfold step1 at h
  split at h
  · cases h
  · rename_i d hd
    split at h
    · cases h
    · rename_i hlt
      have hlt : d < a.tmps.size := by rw [hN]; simpa [Nat.blt_eq] using hlt
      split at h
      · cases h
      · rename_i gs hgs
        obtain ⟨hw, hgi⟩ := guard_sound inv hgs
        rw [hw]
        split at h
        · cases h
        · rename_i org sv hout
          obtain ⟨hi, _⟩ := with_sound h inv hgi hlt (outOf_org inv hout)
          cases hh : holds S.G gs
          · rw [hh] at hi
            simp only [Bool.false_eq_true, if_false] at hi ⊢
            rw [hd]
            exact hK d _ hd hi
          · rw [hh] at hi
            simp only [if_true] at hi ⊢
            have hs := (outOf_sound hT inv hh hout).1
            refine ⟨sv.den β, fun w hw => ?_, ?_⟩
            · unfold Oper.quietAt
              rw [hs w (fun _ => hw)]
              exact ⟨rfl, rfl⟩
            · rw [hd]; exact hK d _ hd hi
        · rename_i f l v hout
          have inv1 : Inv β ⟨S.env, S.G, .call f l v :: S.obs⟩ a := ⟨inv.at_, inv.org, inv.gs⟩
          obtain ⟨hi, ho⟩ := with_sound h inv1 hgi hlt no_org
          cases hh : holds S.G gs
          · rw [hh] at hi
            simp only [Bool.false_eq_true, if_false] at hi ⊢
            rw [hd]
            exact hK d _ hd hi
          · rw [hh] at hi
            simp only [if_true] at hi ⊢
            have hs := outOf_sound hT inv hh hout
            obtain ⟨⟨fn, f1, f2, f3⟩, hcall⟩ := hob (.call f l v) (by rw [ho]; simp)
            refine ⟨v, fun w hw => ?_, ?_⟩
            · unfold Oper.quietAt
              rw [hs fn f1 f2 f3 w]
              exact ⟨rfl, hcall w hw⟩
            · rw [hd]; exact hK d _ hd hi
        · rename_i x y hout
          have inv1 : Inv β ⟨S.env, S.G, .cat x y :: S.obs⟩ a := ⟨inv.at_, inv.org, inv.gs⟩
          obtain ⟨hi, ho⟩ := with_sound h inv1 hgi hlt no_org
          cases hh : holds S.G gs
          · rw [hh] at hi
            simp only [Bool.false_eq_true, if_false] at hi ⊢
            rw [hd]
            exact hK d _ hd hi
          · rw [hh] at hi
            simp only [if_true] at hi ⊢
            have hs := outOf_sound hT inv hh hout (hob (.cat x y) (by rw [ho]; simp))
            refine ⟨.string (x ++ y), fun w hw => ?_, ?_⟩
            · unfold Oper.quietAt
              rw [hs w]
              exact ⟨rfl, rfl⟩
            · rw [hd]; exact hK d _ hd hi
        · rename_i t x i sv hout
          split at h
          rotate_left
          · cases h
          rename_i c hc
          split at h
          rotate_left
          · cases h
          rename_i sv k off
          have inv1 : Inv β ⟨S.env, S.G, .idx c t x i (.ptr k off) :: S.obs⟩ a := ⟨inv.at_, inv.org, inv.gs⟩
          obtain ⟨hi, ho⟩ := with_sound h inv1 hgi hlt no_org
          cases hh : holds S.G gs
          · rw [hh] at hi
            simp only [Bool.false_eq_true, if_false] at hi ⊢
            rw [hd]
            exact hK d _ hd hi
          · rw [hh] at hi
            simp only [if_true] at hi ⊢
            have hs := outOf_sound hT inv hh hout
            have hob1 := hob (.idx c t x i (.ptr k off)) (by rw [ho]; simp)
            have hcond : condOk c := by
              unfold condOf at hc
              split at hc
              · cases hc; trivial
              · rename_i p r
                split at hc
                · rename_i b hb
                  cases hc
                  unfold holds at hh
                  rw [List.all_cons, hb] at hh
                  simp only [Bool.and_eq_true, beq_iff_eq, Option.some.injEq] at hh
                  exact hh.1
                · cases hc
            refine ⟨(SV.ptr k off).den β, fun w hw => ?_, ?_⟩
            · unfold Oper.quietAt
              rw [hs w (hob1 hcond w hw)]
              exact ⟨rfl, rfl⟩
            · rw [hd]; exact hK d _ hd hi

def dstsOf (l : List Oper) : List Nat := l.filterMap (·.dst)

theorem runL_sound (hT : T.Ok P β C) {Q : Act → Prop} : ∀ (l : List Oper) (S S' : St) (a : Act), Inv β S a → a.tmps.size = N → runL T N ops l S = some S' → (∀ ob ∈ S'.obs, ob.holds P β C) →
    (∀ a', Inv β S' a' → a'.tmps.size = N → a'.defers = a.defers → (∀ s, s ∉ dstsOf l → a'.tmps[s]? = a.tmps[s]?) → Q a') → wpQuiet P ops C Q l a
  | [], S, S', a, inv, hN, h, _, hQ => by
    cases h
    exact hQ a inv hN rfl fun _ _ => rfl
  | o :: r, S, S', a, inv, hN, h, hob, hQ => by
    unfold runL at h
    split at h
    · cases h
    · rename_i S1 h1
      refine wpQuiet_step fun K hK => ?_
      refine step1_sound hT h1 inv hN (fun ob h2 => hob ob (runL_obs h ob h2)) fun d v hd hi => hK _ ?_
      refine runL_sound hT r S1 S' _ hi (by simp [Act.put, hN]) h hob fun a' i1 i2 i3 i4 => hQ a' i1 i2 (by rw [i3]; rfl) fun s hs => ?_
      unfold dstsOf at hs
      rw [List.filterMap_cons, hd] at hs
      simp only [List.mem_cons, not_or] at hs
      rw [i4 s hs.2]
      simp only [Act.put]
      rw [Array.getElem?_setIfInBounds, if_neg (fun h => hs.1 h.symm)]
end Go.Proofs.YtjncoloedakpoaaDoor
