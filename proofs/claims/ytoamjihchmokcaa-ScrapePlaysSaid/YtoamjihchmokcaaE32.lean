/- The executor on regions that draw: the run in the text's order, as a row of records. No condition. -/
import Derived.Test.YtoamjihchmokcaaE31M
namespace Go.Proofs.Ytoamjihchmokcaa.E
open Go.ChangeShapes Go.WideShapes Go.ChangeAt Go.RowKit Go.Deep

noncomputable def putF (N : Nat) (d : Option Nat) (v : V) (fr : Tr V) : Tr V :=
  match d with
  | none => fr
  | some d => match Nat.blt d N with
    | true => fr.set d v
    | false => fr
theorem putK_eq {β : Type} (N : Nat) (d : Option Nat) (v : V) (fr : Tr V) (K : Tr V → β) : putK N d v fr K = K (putF N d v fr) := by
  cases d with
  | none => rfl
  | some d =>
    unfold putK putF
    dsimp only
    cases Nat.blt d N with
    | true => exact forceT_eq _ _
    | false => rfl
theorem putF_perf {N : Nat} {dp : Nat} {fr : Tr V} (h : Perf dp fr) (d : Option Nat) (v : V) : Perf dp (putF N d v fr) := by
  cases d with
  | none => exact h
  | some d =>
    unfold putF
    dsimp only
    split
    · exact h.set _ _
    · exact h
theorem putF_get {N : Nat} {dp : Nat} {fr : Tr V} (h : Perf dp fr) (hN : N ≤ 2 ^ dp) (d : Option Nat) (v : V) {s : Nat} (hs : s < N) : (putF N d v fr).get s = if d = some s then v else fr.get s := by
  cases d with
  | none => rfl
  | some d =>
    unfold putF
    dsimp only
    split
    · rename_i hb
      have hb : d < N := by simpa [Nat.blt_eq] using hb
      rw [h.get_set _ _ _ (by omega) (by omega)]
      by_cases e : s = d
      · rw [if_pos e, if_pos (by rw [e])]
      · rw [if_neg e, if_neg (fun h => e (Option.some.inj h).symm)]
    · rename_i hb
      rw [if_neg]
      intro h
      cases h
      rw [show Nat.blt s N = true by rw [Nat.blt_eq]; exact hs] at hb
      cases hb

theorem killS_n (m : Nat) : ∀ (SL : List (Nat × Nat)) (h : H), (killS m SL h).n = h.n
  | [], _ => rfl
  | p :: l, h => by
    unfold killS
    split
    · exact killS_n m l h
    · rw [killS_n m l]; rfl
theorem killS_perf (m : Nat) : ∀ (SL : List (Nat × Nat)) (h : H), Perf DH h.t → Perf DH (killS m SL h).t
  | [], _, p => p
  | p :: l, h, q => by
    unfold killS
    split
    · exact killS_perf m l h q
    · exact killS_perf m l _ (q.set _ _)
theorem killS_get (m : Nat) {b : Nat} (hb : b < 2 ^ DH) : ∀ (SL : List (Nat × Nat)) (h : H), Perf DH h.t → (∀ p ∈ SL, p.2 < 2 ^ DH) →
    ((killS m SL h).t.get b = .dead) ∨ ((∀ p ∈ SL, p.2 = b → bitB m p.1 = true) ∧ (killS m SL h).t.get b = h.t.get b)
  | [], h, _, _ => .inr ⟨(fun _ h => by cases h), rfl⟩
  | p :: l, h, q, hl => by
    have hl' : ∀ p ∈ l, p.2 < 2 ^ DH := fun x hx => hl x (List.mem_cons_of_mem _ hx)
    unfold killS
    split
    · rename_i hbit
      rcases killS_get m hb l h q hl' with e | ⟨e1, e2⟩
      · exact .inl e
      · refine .inr ⟨fun x hx => ?_, e2⟩
        rcases List.mem_cons.1 hx with rfl | hx
        · exact fun _ => hbit
        · exact e1 x hx
    · rename_i hbit
      have hg := q.get_set p.2 O.dead b (hl p (List.mem_cons_self ..)) hb
      rcases killS_get m hb l (h.put p.2 .dead) (q.set _ _) hl' with e | ⟨e1, e2⟩
      · exact .inl e
      · by_cases e : b = p.2
        · left
          rw [e2]
          show (h.t.set p.2 O.dead).get b = _
          rw [hg, if_pos e]
        · right
          refine ⟨fun x hx => ?_, ?_⟩
          · rcases List.mem_cons.1 hx with rfl | hx
            · exact fun h => absurd h.symm e
            · exact e1 x hx
          · rw [e2]
            show (h.t.set p.2 O.dead).get b = _
            rw [hg, if_neg e]
theorem backS_n (m : Nat) (T : H) : ∀ (SL : List (Nat × Nat)) (h : H), (backS m T SL h).n = h.n
  | [], _ => rfl
  | p :: l, h => by
    unfold backS
    split
    · exact backS_n m T l h
    · rw [backS_n m T l]; rfl
theorem backS_perf (m : Nat) (T : H) : ∀ (SL : List (Nat × Nat)) (h : H), Perf DH h.t → Perf DH (backS m T SL h).t
  | [], _, p => p
  | p :: l, h, q => by
    unfold backS
    split
    · exact backS_perf m T l h q
    · exact backS_perf m T l _ (q.set _ _)
theorem backS_get (m : Nat) (T : H) {b : Nat} (hb : b < 2 ^ DH) : ∀ (SL : List (Nat × Nat)) (h : H), Perf DH h.t → (∀ p ∈ SL, p.2 < 2 ^ DH) →
    (backS m T SL h).t.get b = (if ∃ p ∈ SL, p.2 = b ∧ bitB m p.1 = false then T.t.get b else h.t.get b)
  | [], h, _, _ => by rw [if_neg (by rintro ⟨p, hp, _⟩; cases hp)]; rfl
  | p :: l, h, q, hl => by
    have hl' : ∀ p ∈ l, p.2 < 2 ^ DH := fun x hx => hl x (List.mem_cons_of_mem _ hx)
    unfold backS
    split
    · rename_i hbit
      rw [backS_get m T hb l h q hl']
      congr 1
      apply propext
      constructor
      · rintro ⟨x, hx, h1⟩
        exact ⟨x, List.mem_cons_of_mem _ hx, h1⟩
      · rintro ⟨x, hx, h1, h2⟩
        rcases List.mem_cons.1 hx with rfl | hx
        · rw [hbit] at h2; cases h2
        · exact ⟨x, hx, h1, h2⟩
    · rename_i hbit
      rw [backS_get m T hb l _ (q.set _ _) hl']
      by_cases e : b = p.2
      · rw [if_pos (show ∃ x ∈ p :: l, x.2 = b ∧ bitB m x.1 = false from ⟨p, List.mem_cons_self .., e.symm, hbit⟩)]
        split
        · rfl
        · show (h.t.set p.2 _).get b = _
          rw [q.get_set _ _ _ (hl p (List.mem_cons_self ..)) hb, if_pos e, e]
      · have h0 : ∀ o, (h.put p.2 o).t.get b = h.t.get b := fun o => by
          show (h.t.set p.2 _).get b = _
          rw [q.get_set _ _ _ (hl p (List.mem_cons_self ..)) hb, if_neg e]
        rw [h0]
        congr 1
        apply propext
        constructor
        · rintro ⟨x, hx, h1⟩
          exact ⟨x, List.mem_cons_of_mem _ hx, h1⟩
        · rintro ⟨x, hx, h1, h2⟩
          rcases List.mem_cons.1 hx with rfl | hx
          · exact absurd h1.symm e
          · exact ⟨x, hx, h1, h2⟩

inductive Kd where
  | skip
  | fresh (id : Nat) (b : O)
  | quiet
  | loud (M' : H)
structure Rc where
  x : It
  fr : Tr V
  T : H
  Ls : List (Nat × H)
  Qs : List Qt
  SL : List (Nat × Nat)
  v : V
  k : Kd
def cur (T0 : H) : List (Nat × H) → H
  | [] => T0
  | q :: _ => q.2
inductive Stp (C : Cf) (ih : IHT) (env : Env) (N : Nat) (all : List Oper) (n0 : Nat) (T0 : H) (r : Rc) : H → List (Nat × H) → List Qt → List (Nat × Nat) → Prop
  | skip : wantsV N all r.fr r.x.o.guard = some false → r.v = .tup [] → r.k = .skip → Stp C ih env N all n0 T0 r r.T r.Ls r.Qs r.SL
  | fresh (b : O) : wantsV N all r.fr r.x.o.guard = some true → isFresh r.x.o.op = true → freshV C (ev C.G N r.fr) r.x.o.op (n0 + r.x.rk) = some (b, r.v) → r.k = .fresh (n0 + r.x.rk) b →
      Stp C ih env N all n0 T0 r (r.T.put (n0 + r.x.rk) b) r.Ls r.Qs ((r.x.i, n0 + r.x.rk) :: r.SL)
  | free : wantsV N all r.fr r.x.o.guard = some true → isFresh r.x.o.op = false → opR C (ev C.G N r.fr) (killS r.x.m r.SL r.T) r.x.o.op = some (.val r.v) → heapFree r.x.o.op = true → r.k = .quiet → Stp C ih env N all n0 T0 r r.T r.Ls r.Qs r.SL
  | quiet : wantsV N all r.fr r.x.o.guard = some true → isFresh r.x.o.op = false → opR C (ev C.G N r.fr) (killS r.x.m r.SL r.T) r.x.o.op = some (.val r.v) → r.k = .quiet →
      lateOk (fun h => keepV C N r.fr r.x.o.op r.v (killS r.x.m r.SL h)) r.x.m T0 r.Ls = true → Stp C ih env N all n0 T0 r r.T r.Ls (⟨r.x.i, r.x.m, r.x.o.op, r.fr, r.v⟩ :: r.Qs) r.SL
  | loud (res : R) (M' : H) : wantsV N all r.fr r.x.o.guard = some true → isFresh r.x.o.op = false → opR C (ev C.G N r.fr) (killS r.x.m r.SL r.T) r.x.o.op = some res → (∀ v, res ≠ .val v) →
      loudV C ih env (killS r.x.m r.SL r.T) res = some (r.v, M') → r.k = .loud M' → allIn r.x.m r.Ls = true → soonOk C N r.x.m r.SL (backS r.x.m r.T r.SL M') r.Qs = true →
      Stp C ih env N all n0 T0 r (backS r.x.m r.T r.SL M') ((r.x.i, backS r.x.m r.T r.SL M') :: r.Ls) r.Qs r.SL
inductive Ch (C : Cf) (ih : IHT) (env : Env) (N : Nat) (all : List Oper) (n0 : Nat) (T0 : H) (fr0 : Tr V) : List Rc → Tr V → H → List (Nat × H) → List Qt → List (Nat × Nat) → Prop
  | nil : Ch C ih env N all n0 T0 fr0 [] fr0 T0 [] [] []
  | snoc {rs : List Rc} {T' : H} {Ls' : List (Nat × H)} {Qs' : List Qt} {SL' : List (Nat × Nat)} (r : Rc) : Ch C ih env N all n0 T0 fr0 rs r.fr r.T r.Ls r.Qs r.SL → r.x.i = rs.length → Stp C ih env N all n0 T0 r T' Ls' Qs' SL' →
      Ch C ih env N all n0 T0 fr0 (rs ++ [r]) (putF N r.x.o.dst r.v r.fr) T' Ls' Qs' SL'
section
variable {C : Cf} {ih : IHT} {env : Env} {N : Nat} {all : List Oper} {n0 : Nat} {T0 : H} {fr0 : Tr V}
theorem drun_ch {K : Tr V → H → Rv} {r0 : Rv} : ∀ (l : List It) (rs : List Rc) (fr : Tr V) (T : H) (Ls : List (Nat × H)) (Qs : List Qt) (SL : List (Nat × Nat)), Ch C ih env N all n0 T0 fr0 rs fr T Ls Qs SL → (∀ j x, l[j]? = some x → x.i = rs.length + j) →
    RvLe (drun C ih env N all n0 T0 K l fr T Ls Qs SL) r0 → ∃ rs' fr' T' Ls' Qs' SL', Ch C ih env N all n0 T0 fr0 (rs ++ rs') fr' T' Ls' Qs' SL' ∧ rs'.map (·.x) = l ∧ RvLe (K fr' T') r0
  | [], rs, fr, T, Ls, Qs, SL, hc, _, hr => ⟨[], fr, T, Ls, Qs, SL, by rw [List.append_nil]; exact hc, rfl, hr⟩
  | x :: l, rs, fr, T, Ls, Qs, SL, hc, hi, hr => by
    have hx : x.i = rs.length := by simpa using hi 0 x rfl
    have hl : ∀ (r : Rc) j y, l[j]? = some y → y.i = (rs ++ [r]).length + j := fun r j y hy => by
      have := hi (j + 1) y (by simpa using hy)
      simp only [List.length_append, List.length_cons, List.length_nil]
      omega
    have fin : ∀ (r : Rc) {T' : H} {Ls' : List (Nat × H)} {Qs' : List Qt} {SL' : List (Nat × Nat)}, r.x = x → Ch C ih env N all n0 T0 fr0 rs r.fr r.T r.Ls r.Qs r.SL → Stp C ih env N all n0 T0 r T' Ls' Qs' SL' →
        RvLe (drun C ih env N all n0 T0 K l (putF N x.o.dst r.v r.fr) T' Ls' Qs' SL') r0 → ∃ rs' fr' T' Ls' Qs' SL', Ch C ih env N all n0 T0 fr0 (rs ++ rs') fr' T' Ls' Qs' SL' ∧ rs'.map (·.x) = x :: l ∧ RvLe (K fr' T') r0 := by
      intro r T' Ls' Qs' SL' e1 e2 e3 e4
      obtain ⟨rs', fr', T'', Ls'', Qs'', SL'', h1, h2, h3⟩ := drun_ch l (rs ++ [r]) _ _ _ _ _ (Ch.snoc r e2 (by rw [e1]; exact hx) e3) (hl r) (by rw [e1]; exact e4)
      exact ⟨r :: rs', fr', T'', Ls'', Qs'', SL'', by simpa using h1, by simp [e1, h2], h3⟩
    have hr : RvLe (match wantsV N all fr x.o.guard with
    | none => none
    | some false => putK N x.o.dst (.tup []) fr fun fr => drun C ih env N all n0 T0 K l fr T Ls Qs SL
    | some true => match isFresh x.o.op with
      | true => match freshV C (ev C.G N fr) x.o.op (n0 + x.rk) with
        | none => none
        | some p => forceV p.2 fun v => forceN (n0 + x.rk) fun id => forceH (T.put id p.1) fun T => putK N x.o.dst v fr fun fr => drun C ih env N all n0 T0 K l fr T Ls Qs ((x.i, id) :: SL)
      | false => forceH (killS x.m SL T) fun M => match opR C (ev C.G N fr) M x.o.op with
        | none => none
        | some (.val v) => forceV v fun v => match heapFree x.o.op with
          | true => putK N x.o.dst v fr fun fr => drun C ih env N all n0 T0 K l fr T Ls Qs SL
          | false => match lateOk (fun h => keepV C N fr x.o.op v (killS x.m SL h)) x.m T0 Ls with
            | true => putK N x.o.dst v fr fun fr' => drun C ih env N all n0 T0 K l fr' T Ls (⟨x.i, x.m, x.o.op, fr, v⟩ :: Qs) SL
            | false => none
        | some res => match loudV C ih env M res with
          | none => none
          | some p => forceV p.1 fun v => forceH p.2 fun M' => forceH (backS x.m T SL M') fun T' => match allIn x.m Ls, soonOk C N x.m SL T' Qs with
            | true, true => putK N x.o.dst v fr fun fr => drun C ih env N all n0 T0 K l fr T' ((x.i, T') :: Ls) Qs SL
            | _, _ => none) r0 := hr
    simp only [forceV_eq, forceH_eq, forceN_eq, putK_eq] at hr
    split at hr
    · exact hr.not_none.elim
    · rename_i hw
      exact fin ⟨x, fr, T, Ls, Qs, SL, .tup [], .skip⟩ rfl hc (.skip hw rfl rfl) hr
    · rename_i hw
      split at hr
      · rename_i hf
        split at hr
        · exact hr.not_none.elim
        · rename_i p hp
          exact fin ⟨x, fr, T, Ls, Qs, SL, p.2, .fresh (n0 + x.rk) p.1⟩ rfl hc (.fresh p.1 hw hf hp rfl) hr
      · rename_i hf
        split at hr
        · exact hr.not_none.elim
        · rename_i v hv
          split at hr
          · rename_i hh
            exact fin ⟨x, fr, T, Ls, Qs, SL, v, .quiet⟩ rfl hc (.free hw hf hv hh rfl) hr
          · split at hr
            · rename_i hlate
              exact fin ⟨x, fr, T, Ls, Qs, SL, v, .quiet⟩ rfl hc (.quiet hw hf hv rfl hlate) hr
            · exact hr.not_none.elim
        · rename_i res hres hv
          split at hr
          · exact hr.not_none.elim
          · rename_i p hp
            split at hr
            · rename_i h1 h2
              exact fin ⟨x, fr, T, Ls, Qs, SL, p.1, .loud p.2⟩ rfl hc (.loud res p.2 hw hf hv hres hp rfl h1 h2) hr
            · exact hr.not_none.elim
theorem Ch.length_i : ∀ {rs : List Rc} {fr : Tr V} {T : H} {Ls : List (Nat × H)} {Qs : List Qt} {SL : List (Nat × Nat)}, Ch C ih env N all n0 T0 fr0 rs fr T Ls Qs SL → ∀ (k : Nat) (r : Rc), rs[k]? = some r → r.x.i = k := by
  intro rs fr T Ls Qs SL h
  induction h with
  | nil => intro k r hr; simp at hr
  | @snoc rs T' Ls' Qs' SL' r h1 h2 h3 ih =>
    intro k q hq
    rcases Nat.lt_trichotomy k rs.length with hk | hk | hk
    · rw [List.getElem?_append_left hk] at hq
      exact ih k q hq
    · subst hk
      simp at hq
      rw [← hq]
      exact h2
    · rw [List.getElem?_eq_none (by simp; omega)] at hq
      cases hq
theorem Ch.at_ : ∀ {rs : List Rc} {fr : Tr V} {T : H} {Ls : List (Nat × H)} {Qs : List Qt} {SL : List (Nat × Nat)}, Ch C ih env N all n0 T0 fr0 rs fr T Ls Qs SL → ∀ (k : Nat) (r : Rc), rs[k]? = some r →
    ∃ T' Ls' Qs' SL', Ch C ih env N all n0 T0 fr0 (rs.take k) r.fr r.T r.Ls r.Qs r.SL ∧ Stp C ih env N all n0 T0 r T' Ls' Qs' SL' ∧ Ch C ih env N all n0 T0 fr0 (rs.take (k + 1)) (putF N r.x.o.dst r.v r.fr) T' Ls' Qs' SL' ∧ ∃ A, Ls = A ++ Ls' ∧ ∀ p ∈ A, k < p.1 := by
  intro rs fr T Ls Qs SL h
  induction h with
  | nil => intro k r hr; simp at hr
  | @snoc rs T' Ls' Qs' SL' r h1 h2 h3 ih =>
    intro k q hq
    rcases Nat.lt_trichotomy k rs.length with hk | hk | hk
    · rw [List.getElem?_append_left hk] at hq
      obtain ⟨T2, Ls2, Qs2, SL2, a1, a2, a3, A, a4, a5⟩ := ih k q hq
      refine ⟨T2, Ls2, Qs2, SL2, ?_, a2, ?_, ?_⟩
      · rw [List.take_append_of_le_length (by omega)]; exact a1
      · rw [List.take_append_of_le_length (by omega)]; exact a3
      · cases h3 with
        | loud res M' _ _ _ _ _ _ _ _ => exact ⟨_ :: A, by rw [a4]; rfl, fun p hp => by
            rcases List.mem_cons.1 hp with rfl | hp
            · show k < r.x.i
              omega
            · exact a5 p hp⟩
        | _ => exact ⟨A, a4, a5⟩
    · subst hk
      simp at hq
      subst hq
      refine ⟨T', Ls', Qs', SL', ?_, h3, ?_, [], rfl, (fun _ h => by cases h)⟩
      · rw [List.take_append_of_le_length (Nat.le_refl _), List.take_length]; exact h1
      · rw [List.take_of_length_le (by simp)]; exact .snoc r h1 h2 h3
    · rw [List.getElem?_eq_none (by simp; omega)] at hq
      cases hq
end
end Go.Proofs.Ytoamjihchmokcaa.E
