/- The executor on regions that draw: what the row of records says. No condition. -/
import Derived.Test.YtoamjihchmokcaaE32
namespace Go.Proofs.Ytoamjihchmokcaa.E
open Go.ChangeShapes Go.WideShapes Go.ChangeAt Go.RowKit Go.Deep

theorem Perf.of_set {α : Type} : ∀ (t : Tr α) (k : Nat) (x : α) (d : Nat), Perf d (t.set k x) → Perf d t
  | .tip v, k, x, d, h => by
    have h : Perf d (.tip x) := h
    cases h
    exact .tip v
  | .bin l r, k, x, d, h => by
    rw [Tr.set_bin] at h
    split at h
    · cases h with
      | bin a b => exact .bin (Perf.of_set l _ _ _ a) b
    · cases h with
      | bin a b => exact .bin a (Perf.of_set r _ _ _ b)
theorem backS_unperf (m : Nat) (T : H) : ∀ (SL : List (Nat × Nat)) (h : H), Perf DH (backS m T SL h).t → Perf DH h.t
  | [], _, p => p
  | p :: l, h, q => by
    unfold backS at q
    split at q
    · exact backS_unperf m T l h q
    · exact Perf.of_set _ _ _ _ (backS_unperf m T l _ q)
structure Uq (n0 : Nat) (rs : List Rc) : Prop where
  dst : ∀ (i j : Nat) (r q : Rc) (d : Nat), rs[i]? = some r → rs[j]? = some q → r.x.o.dst = some d → q.x.o.dst = some d → i = j
  id : ∀ (i j : Nat) (r q : Rc) (b : Nat) (o o' : O), rs[i]? = some r → rs[j]? = some q → r.k = .fresh b o → q.k = .fresh b o' → i = j
  lt : ∀ (i : Nat) (r : Rc) (b : Nat) (o : O), rs[i]? = some r → r.k = .fresh b o → n0 ≤ b ∧ b < 2 ^ DH
theorem take_at {α : Type} {l : List α} {k j : Nat} {x : α} (h : (l.take k)[j]? = some x) : j < k ∧ l[j]? = some x := by
  rw [List.getElem?_take] at h
  split at h
  · rename_i hj; exact ⟨hj, h⟩
  · cases h
theorem at_take {α : Type} {l : List α} {k j : Nat} {x : α} (hj : j < k) (h : l[j]? = some x) : (l.take k)[j]? = some x := by
  rw [List.getElem?_take, if_pos hj]; exact h
theorem snoc_at {α : Type} {l : List α} {r x : α} {j : Nat} (h : (l ++ [r])[j]? = some x) : (j < l.length ∧ l[j]? = some x) ∨ (j = l.length ∧ x = r) := by
  rcases Nat.lt_trichotomy j l.length with hj | hj | hj
  · rw [List.getElem?_append_left hj] at h
    exact .inl ⟨hj, h⟩
  · subst hj
    simp at h
    exact .inr ⟨rfl, h.symm⟩
  · rw [List.getElem?_eq_none (by simp; omega)] at h
    cases h
theorem at_snoc {α : Type} {l : List α} {r x : α} {j : Nat} (h : l[j]? = some x) : (l ++ [r])[j]? = some x := by
  rw [List.getElem?_append_left (List.getElem?_eq_some_iff.1 h).1]; exact h
theorem last_snoc {α : Type} (l : List α) (r : α) : (l ++ [r])[l.length]? = some r := by simp
theorem Uq.take {n0 : Nat} {rs : List Rc} (u : Uq n0 rs) (k : Nat) : Uq n0 (rs.take k) :=
  ⟨fun i j r q d h1 h2 => u.dst i j r q d (take_at h1).2 (take_at h2).2, fun i j r q b o o' h1 h2 => u.id i j r q b o o' (take_at h1).2 (take_at h2).2, fun i r b o h => u.lt i r b o (take_at h).2⟩
theorem Uq.front {n0 : Nat} {rs : List Rc} {r : Rc} (u : Uq n0 (rs ++ [r])) : Uq n0 rs :=
  ⟨fun i j r q d h1 h2 => u.dst i j r q d (at_snoc h1) (at_snoc h2), fun i j r q b o o' h1 h2 => u.id i j r q b o o' (at_snoc h1) (at_snoc h2), fun i r b o h => u.lt i r b o (at_snoc h)⟩
section
variable {C : Cf} {ih : IHT} {env : Env} {N : Nat} {all : List Oper} {n0 : Nat} {T0 : H} {fr0 : Tr V}
theorem Ch.slot {dp : Nat} (hp : Perf dp fr0) (hN : N ≤ 2 ^ dp) : ∀ {rs : List Rc} {fr : Tr V} {T : H} {Ls : List (Nat × H)} {Qs : List Qt} {SL : List (Nat × Nat)}, Ch C ih env N all n0 T0 fr0 rs fr T Ls Qs SL → Uq n0 rs →
    Perf dp fr ∧ ∀ s, s < N → (∀ (j : Nat) (r : Rc), rs[j]? = some r → r.x.o.dst = some s → fr.get s = r.v) ∧ ((∀ (j : Nat) (r : Rc), rs[j]? = some r → r.x.o.dst ≠ some s) → fr.get s = fr0.get s) := by
  intro rs fr T Ls Qs SL h
  induction h with
  | nil => exact fun _ => ⟨hp, fun s _ => ⟨(fun j r hj => by simp at hj), fun _ => rfl⟩⟩
  | @snoc rs T' Ls' Qs' SL' r h1 h2 h3 ih =>
    intro u
    obtain ⟨p1, p2⟩ := ih u.front
    refine ⟨putF_perf p1 _ _, fun s hs => ?_⟩
    rw [putF_get p1 hN _ _ hs]
    obtain ⟨q1, q2⟩ := p2 s hs
    refine ⟨fun j q hj hd => ?_, fun hno => ?_⟩
    · rcases snoc_at hj with ⟨a1, a2⟩ | ⟨a1, a2⟩
      · rw [if_neg]
        · exact q1 j q a2 hd
        · intro he
          have := u.dst j rs.length q r s hj (last_snoc rs r) hd he
          omega
      · subst a2
        rw [if_pos hd]
    · rw [if_neg (hno rs.length r (last_snoc rs r))]
      exact q2 fun j q hj => hno j q (at_snoc hj)
theorem Ch.ls : ∀ {rs : List Rc} {fr : Tr V} {T : H} {Ls : List (Nat × H)} {Qs : List Qt} {SL : List (Nat × Nat)}, Ch C ih env N all n0 T0 fr0 rs fr T Ls Qs SL →
    (∀ p ∈ Ls, p.1 < rs.length ∧ ∃ r M', rs[p.1]? = some r ∧ r.k = .loud M') ∧ Ls.Pairwise (fun a b => b.1 < a.1) ∧ ∀ (k : Nat) (r : Rc) (M' : H), rs[k]? = some r → r.k = .loud M' → ∃ p ∈ Ls, p.1 = k := by
  intro rs fr T Ls Qs SL h
  induction h with
  | nil => exact ⟨(fun _ h => by cases h), List.Pairwise.nil, fun k r M' h => by simp at h⟩
  | @snoc rs T' Ls' Qs' SL' r h1 h2 h3 ih =>
    obtain ⟨a1, a2, a3⟩ := ih
    have old : ∀ p ∈ r.Ls, p.1 < (rs ++ [r]).length ∧ ∃ q M', (rs ++ [r])[p.1]? = some q ∧ q.k = .loud M' := fun p hp => by
      obtain ⟨b1, q, M', b2, b3⟩ := a1 p hp
      exact ⟨by simp; omega, q, M', at_snoc b2, b3⟩
    have quiet : (∀ M', r.k ≠ .loud M') → ∀ (k : Nat) (q : Rc) (M' : H), (rs ++ [r])[k]? = some q → q.k = .loud M' → ∃ p ∈ r.Ls, p.1 = k := by
      intro hno k q M' hk hq
      rcases snoc_at hk with ⟨_, b⟩ | ⟨_, b⟩
      · exact a3 k q M' b hq
      · subst b
        exact absurd hq (hno M')
    cases h3 with
    | loud res M' _ _ _ _ _ hk _ _ =>
      refine ⟨fun p hp => ?_, List.pairwise_cons.2 ⟨fun p hp => ?_, a2⟩, fun k q M'' hq hk' => ?_⟩
      · rcases List.mem_cons.1 hp with rfl | hp
        · refine ⟨by simp; omega, r, M', ?_, hk⟩
          show (rs ++ [r])[r.x.i]? = some r
          rw [h2]; exact last_snoc rs r
        · exact old p hp
      · have := (a1 p hp).1
        show p.1 < r.x.i
        omega
      · rcases snoc_at hq with ⟨_, b⟩ | ⟨b1, b2⟩
        · obtain ⟨p, p1, p2⟩ := a3 k q M'' b hk'
          exact ⟨p, List.mem_cons_of_mem _ p1, p2⟩
        · exact ⟨_, List.mem_cons_self .., by show r.x.i = k; omega⟩
    | skip _ _ hk => exact ⟨old, a2, quiet (fun M' h => by rw [hk] at h; cases h)⟩
    | fresh b _ _ _ hk => exact ⟨old, a2, quiet (fun M' h => by rw [hk] at h; cases h)⟩
    | free _ _ _ _ hk => exact ⟨old, a2, quiet (fun M' h => by rw [hk] at h; cases h)⟩
    | quiet _ _ _ hk _ => exact ⟨old, a2, quiet (fun M' h => by rw [hk] at h; cases h)⟩
theorem Ch.sl : ∀ {rs : List Rc} {fr : Tr V} {T : H} {Ls : List (Nat × H)} {Qs : List Qt} {SL : List (Nat × Nat)}, Ch C ih env N all n0 T0 fr0 rs fr T Ls Qs SL →
    ∀ p, p ∈ SL ↔ ∃ r o, rs[p.1]? = some r ∧ r.k = .fresh p.2 o := by
  intro rs fr T Ls Qs SL h
  induction h with
  | nil => intro p; constructor
           · intro h; cases h
           · rintro ⟨r, o, h, _⟩; simp at h
  | @snoc rs T' Ls' Qs' SL' r h1 h2 h3 ih =>
    have quiet : (∀ b o, r.k ≠ .fresh b o) → ∀ p, p ∈ r.SL ↔ ∃ q o, (rs ++ [r])[p.1]? = some q ∧ q.k = .fresh p.2 o := by
      intro hno p
      rw [ih p]
      constructor
      · rintro ⟨q, o, a1, a2⟩
        exact ⟨q, o, at_snoc a1, a2⟩
      · rintro ⟨q, o, a1, a2⟩
        rcases snoc_at a1 with ⟨_, b⟩ | ⟨_, b⟩
        · exact ⟨q, o, b, a2⟩
        · subst b
          exact absurd a2 (hno _ _)
    cases h3 with
    | fresh b _ _ _ hk =>
      intro p
      rw [List.mem_cons, ih p]
      constructor
      · rintro (e | ⟨q, o, a1, a2⟩)
        · refine ⟨r, b, ?_, by rw [e]; exact hk⟩
          rw [e]
          show (rs ++ [r])[r.x.i]? = some r
          rw [h2]; exact last_snoc rs r
        · exact ⟨q, o, at_snoc a1, a2⟩
      · rintro ⟨q, o, a1, a2⟩
        rcases snoc_at a1 with ⟨_, b'⟩ | ⟨b1, b2⟩
        · exact .inr ⟨q, o, b', a2⟩
        · left
          subst b2
          rw [hk] at a2
          injection a2 with e1 e2
          exact Prod.ext (by rw [b1, h2]) e1.symm
    | skip _ _ hk => exact quiet (fun b o h => by rw [hk] at h; cases h)
    | loud res M' _ _ _ _ _ hk _ _ => exact quiet (fun b o h => by rw [hk] at h; cases h)
    | free _ _ _ _ hk => exact quiet (fun b o h => by rw [hk] at h; cases h)
    | quiet _ _ _ hk _ => exact quiet (fun b o h => by rw [hk] at h; cases h)
theorem Ch.qs : ∀ {rs : List Rc} {fr : Tr V} {T : H} {Ls : List (Nat × H)} {Qs : List Qt} {SL : List (Nat × Nat)}, Ch C ih env N all n0 T0 fr0 rs fr T Ls Qs SL →
    ∀ (k : Nat) (r : Rc), rs[k]? = some r → r.k = .quiet → heapFree r.x.o.op = true ∨ ⟨r.x.i, r.x.m, r.x.o.op, r.fr, r.v⟩ ∈ Qs := by
  intro rs fr T Ls Qs SL h
  induction h with
  | nil => intro k r h; simp at h
  | @snoc rs T' Ls' Qs' SL' r h1 h2 h3 ih =>
    intro k q hq hk
    rcases snoc_at hq with ⟨_, b⟩ | ⟨_, b⟩
    · have := ih k q b hk
      cases h3 with
      | quiet _ _ _ _ _ => exact this.imp id (List.mem_cons_of_mem _)
      | _ => exact this
    · subst b
      cases h3 with
      | quiet _ _ _ _ _ => exact .inr (List.mem_cons_self ..)
      | free _ _ _ hf _ => exact .inl hf
      | skip _ _ h => rw [h] at hk; cases hk
      | fresh _ _ _ _ h => rw [h] at hk; cases hk
      | loud _ _ _ _ _ _ _ h _ _ => rw [h] at hk; cases hk
structure HOk (T0 : H) (rs : List Rc) (T : H) (Ls : List (Nat × H)) : Prop where
  n : T.n = (cur T0 Ls).n
  perf : Perf DH T.t
  same : ∀ b, b < 2 ^ DH → (∀ (j : Nat) (r : Rc) (o : O), rs[j]? = some r → r.k = .fresh b o → ∃ p ∈ Ls, j < p.1) → T.t.get b = (cur T0 Ls).t.get b
  still : ∀ (j : Nat) (r : Rc) (b : Nat) (o : O), rs[j]? = some r → r.k = .fresh b o → (∀ p ∈ Ls, j < p.1 → ∀ rg, rs[p.1]? = some rg → bitB rg.x.m j = false) → T.t.get b = o
theorem Ch.heap (hT0 : Perf DH T0.t) : ∀ {rs : List Rc} {fr : Tr V} {T : H} {Ls : List (Nat × H)} {Qs : List Qt} {SL : List (Nat × Nat)}, Ch C ih env N all n0 T0 fr0 rs fr T Ls Qs SL → Uq n0 rs → (∀ p ∈ Ls, Perf DH p.2.t) → HOk T0 rs T Ls := by
  intro rs fr T Ls Qs SL h
  induction h with
  | nil => exact fun _ _ => ⟨rfl, hT0, fun _ _ _ => rfl, fun j r b o h => by simp at h⟩
  | @snoc rs T' Ls' Qs' SL' r h1 h2 h3 ih =>
    intro u hP
    have hls := h1.ls
    have hlt : ∀ p ∈ r.Ls, p.1 < rs.length := fun p hp => (hls.1 p hp).1
    have plain : (∀ b o, r.k ≠ .fresh b o) → HOk T0 rs r.T r.Ls → HOk T0 (rs ++ [r]) r.T r.Ls := fun hno hi => ⟨hi.n, hi.perf, fun b hb hh => hi.same b hb fun j q o hj hk => hh j q o (at_snoc hj) hk, fun j q b o hj hk hh => by
      rcases snoc_at hj with ⟨_, c⟩ | ⟨_, c⟩
      · exact hi.still j q b o c hk fun p hp hjp rg hrg => hh p hp hjp rg (at_snoc hrg)
      · subst c
        exact absurd hk (hno _ _)⟩
    cases h3 with
    | skip _ _ hk => exact plain (fun b o h => by rw [hk] at h; cases h) (ih u.front hP)
    | free _ _ _ _ hk => exact plain (fun b o h => by rw [hk] at h; cases h) (ih u.front hP)
    | quiet _ _ _ hk _ => exact plain (fun b o h => by rw [hk] at h; cases h) (ih u.front hP)
    | fresh b _ _ _ hk =>
      have hi := ih u.front hP
      have hid := u.lt rs.length r _ b (last_snoc rs r) hk
      have hg : ∀ c, c < 2 ^ DH → (r.T.put (n0 + r.x.rk) b).t.get c = if c = n0 + r.x.rk then b else r.T.t.get c := fun c hc => hi.perf.get_set _ _ _ hid.2 hc
      refine ⟨hi.n, hi.perf.set _ _, fun c hc hh => ?_, fun j q c o hj hkq hh => ?_⟩
      · rw [hg c hc, if_neg]
        · exact hi.same c hc fun j q o hj hk' => hh j q o (at_snoc hj) hk'
        · intro e
          obtain ⟨p, p1, p2⟩ := hh rs.length r b (last_snoc rs r) (by rw [e]; exact hk)
          have := hlt p p1
          omega
      · have hcl := u.lt j q c o hj hkq
        rw [hg c hcl.2]
        rcases snoc_at hj with ⟨c1, c2⟩ | ⟨_, c2⟩
        · rw [if_neg]
          · exact hi.still j q c o c2 hkq fun p hp hjp rg hrg => hh p hp hjp rg (at_snoc hrg)
          · intro e
            have := u.id j rs.length q r c o b hj (last_snoc rs r) hkq (by rw [e]; exact hk)
            omega
        · subst c2
          rw [hk] at hkq
          cases hkq
          rw [if_pos rfl]
    | loud res M' _ _ _ _ _ hk _ _ =>
      have hi := ih u.front fun p hp => hP p (List.mem_cons_of_mem _ hp)
      have hpT := hP _ (List.mem_cons_self ..)
      refine ⟨rfl, hpT, fun _ _ _ => rfl, fun j q b o hj hkq hh => ?_⟩
      rcases snoc_at hj with ⟨c1, c2⟩ | ⟨_, c2⟩
      · have hbit := hh _ (List.mem_cons_self ..) (by show j < r.x.i; omega) r (by show (rs ++ [r])[r.x.i]? = some r; rw [h2]; exact last_snoc rs r)
        rw [backS_get r.x.m r.T (u.lt j q b o hj hkq).2 r.SL M' (backS_unperf _ _ _ _ hpT) fun p hp => ?_]
        · rw [if_pos ⟨(j, b), (h1.sl (j, b)).2 ⟨q, o, c2, hkq⟩, rfl, hbit⟩]
          exact hi.still j q b o c2 hkq fun p hp hjp rg hrg => hh p (List.mem_cons_of_mem _ hp) hjp rg (at_snoc hrg)
        · obtain ⟨q', o', d1, d2⟩ := (h1.sl p).1 hp
          exact (u.lt p.1 q' p.2 o' (at_snoc d1) d2).2
      · subst c2
        rw [hk] at hkq
        cases hkq
end
theorem lateOk_out {f : H → Bool} {m : Nat} {T0 : H} : ∀ (A B : List (Nat × H)), lateOk f m T0 (A ++ B) = true → A ≠ [] → (∀ p ∈ A, bitB m p.1 = false) → f (cur T0 B) = true
  | [], _, _, hA, _ => absurd rfl hA
  | [p], B, h, _, hb => by
    simp only [List.cons_append, List.nil_append] at h
    unfold lateOk at h
    rw [hb p (List.mem_cons_self ..)] at h
    dsimp only at h
    split at h
    · rename_i hf
      cases B <;> exact hf
    · cases h
  | p :: q :: A, B, h, _, hb => by
    simp only [List.cons_append] at h
    unfold lateOk at h
    rw [hb p (List.mem_cons_self ..)] at h
    dsimp only at h
    split at h
    · exact lateOk_out (q :: A) B h (by simp) fun x hx => hb x (List.mem_cons_of_mem _ hx)
    · cases h
theorem soonOk_out {C : Cf} {N m : Nat} {SL : List (Nat × Nat)} {T : H} : ∀ (Qs : List Qt), soonOk C N m SL T Qs = true → ∀ q ∈ Qs, bitB m q.i = false → keepV C N q.fr q.op q.v (killS q.m SL T) = true
  | [], _, _, h, _ => by cases h
  | x :: l, h, q, hq, hb => by
    unfold soonOk at h
    rcases List.mem_cons.1 hq with rfl | hq
    · rw [hb] at h
      dsimp only at h
      split at h
      · assumption
      · cases h
    · split at h
      · exact soonOk_out l h q hq hb
      · split at h
        · exact soonOk_out l h q hq hb
        · cases h
theorem allIn_out {m : Nat} : ∀ (Ls : List (Nat × H)), allIn m Ls = true → ∀ p ∈ Ls, bitB m p.1 = true
  | [], _, _, h => by cases h
  | x :: l, h, p, hp => by
    unfold allIn at h
    split at h
    · rename_i hx
      rcases List.mem_cons.1 hp with rfl | hp
      · exact hx
      · exact allIn_out l h p hp
    · cases h
theorem keepV_out {C : Cf} {N : Nat} {fr : Tr V} {op : Op} {v : V} {h : H} (q : keepV C N fr op v h = true) : opR C (ev C.G N fr) h op = some (.val v) := by
  unfold keepV at q
  split at q
  · rename_i u hu
    rw [hu, beqV_eq q]
  · cases q
end Go.Proofs.Ytoamjihchmokcaa.E
