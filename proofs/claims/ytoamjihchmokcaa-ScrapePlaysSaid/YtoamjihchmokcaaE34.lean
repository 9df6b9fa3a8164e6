/- The executor on regions that draw: the state amid a region, some operations done. No condition. -/
import Derived.Test.YtoamjihchmokcaaE33
namespace Go.Proofs.Ytoamjihchmokcaa.E
open Go.ChangeShapes Go.WideShapes Go.ChangeAt Go.RowKit Go.Deep

theorem Perf.tab {α : Type} : ∀ (d : Nat) (f : Nat → α), Perf d (Tr.tab d f)
  | 0, _ => .tip _
  | d + 1, _ => .bin (Perf.tab d _) (Perf.tab d _)
structure Fx (C : Cf) (ih : IHT) (env : Env) (N : Nat) (all : List Oper) (n0 : Nat) (T0 : H) (fr0 : Tr V) (l : List It) (rs : List Rc) (frE : Tr V) (TE : H) (LsF : List (Nat × H)) (QsF : List Qt) (SLF : List (Nat × Nat)) : Prop where
  its : ItsOk all l
  map : rs.map (·.x) = l
  ch : Ch C ih env N all n0 T0 fr0 rs frE TE LsF QsF SLF
  uq : Uq n0 rs
  p0 : Perf DH T0.t
  pf : Perf (depthOf N) fr0
  fit : N ≤ 2 ^ depthOf N
structure Hs (T0 : H) (rs : List Rc) (K : Ker) (w0 : World) (κ : I) (D : Nat → Prop) (B : List (Nat × H)) (G : H) (w : World) : Prop where
  rep : Rep K w0 κ G w
  n : G.n = (cur T0 B).n
  perf : ∀ p ∈ B, Perf DH p.2.t
  gF : ∀ (j : Nat) (r : Rc) (b : Nat) (o : O), rs[j]? = some r → r.k = .fresh b o → ¬ D j → G.t.get b = .dead
  gS : ∀ (j : Nat) (r : Rc) (b : Nat) (o : O), rs[j]? = some r → r.k = .fresh b o → D j → (∀ p ∈ B, ¬ j < p.1) → G.t.get b = o
  gC : ∀ b, b < G.n → (∀ (j : Nat) (r : Rc) (o : O), rs[j]? = some r → r.k = .fresh b o → D j ∧ ∃ p ∈ B, j < p.1) → G.t.get b = (cur T0 B).t.get b
  gD : ∀ (j : Nat) (r : Rc) (b : Nat) (o : O), rs[j]? = some r → r.k = .fresh b o → (∀ p ∈ B, p.1 < j) → (cur T0 B).t.get b = .dead
  gR : ∀ (j : Nat) (r : Rc) (b : Nat) (o : O), rs[j]? = some r → r.k = .fresh b o → ¬ D j → b < G.n ∧ κ.blk b = none ∧ κ.ext b = none
  gL : ∀ (j : Nat) (r : Rc) (b : Nat) (o : O), rs[j]? = some r → r.k = .fresh b o → D j → ∃ c, κ.blk b = some c
def FrOk (N : Nat) (fr0 : Tr V) (rs : List Rc) (D : Nat → Prop) (fr : Tr V) : Prop :=
  ∀ s, s < N → (∀ (j : Nat) (r : Rc), rs[j]? = some r → D j → r.x.o.dst = some s → fr.get s = r.v) ∧ ((∀ (j : Nat) (r : Rc), rs[j]? = some r → r.x.o.dst = some s → ¬ D j) → fr.get s = fr0.get s)
structure St (T0 : H) (fr0 : Tr V) (rs : List Rc) (LsF : List (Nat × H)) (N : Nat) (ds : List Deferred) (K : Ker) (w0 : World) (ι : I) (D : Nat → Prop) (a : Act) (w : World) (κ : I) : Prop where
  le : ι.Le κ
  fr : ∃ fr, FR κ (depthOf N) N fr a.tmps ∧ FrOk N fr0 rs D fr
  ds : a.defers = ds
  hp : ∃ A B G, LsF = A ++ B ∧ (∀ p ∈ A, ¬ D p.1) ∧ (∀ p ∈ B, D p.1) ∧ Hs T0 rs K w0 κ D B G w
def And1 (i : Nat) (D : Nat → Prop) : Nat → Prop := fun j => j = i ∨ D j
section
variable {C : Cf} {ih : IHT} {env : Env} {N : Nat} {all : List Oper} {n0 : Nat} {T0 : H} {fr0 : Tr V} {l : List It} {rs : List Rc} {frE : Tr V} {TE : H} {LsF : List (Nat × H)} {QsF : List Qt} {SLF : List (Nat × Nat)}
variable {K : Ker} {w0 w : World} {κ : I} {D : Nat → Prop} {B : List (Nat × H)} {G : H} {i : Nat} {r : Rc}
theorem Fx.item (F : Fx C ih env N all n0 T0 fr0 l rs frE TE LsF QsF SLF) {k : Nat} {r : Rc} (h : rs[k]? = some r) : l[k]? = some r.x := by
  rw [← F.map, List.getElem?_map, h]; rfl
theorem Fx.num (F : Fx C ih env N all n0 T0 fr0 l rs frE TE LsF QsF SLF) {k : Nat} {r : Rc} (h : rs[k]? = some r) : r.x.i = k := F.ch.length_i k r h
theorem Fx.len (F : Fx C ih env N all n0 T0 fr0 l rs frE TE LsF QsF SLF) : rs.length = all.length := by
  rw [← F.its.len, ← F.map, List.length_map]
theorem FrOk.put (F : Fx C ih env N all n0 T0 fr0 l rs frE TE LsF QsF SLF) (hr : rs[i]? = some r) {fr : Tr V} (hp : Perf (depthOf N) fr) (h : FrOk N fr0 rs D fr) : FrOk N fr0 rs (And1 i D) (putF N r.x.o.dst r.v fr) := by
  intro s hs
  rw [putF_get hp F.fit _ _ hs]
  obtain ⟨h1, h2⟩ := h s hs
  refine ⟨fun j q hj hD hd => ?_, fun hno => ?_⟩
  · by_cases e : r.x.o.dst = some s
    · have := F.uq.dst i j r q s hr hj e hd
      subst this
      rw [hr] at hj
      cases hj
      rw [if_pos e]
    · rw [if_neg e]
      rcases hD with rfl | hD
      · rw [hr] at hj
        cases hj
        exact absurd hd e
      · exact h1 j q hj hD hd
  · rw [if_neg (fun e => hno i r hr e (.inl rfl))]
    exact h2 fun j q hj hd hD => hno j q hj hd (.inr hD)
theorem FrOk.look (F : Fx C ih env N all n0 T0 fr0 l rs frE TE LsF QsF SLF) (hr : rs[i]? = some r) (hD : ¬ D i) (hbit : ∀ j, bitB r.x.m j = true → D j) (hcl : ∀ (k : Nat) (q : Rc), rs[k]? = some q → D k → ∀ j, bitB q.x.m j = true → D j)
    {fr : Tr V} (h : FrOk N fr0 rs D fr) {s : Nat} (hs : s < N) (hl : s ∈ r.x.looks) : fr.get s = r.fr.get s := by
  obtain ⟨T', Ls', Qs', SL', c1, _⟩ := F.ch.at_ i r hr
  obtain ⟨_, hsl⟩ := c1.slot F.pf F.fit (F.uq.take i)
  obtain ⟨g1, g2⟩ := hsl s hs
  obtain ⟨h1, h2⟩ := h s hs
  have none : (∀ (j : Nat) (q : Rc), rs[j]? = some q → q.x.o.dst = some s → ¬ D j ∧ ¬ j < i) → fr.get s = r.fr.get s := fun hno => by
    rw [h2 fun j q hj hd => (hno j q hj hd).1, g2 fun j q hj hd => (hno j q (take_at hj).2 hd).2 (take_at hj).1]
  by_cases hex : ∃ (j : Nat) (q : Rc), rs[j]? = some q ∧ q.x.o.dst = some s
  · obtain ⟨j, q, hj, hd⟩ := hex
    have huq : ∀ (j' : Nat) (q' : Rc), rs[j']? = some q' → q'.x.o.dst = some s → j' = j := fun j' q' h1 h2 => F.uq.dst j' j q' q s h1 hj h2 hd
    by_cases e : i = j
    · subst e
      refine none fun j' q' h1 h2 => ?_
      rw [huq j' q' h1 h2]
      exact ⟨hD, Nat.lt_irrefl _⟩
    · rcases F.its.look (F.item hr) (F.item hj) e hl hd with ⟨a1, a2⟩ | ⟨a1, a2⟩
      · refine none fun j' q' h1 h2 => ?_
        rw [huq j' q' h1 h2]
        exact ⟨fun hDj => hD (hcl j q hj hDj i a2), by omega⟩
      · rw [h1 j q hj (hbit j a2) hd, g1 j q (at_take a1 hj) hd]
  · exact none fun j q hj hd => absurd ⟨j, q, hj, hd⟩ hex
theorem slots_mem {t : Nat} : ∀ {l : List Operand}, .tmp t ∈ l → t ∈ slotsL l
  | x :: l, h => by
    rcases List.mem_cons.1 h with e | h
    · subst e
      exact List.mem_cons_self ..
    · have := slots_mem h
      cases x <;> first | exact this | exact List.mem_cons_of_mem _ this
theorem looks_op {o : Oper} {t : Nat} (h : t ∈ slotsL (operandsL o.op)) : t ∈ looksL all o := by
  unfold looksL
  split
  · exact h
  · split
    · split
      · exact List.mem_cons_of_mem _ h
      · exact h
    · exact h
theorem FrOk.ev (F : Fx C ih env N all n0 T0 fr0 l rs frE TE LsF QsF SLF) (hr : rs[i]? = some r) (hD : ¬ D i) (hbit : ∀ j, bitB r.x.m j = true → D j) (hcl : ∀ (k : Nat) (q : Rc), rs[k]? = some q → D k → ∀ j, bitB q.x.m j = true → D j)
    {fr : Tr V} (h : FrOk N fr0 rs D fr) : ∀ x ∈ operandsL r.x.o.op, ev C.G N fr x = ev C.G N r.fr x := by
  intro x hx
  cases x with
  | tmp t =>
    simp only [E.ev]
    split
    · rename_i ht
      refine h.look F hr hD hbit hcl (by simpa [Nat.blt_eq] using ht) ?_
      rw [(F.its.it i r.x (F.item hr)).looks]
      exact looks_op (slots_mem hx)
    · rfl
  | const v => rfl
  | func f => rfl
  | global g => rfl
theorem FrOk.wants (F : Fx C ih env N all n0 T0 fr0 l rs frE TE LsF QsF SLF) (hr : rs[i]? = some r) (hD : ¬ D i) (hbit : ∀ j, bitB r.x.m j = true → D j) (hcl : ∀ (k : Nat) (q : Rc), rs[k]? = some q → D k → ∀ j, bitB q.x.m j = true → D j)
    {fr : Tr V} (h : FrOk N fr0 rs D fr) : wantsV N all fr r.x.o.guard = wantsV N all r.fr r.x.o.guard := by
  have hlk := (F.its.it i r.x (F.item hr)).looks
  unfold wantsV
  cases hg : r.x.o.guard with
  | none => rfl
  | some p =>
    obtain ⟨j, b⟩ := p
    dsimp only
    cases hj : nthO all j with
    | none => rfl
    | some o =>
      dsimp only
      cases hd : o.dst with
      | none => rfl
      | some d =>
        dsimp only
        cases hb : Nat.blt d N with
        | false => rfl
        | true =>
          dsimp only
          rw [h.look F hr hD hbit hcl (by simpa [Nat.blt_eq] using hb)]
          rw [hlk]
          unfold looksL
          rw [hg]
          dsimp only
          rw [hj]
          dsimp only
          rw [hd]
          exact List.mem_cons_self ..
theorem Hs.more (hr : rs[i]? = some r) (hk : ∀ b o, r.k ≠ .fresh b o) (h : Hs T0 rs K w0 κ D B G w) : Hs T0 rs K w0 κ (And1 i D) B G w := by
  have key : ∀ {j : Nat} {q : Rc} {b : Nat} {o : O}, rs[j]? = some q → q.k = .fresh b o → (And1 i D j ↔ D j) := by
    intro j q b o hj hq
    refine ⟨fun hd => hd.resolve_left fun e => ?_, .inr⟩
    subst e
    rw [hr] at hj
    cases hj
    exact hk _ _ hq
  exact ⟨h.rep, h.n, h.perf, fun j q b o hj hq hd => h.gF j q b o hj hq fun e => hd ((key hj hq).2 e), fun j q b o hj hq hd => h.gS j q b o hj hq ((key hj hq).1 hd),
    fun b hb hh => h.gC b hb fun j q o hj hq => ⟨(key hj hq).1 (hh j q o hj hq).1, (hh j q o hj hq).2⟩, h.gD, fun j q b o hj hq hd => h.gR j q b o hj hq fun e => hd ((key hj hq).2 e), fun j q b o hj hq hd => h.gL j q b o hj hq ((key hj hq).1 hd)⟩
theorem Fx.uniq (F : Fx C ih env N all n0 T0 fr0 l rs frE TE LsF QsF SLF) {b : Nat} {j j' : Nat} {q q' : Rc} {o o' : O} (h1 : rs[j]? = some q) (h2 : q.k = .fresh b o) (h3 : rs[j']? = some q') (h4 : q'.k = .fresh b o') : j' = j :=
  F.uq.id j' j q' q b o' o h3 h1 h4 h2
theorem Fx.loud_ne (F : Fx C ih env N all n0 T0 fr0 l rs frE TE LsF QsF SLF) {p : Nat × H} (hp : p ∈ LsF) {q : Rc} (hq : rs[p.1]? = some q) : ∃ M', q.k = .loud M' := by
  obtain ⟨_, q', M', h1, h2⟩ := F.ch.ls.1 p hp
  rw [hq] at h1
  cases h1
  exact ⟨M', h2⟩
theorem split_head {A A3 B L : List (Nat × H)} {p q : Nat × H} (h : A ++ p :: B = A3 ++ q :: L) (hpq : p.1 = q.1) (hA : ∀ x ∈ A, p.1 < x.1) (hA3 : ∀ x ∈ A3, p.1 < x.1) : p = q ∧ B = L ∧ A = A3 := by
  rcases List.append_eq_append_iff.1 h with ⟨a, e1, e2⟩ | ⟨a, e1, e2⟩
  · cases a with
    | nil =>
      simp at e2 e1
      exact ⟨e2.1, e2.2, e1.symm⟩
    | cons x a =>
      simp only [List.cons_append, List.cons.injEq] at e2
      have := hA3 x (by rw [e1]; simp)
      rw [← e2.1] at this
      exact absurd this (Nat.lt_irrefl _)
  · cases a with
    | nil =>
      simp at e2 e1
      exact ⟨e2.1.symm, e2.2.symm, e1⟩
    | cons x a =>
      simp only [List.cons_append, List.cons.injEq] at e2
      have := hA x (by rw [e1]; simp)
      rw [← e2.1, hpq] at this
      exact absurd this (Nat.lt_irrefl _)
theorem split_low {A A2 B L : List (Nat × H)} {k : Nat} (h : A ++ B = A2 ++ L) (hA2 : ∀ x ∈ A2, k ≤ x.1) (hB : ∀ x ∈ B, x.1 < k) : ∃ c, L = c ++ B ∧ ∀ x ∈ c, x ∈ A := by
  rcases List.append_eq_append_iff.1 h with ⟨a, e1, e2⟩ | ⟨a, e1, e2⟩
  · cases a with
    | nil => exact ⟨[], by simpa using e2.symm, (fun _ h => by cases h)⟩
    | cons x a =>
      have h1 := hA2 x (by rw [e1]; simp)
      have h2 := hB x (by rw [e2]; simp)
      omega
  · exact ⟨a, e2, fun x hx => by rw [e1]; exact List.mem_append_right _ hx⟩
theorem Fx.head (F : Fx C ih env N all n0 T0 fr0 l rs frE TE LsF QsF SLF) {A B : List (Nat × H)} {p : Nat × H} (h : LsF = A ++ p :: B) :
    ∃ (r : Rc) (M' : H), rs[p.1]? = some r ∧ r.k = .loud M' ∧ Ch C ih env N all n0 T0 fr0 (rs.take (p.1 + 1)) (putF N r.x.o.dst r.v r.fr) p.2 (p :: B) r.Qs r.SL ∧ Ch C ih env N all n0 T0 fr0 (rs.take p.1) r.fr r.T r.Ls r.Qs r.SL ∧ r.Ls = B ∧ allIn r.x.m r.Ls = true ∧ soonOk C N r.x.m r.SL p.2 r.Qs = true := by
  obtain ⟨_, r, M', h1, h2⟩ := F.ch.ls.1 p (by rw [h]; simp)
  obtain ⟨T', Ls', Qs', SL', c1, c2, c3, A3, c4, c5⟩ := F.ch.at_ p.1 r h1
  have hi := F.num h1
  have hA : ∀ x ∈ A, p.1 < x.1 := by
    have := F.ch.ls.2.1
    rw [h] at this
    exact fun x hx => (List.pairwise_append.1 this).2.2 x hx p (List.mem_cons_self ..)
  cases c2 with
  | loud res M'' d1 d2 d3 d4 d5 d6 d7 d8 =>
    rw [h] at c4
    obtain ⟨e1, e2, _⟩ := split_head c4 hi.symm hA c5
    subst e2
    rw [← e1] at c3
    refine ⟨r, M', h1, h2, ?_, c1, rfl, d7, ?_⟩
    · have : p.2 = backS r.x.m r.T r.SL M'' := by rw [e1]
      rw [this]
      exact c3
    · have : p.2 = backS r.x.m r.T r.SL M'' := by rw [e1]
      rw [this]
      exact d8
  | skip _ _ hk => rw [hk] at h2; cases h2
  | fresh _ _ _ _ hk => rw [hk] at h2; cases h2
  | free _ _ _ _ hk => rw [hk] at h2; cases h2
  | quiet _ _ _ hk _ => rw [hk] at h2; cases h2
theorem Fx.before (F : Fx C ih env N all n0 T0 fr0 l rs frE TE LsF QsF SLF) (hcl : ∀ (k : Nat) (q : Rc), rs[k]? = some q → D k → ∀ j, bitB q.x.m j = true → D j) {p : Nat × H} (hp : p ∈ LsF) (hD : D p.1) {j : Nat} {q : Rc} {M' : H} (hq : rs[j]? = some q) (hk : q.k = .loud M') (hj : j < p.1) : D j := by
  obtain ⟨A, B, e⟩ := List.append_of_mem hp
  obtain ⟨r, _, h1, _, _, h2, _, h3, _⟩ := F.head e
  obtain ⟨x, x1, x2⟩ := h2.ls.2.2 j q M' (at_take hj hq) hk
  have := allIn_out _ h3 x x1
  rw [x2] at this
  exact hcl p.1 r h1 hD j this
theorem Fx.sl_lt (F : Fx C ih env N all n0 T0 fr0 l rs frE TE LsF QsF SLF) {k : Nat} {fr : Tr V} {T : H} {Ls : List (Nat × H)} {Qs : List Qt} {SL : List (Nat × Nat)} (h : Ch C ih env N all n0 T0 fr0 (rs.take k) fr T Ls Qs SL) : ∀ p ∈ SL, p.2 < 2 ^ DH := by
  intro p hp
  obtain ⟨q, o, h1, h2⟩ := (h.sl p).1 hp
  exact (F.uq.lt p.1 q p.2 o (take_at h1).2 h2).2
theorem Hs.main_get (F : Fx C ih env N all n0 T0 fr0 l rs frE TE LsF QsF SLF) (hr : rs[i]? = some r) (h : Hs T0 rs K w0 κ D r.Ls G w) {b : Nat} (hb : b < G.n) (hh : ∀ (j : Nat) (q : Rc) (o : O), rs[j]? = some q → q.k = .fresh b o → j < i ∧ D j) : r.T.t.get b = G.t.get b := by
  obtain ⟨T', Ls', Qs', SL', c1, _⟩ := F.ch.at_ i r hr
  have hH := c1.heap F.p0 (F.uq.take i) h.perf
  have hb2 : b < 2 ^ DH := Nat.lt_of_lt_of_le hb h.rep.fit
  by_cases hex : ∃ (j : Nat) (q : Rc) (o : O), rs[j]? = some q ∧ q.k = .fresh b o
  · obtain ⟨j, q, o, hj, hk⟩ := hex
    obtain ⟨h1, h2⟩ := hh j q o hj hk
    by_cases hp : ∃ p ∈ r.Ls, j < p.1
    · rw [hH.same b hb2 fun j' q' o' hj' hk' => by rw [F.uniq hj hk (take_at hj').2 hk']; exact hp,
        h.gC b hb fun j' q' o' hj' hk' => by rw [F.uniq hj hk hj' hk']; exact ⟨h2, hp⟩]
    · rw [hH.still j q b o (at_take h1 hj) hk fun p hp' hjp => absurd ⟨p, hp', hjp⟩ hp, h.gS j q b o hj hk h2 fun p hp' hjp => hp ⟨p, hp', hjp⟩]
  · rw [hH.same b hb2 fun j' q' o' hj' hk' => absurd ⟨j', q', o', (take_at hj').2, hk'⟩ hex, h.gC b hb fun j' q' o' hj' hk' => absurd ⟨j', q', o', hj', hk'⟩ hex]
theorem Hs.main_late (F : Fx C ih env N all n0 T0 fr0 l rs frE TE LsF QsF SLF) (hr : rs[i]? = some r) (h : Hs T0 rs K w0 κ D r.Ls G w) {j : Nat} {q : Rc} {b : Nat} {o : O} (hj : rs[j]? = some q) (hk : q.k = .fresh b o) (hij : i ≤ j) : r.T.t.get b = .dead := by
  obtain ⟨T', Ls', Qs', SL', c1, _⟩ := F.ch.at_ i r hr
  have hH := c1.heap F.p0 (F.uq.take i) h.perf
  rw [hH.same b (F.uq.lt j q b o hj hk).2 fun j' q' o' hj' hk' => by
    have := F.uniq hj hk (take_at hj').2 hk'
    have := (take_at hj').1
    omega]
  refine h.gD j q b o hj hk fun p hp => ?_
  have := (c1.ls.1 p hp).1
  have := List.length_take_le i rs
  omega
theorem Hs.main (F : Fx C ih env N all n0 T0 fr0 l rs frE TE LsF QsF SLF) (hr : rs[i]? = some r) (hbit : ∀ j, bitB r.x.m j = true → D j) (h : Hs T0 rs K w0 κ D r.Ls G w) :
    Perf DH (killS r.x.m r.SL r.T).t ∧ (killS r.x.m r.SL r.T).n = G.n ∧ ∀ b, b < G.n → (killS r.x.m r.SL r.T).t.get b = .dead ∨ (killS r.x.m r.SL r.T).t.get b = G.t.get b := by
  obtain ⟨T', Ls', Qs', SL', c1, _⟩ := F.ch.at_ i r hr
  have hH := c1.heap F.p0 (F.uq.take i) h.perf
  refine ⟨killS_perf _ _ _ hH.perf, by rw [killS_n, hH.n, h.n], fun b hb => ?_⟩
  have hb2 : b < 2 ^ DH := Nat.lt_of_lt_of_le hb h.rep.fit
  rcases killS_get r.x.m hb2 r.SL r.T hH.perf (F.sl_lt c1) with e | ⟨e1, e2⟩
  · exact .inl e
  · rw [e2]
    by_cases hex : ∃ (j : Nat) (q : Rc) (o : O), rs[j]? = some q ∧ q.k = .fresh b o
    · obtain ⟨j, q, o, hj, hk⟩ := hex
      rcases Nat.lt_or_ge j i with hlt | hge
      · right
        have hbj := e1 (j, b) ((c1.sl (j, b)).2 ⟨q, o, at_take hlt hj, hk⟩) rfl
        exact h.main_get F hr hb fun j' q' o' hj' hk' => by rw [F.uniq hj hk hj' hk']; exact ⟨hlt, hbit j hbj⟩
      · exact .inl (h.main_late F hr hj hk hge)
    · exact .inr (h.main_get F hr hb fun j' q' o' hj' hk' => absurd ⟨j', q', o', hj', hk'⟩ hex)
theorem Hs.cur_perf (F : Fx C ih env N all n0 T0 fr0 l rs frE TE LsF QsF SLF) (h : Hs T0 rs K w0 κ D B G w) : Perf DH (cur T0 B).t := by
  cases B with
  | nil => exact F.p0
  | cons p B => exact h.perf p (List.mem_cons_self ..)
theorem Hs.curr (F : Fx C ih env N all n0 T0 fr0 l rs frE TE LsF QsF SLF) (hB : ∀ p ∈ B, p ∈ LsF) (h : Hs T0 rs K w0 κ D B G w) (m : Nat) (SL : List (Nat × Nat)) (hSL : ∀ p ∈ SL, p.2 < 2 ^ DH)
    (hh : ∀ (b j : Nat) (q : Rc) (o : O), rs[j]? = some q → q.k = .fresh b o → (∀ p ∈ SL, p.2 = b → bitB m p.1 = true) → (∃ p ∈ B, j < p.1) → D j) :
    Perf DH (killS m SL (cur T0 B)).t ∧ (killS m SL (cur T0 B)).n = G.n ∧ ∀ b, b < G.n → (killS m SL (cur T0 B)).t.get b = .dead ∨ (killS m SL (cur T0 B)).t.get b = G.t.get b := by
  refine ⟨killS_perf _ _ _ (h.cur_perf F), by rw [killS_n, h.n], fun b hb => ?_⟩
  have hb2 : b < 2 ^ DH := Nat.lt_of_lt_of_le hb h.rep.fit
  rcases killS_get m hb2 SL (cur T0 B) (h.cur_perf F) hSL with e | ⟨e1, e2⟩
  · exact .inl e
  · rw [e2]
    by_cases hex : ∃ (j : Nat) (q : Rc) (o : O), rs[j]? = some q ∧ q.k = .fresh b o
    · obtain ⟨j, q, o, hj, hk⟩ := hex
      by_cases hp : ∃ p ∈ B, j < p.1
      · exact .inr (h.gC b hb fun j' q' o' hj' hk' => by rw [F.uniq hj hk hj' hk']; exact ⟨hh b j q o hj hk e1 hp, hp⟩).symm
      · left
        refine h.gD j q b o hj hk fun p hp' => ?_
        rcases Nat.lt_trichotomy p.1 j with a | a | a
        · exact a
        · rw [← a] at hj
          obtain ⟨M', hM⟩ := F.loud_ne (hB p hp') hj
          rw [hM] at hk
          cases hk
        · exact absurd ⟨p, hp', a⟩ hp
    · exact .inr (h.gC b hb fun j' q' o' hj' hk' => absurd ⟨j', q', o', hj', hk'⟩ hex).symm
end
end Go.Proofs.Ytoamjihchmokcaa.E
