/- The executor on regions that draw: every order comes to the same; it is sound. No condition. -/
import Derived.Test.YtoamjihchmokcaaE35
import Derived.OrdersIn
namespace Go.Proofs.Ytoamjihchmokcaa.E
open Go.ChangeShapes Go.WideShapes Go.ChangeAt Go.RowKit Go.Deep

theorem ready_full {md : Region.Mode} {ops : Array Oper} {L : Array Bool} (hs : L.size = ops.size) (hord : ∀ (i : Nat) (o : Oper), ops[i]? = some o → ∀ e ∈ o.after, Region.binds md e = true → e.on < i) (hr : Region.ready md ops L = []) :
    ∀ i, i < ops.size → L.getD i false = true := by
  intro i
  induction i using Nat.strongRecOn with
  | _ i ih =>
    intro hi
    cases hl : L.getD i false with
    | true => rfl
    | false =>
      have hmem : i ∈ Region.ready md ops L := by
        rw [mem_ready]
        have hlt : i < L.size := by omega
        refine ⟨?_, ops[i], Array.getElem?_eq_getElem hi, fun e he hb => ?_⟩
        · rw [Array.getD_eq_getD_getElem?, Array.getElem?_eq_getElem hlt] at hl ⊢
          exact hl
        · have := hord i _ (Array.getElem?_eq_getElem hi) e he hb
          exact ih e.on this (by omega)
      rw [hr] at hmem
      cases hmem
theorem getD_false {L : Array Bool} {i : Nat} (h : L.getD i true = false) : L.getD i false = false := by
  rw [Array.getD_eq_getD_getElem?] at h ⊢
  cases hx : L[i]? with
  | none => rfl
  | some b => rw [hx] at h; exact h
theorem getD_one {D : Array Bool} {i j : Nat} (h : i < D.size) : ((D.setIfInBounds i true).getD j false = true) ↔ (j = i ∨ D.getD j false = true) := by
  by_cases e : i = j
  · subst e
    simp [h]
  · rw [getD_set_ne false e]
    exact ⟨.inr, fun h => h.resolve_left fun h => e h.symm⟩
theorem countP_less {p q : Nat → Bool} {i : Nat} (hp : p i = false) (hq : q i = true) : ∀ {l : List Nat}, (∀ k, p k = true → q k = true) → i ∈ l → l.countP p < l.countP q
  | [], _, hi => by cases hi
  | x :: l, h, hi => by
    have hle : ∀ (l : List Nat), l.countP p ≤ l.countP q := fun l => List.countP_mono_left fun k _ hk => h k hk
    rw [List.countP_cons, List.countP_cons]
    rcases List.mem_cons.1 hi with rfl | hi
    · rw [hp, hq]
      have := hle l
      simp
      omega
    · have h1 := countP_less hp hq h hi
      by_cases hx : p x = true
      · rw [hx, h x hx]
        simp
        omega
      · have : p x = false := by simpa using hx
        rw [this]
        simp
        omega
section
variable {C : Cf} {ih : IHT} {env : Env} {N : Nat} {n0 : Nat} {T0 : H} {fr0 : Tr V} {l : List It} {rs : List Rc} {frE : Tr V} {TE : H} {LsF : List (Nat × H)} {QsF : List Qt} {SLF : List (Nat × Nat)} {ops : Array Oper}
variable {P : Program} {K : Ker} {w0 w : World} {ι κ : I} {D : Nat → Prop} {i : Nat} {r : Rc} {a : Act} {ds : List Deferred}
theorem step_one (hC : C.Ok P) (hS : Sound C P ih) (hA0 : Atoms C P K w0 ι) (hE0 : EOk ι env) (F : Fx C ih env N ops.toList n0 T0 fr0 l rs frE TE LsF QsF SLF) (hn0 : ∀ b, K.rs b → b < n0)
    (st : St T0 fr0 rs LsF N ds K w0 ι D a w κ) (hr : rs[i]? = some r) (hD : ¬ D i) (hbit : ∀ j, bitB r.x.m j = true → D j) (hcl : ∀ (k : Nat) (q : Rc), rs[k]? = some q → D k → ∀ j, bitB q.x.m j = true → D j)
    {rb : Option Nat} {Q : Exit → Act → World → Prop} {next : Act → World → Prop} (hn : ∀ a' w' μ, St T0 fr0 rs LsF N ds K w0 ι (And1 i D) a' w' μ → next a' w') : wpOpIn (FW rb) 0 P ops Q i next a w := by
  obtain ⟨fr, hf, hfo⟩ := st.fr
  obtain ⟨A, B, G, hAB, hA, hB, hs⟩ := st.hp
  have ha : Atoms C P K w0 κ := hA0.mono st.le
  have hE : EOk κ env := hE0.mono st.le
  have hop : ops[i]? = some r.x.o := by
    have := (F.its.it i r.x (F.item hr)).o
    rw [← Array.getElem?_toList]
    exact this
  have hwv := hfo.wants F hr hD hbit hcl
  obtain ⟨T', Ls', Qs', SL', c1, c2, c3, A2, c4, c5⟩ := F.ch.at_ i r hr
  have hA1 : (∀ M', r.k ≠ .loud M') → ∀ p ∈ A, ¬ And1 i D p.1 := by
    intro hno p hp hd
    rcases hd with e | hd
    · obtain ⟨M', hM⟩ := F.loud_ne (p := p) (by rw [hAB]; exact List.mem_append_left _ hp) (q := r) (by rw [e]; exact hr)
      exact hno M' hM
    · exact hA p hp hd
  have hfr : ∀ {μ : I} {y : Value}, κ.Le μ → VR μ r.v y → ∃ fr', FR μ (depthOf N) N fr' (a.put r.x.o.dst y).tmps ∧ FrOk N fr0 rs (And1 i D) fr' := fun hle hv =>
    ⟨_, (putF_sound (hf.mono hle) hv).1, hfo.put F hr hf.perf⟩
  have hds : ∀ y, (a.put r.x.o.dst y).defers = ds := fun y => by
    rw [← st.ds]
    cases r.x.o.dst <;> rfl
  have plain : (∀ b o, r.k ≠ .fresh b o) → (∀ M', r.k ≠ .loud M') → ∀ {y : Value}, VR κ r.v y → next (a.put r.x.o.dst y) w := fun h1 h2 y hv =>
    hn _ _ κ ⟨st.le, hfr (.refl _) hv, hds y, A, B, G, hAB, hA1 h2, fun p hp => .inr (hB p hp), hs.more hr h1⟩
  have quiet : r.k = .quiet → wantsV N ops.toList r.fr r.x.o.guard = some true → wpOpIn (FW rb) 0 P ops Q i next a w := by
    intro hk hw
    rw [← hwv] at hw
    have hw := wants_sound hf ops r.x.o hw
    unfold wpOpIn
    simp only [hop]
    rw [if_pos hw]
    obtain ⟨y, e, hv⟩ := quiet_run hC ha F hr hD hbit hcl hk hf hfo hAB hA hB hs
    refine ⟨fun _ _ => trivial, ?_⟩
    have hnd : ∀ c, r.x.o.op ≠ .defer c := by
      cases c2 with
      | free _ _ h _ _ => exact opR_no_defer h
      | quiet _ _ h _ _ => exact opR_no_defer h
      | skip _ _ h => rw [h] at hk; cases hk
      | fresh _ _ _ _ h => rw [h] at hk; cases hk
      | loud _ _ _ _ _ _ _ h _ _ => rw [h] at hk; cases hk
    rw [Oper.semAt_eq _ _ _ hnd, e, Oper.uponIn_value]
    exact plain (fun b o h => by rw [h] at hk; cases hk) (fun M' h => by rw [h] at hk; cases hk) hv
  cases c2 with
  | skip hw hv hk =>
    rw [← hwv] at hw
    have hw := wants_sound hf ops r.x.o hw
    unfold wpOpIn
    simp only [hop]
    rw [if_neg (by rw [hw]; simp)]
    refine ⟨fun _ _ => trivial, plain (fun b o h => by rw [h] at hk; cases hk) (fun M' h => by rw [h] at hk; cases hk) ?_⟩
    rw [hv]
    simp only [VR]
    exact ⟨[], VRs.nil_iff.2 rfl, rfl⟩
  | free hw _ _ _ hk => exact quiet hk hw
  | quiet hw _ _ hk _ => exact quiet hk hw
  | fresh b hw hfr0 hop1 hk =>
    rw [← hwv] at hw
    have hw := wants_sound hf ops r.x.o hw
    unfold wpOpIn
    simp only [hop]
    rw [if_pos hw]
    rw [← freshV_congr _ _ (hfo.ev F hr hD hbit hcl)] at hop1
    obtain ⟨_, y, obj, e, hy⟩ := freshV_sound (w := w) hC (ev_sound ha.glob hf) r.x.o hop1
    obtain ⟨g1, g2, g3⟩ := hs.lay F hn0 hr hD hcl hAB hB hk (obj := obj) fun μ h1 h2 => (hy μ h1 h2).1
    refine ⟨fun _ _ => trivial, ?_⟩
    have hnd : ∀ c, r.x.o.op ≠ .defer c := fun c h => by rw [h] at hfr0; cases hfr0
    rw [Oper.semAt_eq _ _ _ hnd, e, Oper.uponIn_value]
    exact hn _ _ _ ⟨st.le.trans g1, hfr g1 (hy _ g1 g2).2, hds y, A, B, _, hAB, hA1 (fun M' h => by rw [h] at hk; cases hk), fun p hp => .inr (hB p hp), g3⟩
  | loud res M' hw _ hop1 hne hloud hk hall hsoon =>
    rw [← hwv] at hw
    have hw := wants_sound hf ops r.x.o hw
    unfold wpOpIn
    simp only [hop]
    rw [if_pos hw]
    have hBm : ∀ p ∈ B, p ∈ LsF := fun p hp => by rw [hAB]; exact List.mem_append_right _ hp
    have hlow : ∀ p ∈ B, p.1 < i := fun p hp => by
      rcases Nat.lt_trichotomy p.1 i with h | h | h
      · exact h
      · exact absurd (h ▸ hB p hp) hD
      · exact absurd (F.before hcl (hBm p hp) (hB p hp) hr hk h) hD
    have hi := F.num hr
    obtain ⟨c, e1, e2⟩ := split_low (k := i) (hAB.symm.trans (c4.trans (List.append_cons A2 _ r.Ls))) (fun p hp => by
      rcases List.mem_append.1 hp with hp | hp
      · exact Nat.le_of_lt (c5 p hp)
      · rw [List.mem_singleton] at hp
        rw [hp]
        show i ≤ r.x.i
        omega) hlow
    have hc : c = [] := by
      cases c with
      | nil => rfl
      | cons x c => exact absurd (hbit x.1 (allIn_out _ hall x (by rw [e1]; simp))) (hA x (e2 x (List.mem_cons_self ..)))
    subst hc
    simp only [List.nil_append] at e1
    subst e1
    obtain ⟨m1, m2, m3⟩ := hs.main F hr hbit
    have hrp := hs.rep.part (R := Later rs D) m1 m2 m3 fun b ⟨j, q, o, h1, h2, h3⟩ => hs.gR j q b o h1 h2 h3
    rw [← opR_congr (h := killS r.x.m r.SL r.T) r.x.o.op (hfo.ev F hr hD hbit hcl)] at hop1
    have ha2 := ha.later (K' := KOut K κ G (killS r.x.m r.SL r.T) (Later rs D)) hs.rep.base fun _ h => Or.inl h
    have hrun := opR_sound hC ha2 hrp (ev_sound ha.glob hf) r.x.o hop1
    have fin : ∀ {y : Value} {μ : I} {w' : World}, κ.Le μ → Rep (KOut K κ G (killS r.x.m r.SL r.T) (Later rs D)) w μ M' w' → VR μ r.v y → next (a.put r.x.o.dst y) w' := by
      intro y μ w' hle hrep hv
      obtain ⟨G', hG'⟩ := hs.loud F hr hD hbit hlow hk hle hrep
      refine hn _ _ μ ⟨st.le.trans hle, hfr hle hv, hds y, A2, _, G', by rw [c4, hi], fun p hp hd => ?_, fun p hp => ?_, hG'⟩
      · have h1 := c5 p hp
        rcases hd with e | hd
        · omega
        · exact hD (F.before hcl (by rw [c4]; exact List.mem_append_left _ hp) hd hr hk h1)
      · rcases List.mem_cons.1 hp with e | hp
        · subst e; exact .inl rfl
        · exact .inr (hB p hp)
    refine ⟨fun _ _ => trivial, ?_⟩
    rw [Oper.semAt_eq _ _ _ (opR_no_defer hop1)]
    cases res with
    | val v => exact absurd rfl (hne v)
    | many l => cases hloud
    | mem v h' =>
      obtain ⟨y, w', μ, e, hle, hrep, hv⟩ := hrun
      rw [e, Oper.uponIn_value]
      injection hloud with hl
      injection hl with hl1 hl2
      subst hl1 hl2
      exact fin hle hrep hv
    | done h' =>
      obtain ⟨w', μ, e, hle, hrep⟩ := hrun
      rw [e, Oper.uponIn_skip]
      injection hloud with hl
      injection hl with hl1 hl2
      subst hl2
      exact fin hle hrep (by rw [← hl1]; simp only [VR]; exact ⟨[], VRs.nil_iff.2 rfl, rfl⟩)
    | call f args =>
      obtain ⟨xs, e, hx⟩ := hrun
      have hloud : callK C ih env f args (killS r.x.m r.SL r.T) (fun v h => some (v, h)) = some (r.v, M') := hloud
      obtain ⟨d1, d2⟩ := callK_sound hC hS (RvLe.of_eq hloud) ha2 hrp hE hx rb
      rw [e, d1, Oper.uponIn_enter]
      refine ⟨(fun h => by cases h), d2.mono ?_⟩
      rintro _ w' ⟨v, y, h', μ, rfl, hle, hrep, hv, v', x, h0, q1, q2, hsub⟩
      cases q1
      cases q2
      exact fin hle (hrep.sub hsub) hv
    | round lb args =>
      obtain ⟨c, xs, hb, e, hx⟩ := hrun
      have hloud : roundK ih env lb args (killS r.x.m r.SL r.T) (fun v h => some (v, h)) = some (r.v, M') := hloud
      obtain ⟨fn, tm, asx, bd, d1, d2⟩ := roundK_sound hS (RvLe.of_eq hloud) ha2 hrp hE hx hb rb
      rw [e, d1, Oper.uponIn_round]
      refine ⟨(fun h => by cases h), d2.mono ?_⟩
      rintro _ w' ⟨v, y, h', μ, rfl, hle, hrep, hv, v', x, h0, q1, q2, hsub⟩
      cases q1
      cases q2
      exact fin hle (hrep.sub hsub) hv
theorem any_sound (hC : C.Ok P) (hS : Sound C P ih) (hA0 : Atoms C P K w0 ι) (hE0 : EOk ι env) (F : Fx C ih env N ops.toList n0 T0 fr0 l rs frE TE LsF QsF SLF) (hn0 : ∀ b, K.rs b → b < n0)
    {rb : Option Nat} {Q : Exit → Act → World → Prop} (hQ : ∀ a' w' κ, ι.Le κ → FR κ (depthOf N) N frE a'.tmps → Rep K w0 κ TE w' → a'.defers = ds → Q .normal a' w') :
    ∀ (f : Nat) (L : Array Bool) (a : Act) (w : World) (κ : I), L.size = ops.size → (∀ (k : Nat) (o : Oper), ops[k]? = some o → L.getD k false = true → ∀ e ∈ o.after, Region.binds .any e = true → L.getD e.on false = true) →
      St T0 fr0 rs LsF N ds K w0 ι (fun j => L.getD j false = true) a w κ → (List.range ops.size).countP (fun k => !L.getD k false) ≤ f → wpAnyIn (FW rb) 0 P .any ops Q f L a w := by
  have hlen : rs.length = ops.size := by rw [F.len]; simp
  have hoper : ∀ {k : Nat} {r : Rc}, rs[k]? = some r → ops[k]? = some r.x.o := fun hr => by
    have := (F.its.it _ _ (F.item hr)).o
    rw [← Array.getElem?_toList]
    exact this
  have hrec : ∀ {k : Nat}, k < ops.size → ∃ r, rs[k]? = some r := fun hk => ⟨rs[_]'(by omega), List.getElem?_eq_getElem _⟩
  have hord : ∀ (k : Nat) (o : Oper), ops[k]? = some o → ∀ e ∈ o.after, Region.binds .any e = true → e.on < k := by
    intro k o ho e he hb
    obtain ⟨r, hr⟩ := hrec (Array.getElem?_eq_some_iff.1 ho).1
    have := hoper hr
    rw [ho] at this
    cases this
    exact (F.its.it k r.x (F.item hr)).edges e (Array.mem_toList_iff.2 he) hb
  have hend : ∀ (L : Array Bool) (a : Act) (w : World) (κ : I), L.size = ops.size → St T0 fr0 rs LsF N ds K w0 ι (fun j => L.getD j false = true) a w κ → Region.ready .any ops L = [] → Q .normal a w := by
    intro L a w κ hsz st h0
    have hall := ready_full hsz hord h0
    have hallr : ∀ {j : Nat} {r : Rc}, rs[j]? = some r → L.getD j false = true := fun hr => hall _ (by rw [← hlen]; exact (List.getElem?_eq_some_iff.1 hr).1)
    obtain ⟨fr, hf, hfo⟩ := st.fr
    obtain ⟨A, B, G, hAB, hA, hB, hs⟩ := st.hp
    have hA0 : A = [] := by
      cases A with
      | nil => rfl
      | cons x A =>
        obtain ⟨_, r, _, h1, _⟩ := F.ch.ls.1 x (by rw [hAB]; simp)
        exact absurd (hallr h1) (hA x (List.mem_cons_self ..))
    subst hA0
    simp only [List.nil_append] at hAB
    subst hAB
    obtain ⟨s1, s2⟩ := F.ch.slot F.pf F.fit F.uq
    have hH := F.ch.heap F.p0 F.uq hs.perf
    refine hQ a w κ st.le ⟨s1, hf.fit, hf.size, fun k hk => ?_⟩ ?_ st.ds
    · have : frE.get k = fr.get k := by
        obtain ⟨a1, a2⟩ := s2 k hk
        obtain ⟨b1, b2⟩ := hfo k hk
        by_cases hex : ∃ (j : Nat) (q : Rc), rs[j]? = some q ∧ q.x.o.dst = some k
        · obtain ⟨j, q, hj, hd⟩ := hex
          rw [a1 j q hj hd, b1 j q hj (hallr hj) hd]
        · rw [a2 fun j q hj hd => hex ⟨j, q, hj, hd⟩, b2 fun j q hj hd => absurd ⟨j, q, hj, hd⟩ hex]
      rw [this]
      exact hf.at_ k hk
    · have hg : ∀ b, b < G.n → TE.t.get b = G.t.get b := by
        intro b hb
        have hb2 : b < 2 ^ DH := Nat.lt_of_lt_of_le hb hs.rep.fit
        by_cases hex : ∃ (j : Nat) (q : Rc) (o : O), rs[j]? = some q ∧ q.k = .fresh b o
        · obtain ⟨j, q, o, hj, hk⟩ := hex
          by_cases hp : ∃ p ∈ LsF, j < p.1
          · rw [hH.same b hb2 fun j' q' o' hj' hk' => by rw [F.uniq hj hk hj' hk']; exact hp,
              hs.gC b hb fun j' q' o' hj' hk' => by rw [F.uniq hj hk hj' hk']; exact ⟨hallr hj, hp⟩]
          · rw [hH.still j q b o hj hk fun p hp' hjp => absurd ⟨p, hp', hjp⟩ hp, hs.gS j q b o hj hk (hallr hj) fun p hp' hjp => hp ⟨p, hp', hjp⟩]
        · rw [hH.same b hb2 fun j' q' o' hj' hk' => absurd ⟨j', q', o', hj', hk'⟩ hex, hs.gC b hb fun j' q' o' hj' hk' => absurd ⟨j', q', o', hj', hk'⟩ hex]
      have r := hs.rep
      have hn : TE.n = G.n := by rw [hH.n, hs.n]
      refine ⟨hH.perf, by rw [hn]; exact r.fit, r.base, fun b hb hd => ?_, fun p q c hp hq hpd hqd ep eq => ?_, fun b c e => by rw [hn]; exact r.lt b c e, fun b q e => by rw [hn]; exact r.lps b q e, fun b E e => by rw [hn]; exact r.ext b E e, fun b hb => by rw [hn]; exact r.resv b hb⟩
      · rw [hn] at hb
        rw [hg b hb] at hd ⊢
        exact r.live b hb hd
      · rw [hn] at hp hq
        rw [hg p hp] at hpd
        rw [hg q hq] at hqd
        exact r.inj p q c hp hq hpd hqd ep eq
  have hdone : ∀ (L : Array Bool), L.size = ops.size → (List.range ops.size).countP (fun i => !L.getD i false) ≤ 0 → Region.ready .any ops L = [] := by
    intro L hD hc
    refine List.eq_nil_iff_forall_not_mem.2 fun j hj => ?_
    obtain ⟨h1, o, ho, _⟩ := mem_ready.1 hj
    have hlt := (Array.getElem?_eq_some_iff.1 ho).1
    have := List.countP_eq_zero.1 (Nat.le_zero.1 hc) j (List.mem_range.2 hlt)
    rw [getD_false h1] at this
    simp at this
  intro f
  induction f with
  | zero =>
    intro L a w κ hsz hdown st hc
    have h0 := hdone L hsz hc
    exact ⟨h0, hend L a w κ hsz st h0⟩
  | succ f ihf =>
    intro L a w κ hsz hdown st hc
    refine ⟨hend L a w κ hsz st, fun i hi => ?_⟩
    obtain ⟨h1, o, ho, hafter⟩ := mem_ready.1 hi
    have hLi : L.getD i false = false := getD_false h1
    have hlt := (Array.getElem?_eq_some_iff.1 ho).1
    have hltL : i < L.size := by rw [hsz]; exact hlt
    obtain ⟨r, hr⟩ := hrec hlt
    have hro := hoper hr
    rw [ho] at hro
    cases hro
    have hclo : ∀ (k : Nat) (x : It), l[k]? = some x → L.getD k false = true → ∀ e ∈ x.o.after.toList, Region.binds .any e = true → L.getD e.on false = true := by
      intro k x hx hk e he hb
      have hxo := (F.its.it k x hx).o
      rw [Array.getElem?_toList] at hxo
      exact hdown k x.o hxo hk e (Array.mem_toList_iff.1 he) hb
    have hbit : ∀ j, bitB r.x.m j = true → L.getD j false = true := F.its.closed (L := fun j => L.getD j false = true) hclo i r.x (F.item hr) fun e he hb => hafter e (Array.mem_toList_iff.1 he) hb
    have hcl : ∀ (k : Nat) (q : Rc), rs[k]? = some q → L.getD k false = true → ∀ j, bitB q.x.m j = true → L.getD j false = true := fun k q hq hk =>
      F.its.closed (L := fun j => L.getD j false = true) hclo k q.x (F.item hq) fun e he hb => hclo k q.x (F.item hq) hk e he hb
    refine step_one hC hS hA0 hE0 F hn0 st hr (by rw [hLi]; simp) hbit hcl fun a' w' μ st' => ?_
    have hDeq : And1 i (fun j => L.getD j false = true) = fun j => (L.setIfInBounds i true).getD j false = true := by
      funext j
      exact propext (getD_one hltL).symm
    rw [hDeq] at st'
    refine ihf _ a' w' μ (by simp [hsz]) (fun k ok hok hk e he hb => ?_) st' ?_
    · rw [getD_one hltL] at hk ⊢
      rcases hk with rfl | hk
      · rw [ho] at hok
        cases hok
        exact .inr (hafter e he hb)
      · exact .inr (hdown k ok hok hk e he hb)
    · have : (List.range ops.size).countP (fun k => !(L.setIfInBounds i true).getD k false) < (List.range ops.size).countP (fun k => !L.getD k false) := by
        refine countP_less (i := i) ?_ (by rw [hLi]; rfl) (fun k hk => ?_) (List.mem_range.2 hlt)
        · rw [(getD_one hltL).2 (.inl rfl)]; rfl
        · cases hk2 : L.getD k false with
          | false => rfl
          | true => rw [(getD_one hltL).2 (.inr hk2)] at hk; cases hk
      omega
end
end Go.Proofs.Ytoamjihchmokcaa.E
