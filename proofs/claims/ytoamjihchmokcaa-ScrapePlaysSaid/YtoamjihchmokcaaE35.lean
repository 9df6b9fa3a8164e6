/- The executor on regions that draw: one operation more. No condition. -/
import Derived.Test.YtoamjihchmokcaaE34
namespace Go.Proofs.Ytoamjihchmokcaa.E
open Go.ChangeShapes Go.WideShapes Go.ChangeAt Go.RowKit Go.Deep

section
variable {C : Cf} {ih : IHT} {env : Env} {N : Nat} {all : List Oper} {n0 : Nat} {T0 : H} {fr0 : Tr V} {l : List It} {rs : List Rc} {frE : Tr V} {TE : H} {LsF : List (Nat × H)} {QsF : List Qt} {SLF : List (Nat × Nat)}
variable {P : Program} {K : Ker} {w0 w : World} {ι κ : I} {D : Nat → Prop} {B : List (Nat × H)} {G : H} {i : Nat} {r : Rc} {a : Act} {ds : List Deferred} {fr : Tr V}
theorem putF_sound {d : Option Nat} {v : V} {x : Value} (hf : FR ι (depthOf N) N fr a.tmps) (hv : VR ι v x) : FR ι (depthOf N) N (putF N d v fr) (a.put d x).tmps ∧ (a.put d x).defers = a.defers := by
  obtain ⟨fr', e1, e2, e3⟩ := putK_sound hf d hv
  have := e1 (fun fr => fr)
  rw [putK_eq] at this
  rw [this]
  exact ⟨e2, e3⟩
theorem quiet_run (hC : C.Ok P) (ha : Atoms C P K w0 κ) (F : Fx C ih env N all n0 T0 fr0 l rs frE TE LsF QsF SLF) (hr : rs[i]? = some r) (hD : ¬ D i) (hbit : ∀ j, bitB r.x.m j = true → D j) (hcl : ∀ (k : Nat) (q : Rc), rs[k]? = some q → D k → ∀ j, bitB q.x.m j = true → D j)
    (hk : r.k = .quiet) (hf : FR κ (depthOf N) N fr a.tmps) (hfo : FrOk N fr0 rs D fr) {A : List (Nat × H)} (hAB : LsF = A ++ B) (hA : ∀ p ∈ A, ¬ D p.1) (hB : ∀ p ∈ B, D p.1) (hs : Hs T0 rs K w0 κ D B G w) :
    ∃ y, (execOp a.eval r.x.o).run P w = .ok (.value y) w ∧ VR κ r.v y := by
  have hev := hfo.ev F hr hD hbit hcl
  have fin : ∀ M : H, opR C (ev C.G N r.fr) M r.x.o.op = some (.val r.v) → Perf DH M.t → M.n = G.n → (∀ b, b < G.n → M.t.get b = .dead ∨ M.t.get b = G.t.get b) → ∃ y, (execOp a.eval r.x.o).run P w = .ok (.value y) w ∧ VR κ r.v y := by
    intro M hop hp hn hsub
    rw [← opR_congr (h := M) r.x.o.op hev] at hop
    exact opR_sound hC (ha.later hs.rep.base fun _ h => Or.inl h) (hs.rep.part (R := fun _ => False) hp hn hsub fun _ h => h.elim) (ev_sound ha.glob hf) r.x.o hop
  obtain ⟨T', Ls', Qs', SL', c1, c2, c3, A2, c4, c5⟩ := F.ch.at_ i r hr
  have hBm : ∀ p ∈ B, p ∈ LsF := fun p hp => by rw [hAB]; exact List.mem_append_right _ hp
  have hne : ∀ p ∈ B, p.1 ≠ i := fun p hp e => hD (e ▸ hB p hp)
  cases c2 with
  | skip _ _ h => rw [h] at hk; cases hk
  | fresh _ _ _ _ h => rw [h] at hk; cases hk
  | loud _ _ _ _ _ _ _ h _ _ => rw [h] at hk; cases hk
  | free h1 h2 h3 h4 h5 =>
    rw [opR_free (h' := G) _ h4] at h3
    exact fin G h3 hs.rep.perf rfl fun b _ => .inr rfl
  | quiet h1 h2 h3 h4 h5 =>
    by_cases hgt : ∃ p ∈ B, i < p.1
    · -- a loud one behind it is done
      cases B with
      | nil => obtain ⟨p, hp, _⟩ := hgt; cases hp
      | cons g B =>
        obtain ⟨rg, M', g1, g2, g3, g4, g5, g6, g7⟩ := F.head hAB
        have hgi : i < g.1 := by
          obtain ⟨p, hp, hip⟩ := hgt
          rcases List.mem_cons.1 hp with rfl | hp
          · exact hip
          · have := F.ch.ls.2.1
            rw [hAB] at this
            have := (List.pairwise_cons.1 (List.pairwise_append.1 this).2.1).1 p hp
            omega
        have hq : (⟨r.x.i, r.x.m, r.x.o.op, r.fr, r.v⟩ : Qt) ∈ rg.Qs ∨ heapFree r.x.o.op = true := (g4.qs i r (at_take hgi hr) hk).symm
        rcases hq with hq | hq
        · have hbf : bitB rg.x.m i = false := by
            cases h : bitB rg.x.m i with
            | false => rfl
            | true => exact absurd (hcl g.1 rg g1 (hB g (List.mem_cons_self ..)) i h) hD
          have hkeep := keepV_out (soonOk_out _ g7 _ hq (by rw [F.num hr]; exact hbf))
          obtain ⟨m1, m2, m3⟩ := hs.curr F hBm r.x.m rg.SL (F.sl_lt g4) fun b j q o hj hq2 hSL ⟨p, hp, hjp⟩ => by
            have hpg : p.1 ≤ g.1 := by
              rcases List.mem_cons.1 hp with rfl | hp
              · exact Nat.le_refl _
              · have := F.ch.ls.2.1
                rw [hAB] at this
                have := (List.pairwise_cons.1 (List.pairwise_append.1 this).2.1).1 p hp
                omega
            exact hbit j (hSL (j, b) ((g4.sl (j, b)).2 ⟨q, o, at_take (by omega) hj, hq2⟩) rfl)
          exact fin _ hkeep m1 m2 m3
        · rw [opR_free (h' := G) _ hq] at h3
          exact fin G h3 hs.rep.perf rfl fun b _ => .inr rfl
    · have hlow : ∀ p ∈ B, p.1 < i := fun p hp => by
        have h1 := hne p hp
        have h2 : ¬ i < p.1 := fun h => hgt ⟨p, hp, h⟩
        omega
      obtain ⟨c, e1, e2⟩ := split_low (hAB.symm.trans c4) (fun p hp => Nat.le_of_lt (c5 p hp)) hlow
      cases c with
      | nil =>
        simp only [List.nil_append] at e1
        subst e1
        obtain ⟨m1, m2, m3⟩ := hs.main F hr hbit
        exact fin _ h3 m1 m2 m3
      | cons x c =>
        rw [e1] at h5
        have hlate := lateOk_out (x :: c) B h5 (by simp) fun p hp => by
          cases h : bitB r.x.m p.1 with
          | false => rfl
          | true => exact absurd (hbit p.1 h) (hA p (e2 p hp))
        have hkeep := keepV_out hlate
        obtain ⟨m1, m2, m3⟩ := hs.curr F hBm r.x.m r.SL (F.sl_lt c1) fun b j q o hj hq2 hSL ⟨p, hp, hjp⟩ =>
          hbit j (hSL (j, b) ((c1.sl (j, b)).2 ⟨q, o, at_take (by have := hlow p hp; omega) hj, hq2⟩) rfl)
        exact fin _ hkeep m1 m2 m3
theorem Hs.lay (F : Fx C ih env N all n0 T0 fr0 l rs frE TE LsF QsF SLF) (hn0 : ∀ b, K.rs b → b < n0) (hr : rs[i]? = some r) (hD : ¬ D i) (hcl : ∀ (k : Nat) (q : Rc), rs[k]? = some q → D k → ∀ j, bitB q.x.m j = true → D j)
    {A : List (Nat × H)} (hAB : LsF = A ++ B) (hB : ∀ p ∈ B, D p.1) (hs : Hs T0 rs K w0 κ D B G w) {b : Nat} {o : O} (hk : r.k = .fresh b o) {obj : Obj} (ho : ∀ μ : I, κ.Le μ → μ.blk b = some w.heap.size → OR μ o obj) :
    κ.Le (κ.new b w.heap.size) ∧ (κ.new b w.heap.size).blk b = some w.heap.size ∧ Hs T0 rs K w0 (κ.new b w.heap.size) (And1 i D) B (G.put b o) (w.alloc obj) := by
  obtain ⟨r1, r2, r3⟩ := hs.gR i r b o hr hk hD
  have hle := le_new_at (ι := κ) r2 w.heap.size
  have hbb : (κ.new b w.heap.size).blk b = some w.heap.size := if_pos rfl
  have hid := F.uq.lt i r b o hr hk
  have hrep := hs.rep.layAt r1 r2 (fun h => by have := hn0 b h; omega) r3 (ho _ hle hbb)
  have hg : ∀ c, c < 2 ^ DH → (G.put b o).t.get c = if c = b then o else G.t.get c := fun c hc => hs.rep.perf.get_set _ _ _ hid.2 hc
  have key : ∀ {j : Nat} {q : Rc} {c : Nat} {o' : O}, rs[j]? = some q → q.k = .fresh c o' → j ≠ i → c ≠ b := by
    intro j q c o' hj hq hne e
    subst e
    exact hne (F.uniq hr hk hj hq)
  refine ⟨hle, hbb, hrep, hs.n, hs.perf, fun j q c o' hj hq hd => ?_, fun j q c o' hj hq hd hno => ?_, fun c hc hh => ?_, hs.gD, fun j q c o' hj hq hd => ?_, fun j q c o' hj hq hd => ?_⟩
  · have hne : j ≠ i := fun e => hd (.inl e)
    rw [hg c (F.uq.lt j q c o' hj hq).2, if_neg (key hj hq hne)]
    exact hs.gF j q c o' hj hq fun h => hd (.inr h)
  · rw [hg c (F.uq.lt j q c o' hj hq).2]
    by_cases e : j = i
    · subst e
      rw [hr] at hj
      cases hj
      rw [hk] at hq
      cases hq
      rw [if_pos rfl]
    · rw [if_neg (key hj hq e)]
      exact hs.gS j q c o' hj hq (hd.resolve_left e) hno
  · have hc : c < G.n := hc
    rw [hg c (Nat.lt_of_lt_of_le hc hs.rep.fit)]
    by_cases e : c = b
    · subst e
      rw [if_pos rfl]
      obtain ⟨_, p, hp, hip⟩ := hh i r o hr hk
      cases B with
      | nil => cases hp
      | cons g B =>
        obtain ⟨rg, M', g1, g2, g3, _⟩ := F.head hAB
        have hgi : i < g.1 := by
          rcases List.mem_cons.1 hp with rfl | hp
          · exact hip
          · have := F.ch.ls.2.1
            rw [hAB] at this
            have := (List.pairwise_cons.1 (List.pairwise_append.1 this).2.1).1 p hp
            omega
        refine ((g3.heap F.p0 (F.uq.take _) hs.perf).still i r c o (at_take (by omega) hr) hk fun p hp hip rg hrg => ?_).symm
        cases h : bitB rg.x.m i with
        | false => rfl
        | true => exact absurd (hcl p.1 rg (take_at hrg).2 (hB p hp) i h) hD
    · rw [if_neg e]
      refine hs.gC c hc fun j q o' hj hq => ?_
      obtain ⟨h1, h2⟩ := hh j q o' hj hq
      refine ⟨h1.resolve_left fun ej => e ?_, h2⟩
      subst ej
      rw [hr] at hj
      cases hj
      rw [hk] at hq
      injection hq with hq1
      exact hq1.symm
  · have hne : j ≠ i := fun e => hd (.inl e)
    obtain ⟨q1, q2, q3⟩ := hs.gR j q c o' hj hq fun h => hd (.inr h)
    refine ⟨q1, ?_, q3⟩
    show (if c = b then some w.heap.size else κ.blk c) = none
    rw [if_neg (key hj hq hne)]
    exact q2
  · by_cases e : j = i
    · subst e
      rw [hr] at hj
      cases hj
      rw [hk] at hq
      cases hq
      exact ⟨_, hbb⟩
    · obtain ⟨x, hx⟩ := hs.gL j q c o' hj hq (hd.resolve_left e)
      exact ⟨x, hle.blk _ _ hx⟩
def Later (rs : List Rc) (D : Nat → Prop) (b : Nat) : Prop := ∃ (j : Nat) (q : Rc) (o : O), rs[j]? = some q ∧ q.k = .fresh b o ∧ ¬ D j
open Classical in
theorem Hs.loud (F : Fx C ih env N all n0 T0 fr0 l rs frE TE LsF QsF SLF) (hr : rs[i]? = some r) (hD : ¬ D i) (hbit : ∀ j, bitB r.x.m j = true → D j) (hs : Hs T0 rs K w0 κ D r.Ls G w) (hlow : ∀ p ∈ r.Ls, p.1 < i) {M' : H} (hk : r.k = .loud M')
    {μ : I} {w' : World} (hle : κ.Le μ) (hrep : Rep (KOut K κ G (killS r.x.m r.SL r.T) (Later rs D)) w μ M' w') :
    ∃ G', Hs T0 rs K w0 μ (And1 i D) ((i, backS r.x.m r.T r.SL M') :: r.Ls) G' w' := by
  obtain ⟨m1, m2, m3⟩ := hs.main F hr hbit
  obtain ⟨_, _, _, _, c1, _⟩ := F.ch.at_ i r hr
  have hH := c1.heap F.p0 (F.uq.take i) hs.perf
  have hSLlt := F.sl_lt c1
  have hTp : Perf DH (backS r.x.m r.T r.SL M').t := backS_perf _ _ _ _ hrep.perf
  have hTg : ∀ b, b < 2 ^ DH → (backS r.x.m r.T r.SL M').t.get b = if ∃ p ∈ r.SL, p.2 = b ∧ bitB r.x.m p.1 = false then r.T.t.get b else M'.t.get b := fun b hb => backS_get r.x.m r.T hb r.SL M' hrep.perf hSLlt
  have hfit := hrep.fit
  -- a fresh one behind it: nothing is there
  have late : ∀ (j : Nat) (q : Rc) (b : Nat) (o : O), rs[j]? = some q → q.k = .fresh b o → i < j → (backS r.x.m r.T r.SL M').t.get b = .dead := by
    intro j q b o hj hq hij
    rw [hTg b (F.uq.lt j q b o hj hq).2, if_neg]
    · have hMd : (killS r.x.m r.SL r.T).t.get b = .dead := by
        rcases killS_get r.x.m (F.uq.lt j q b o hj hq).2 r.SL r.T hH.perf hSLlt with e | ⟨_, e⟩
        · exact e
        · rw [e]; exact hs.main_late F hr hj hq (Nat.le_of_lt hij)
      by_cases hd : M'.t.get b = .dead
      · exact hd
      exfalso
      by_cases hDj : D j
      · obtain ⟨c, hc⟩ := hs.gL j q b o hj hq hDj
        have hbn := (hs.rep.lt b c hc).1
        have hbM : b < M'.n := (hrep.lt b c (hle.blk _ _ hc)).1
        obtain ⟨c', o', q1, q2, _, _⟩ := hrep.live b hbM hd
        rw [hle.blk _ _ hc] at q1
        cases q1
        by_cases hGd : G.t.get b = .dead
        · -- it was done, and nothing behind it: it lies
          have := hs.gS j q b o hj hq hDj fun p hp h => by have := hlow p hp; omega
          rw [this] at hGd
          obtain ⟨_, _, _, _, _, stp, _⟩ := F.ch.at_ j q hj
          cases stp with
          | fresh b' _ _ hfr hk' =>
            rw [hk'] at hq
            injection hq with e1 e2
            subst e2
            cases hop : q.x.o.op <;> rw [hop] at hfr <;> simp only [freshV] at hfr <;> (try cases hfr)
            all_goals
              revert hfr
              repeat' split
              all_goals
                intro hfr
                first
                  | (cases hfr; done)
                  | (injection hfr with hfr; injection hfr with hf1 hf2; rw [← hf1] at hGd; cases hGd)
          | skip _ _ h => rw [h] at hq; cases hq
          | loud _ _ _ _ _ _ _ h _ _ => rw [h] at hq; cases hq
          | free _ _ _ _ h => rw [h] at hq; cases hq
          | quiet _ _ _ h _ => rw [h] at hq; cases hq
        · exact q2 (.inr ⟨b, hbn, hGd, hMd, hc⟩)
      · obtain ⟨q1, q2, _⟩ := hrep.resv b (.inr ⟨j, q, o, hj, hq, hDj⟩)
        obtain ⟨c', o', q3, _⟩ := hrep.live b q1 hd
        rw [q2] at q3
        cases q3
    · rintro ⟨p, hp, e, _⟩
      obtain ⟨q', o', h1, h2⟩ := (c1.sl p).1 hp
      rw [e] at h2
      have := F.uniq hj hq (take_at h1).2 h2
      have := (take_at h1).1
      omega
  obtain ⟨φ, hφ⟩ : ∃ φ : Nat → O, ∀ b, φ b = if Later rs D b then O.dead else if ∃ (j : Nat) (q : Rc) (o : O), rs[j]? = some q ∧ q.k = .fresh b o ∧ i < j then G.t.get b else (backS r.x.m r.T r.SL M').t.get b := ⟨_, fun _ => rfl⟩
  have hG : ∃ G' : H, G'.n = M'.n ∧ Perf DH G'.t ∧ ∀ b, b < 2 ^ DH → G'.t.get b = if Later rs D b then O.dead else if ∃ (j : Nat) (q : Rc) (o : O), rs[j]? = some q ∧ q.k = .fresh b o ∧ i < j then G.t.get b else (backS r.x.m r.T r.SL M').t.get b :=
    ⟨⟨Tr.tab DH φ, M'.n⟩, rfl, Perf.tab _ _, fun b hb => (Tr.get_tab DH φ b hb).trans (hφ b)⟩
  obtain ⟨G', gn, gp, gg⟩ := hG
  have hni : ∀ {j : Nat} {q : Rc} {b : Nat} {o : O}, rs[j]? = some q → q.k = .fresh b o → j ≠ i := fun hj hq e => by
    subst e
    rw [hr] at hj
    cases hj
    rw [hk] at hq
    cases hq
  have hD1 : ∀ {j : Nat} {q : Rc} {b : Nat} {o : O}, rs[j]? = some q → q.k = .fresh b o → (And1 i D j ↔ D j) := fun hj hq => ⟨fun h => h.resolve_left (hni hj hq), .inr⟩
  refine ⟨G', hs.rep.glue hle hrep gp gn fun b hb => ?_, ?_, fun p hp => ?_, fun j q b o hj hq hd => ?_, fun j q b o hj hq hd hno => ?_, fun b hb hh => ?_, fun j q b o hj hq hh => ?_, fun j q b o hj hq hd => ?_, fun j q b o hj hq hd => ?_⟩
  · -- what lies
    have hb2 : b < 2 ^ DH := by omega
    rw [gg b hb2]
    by_cases hl : Later rs D b
    · rw [if_pos hl]; exact .inl rfl
    · rw [if_neg hl]
      by_cases hx : ∃ (j : Nat) (q : Rc) (o : O), rs[j]? = some q ∧ q.k = .fresh b o ∧ i < j
      · rw [if_pos hx]
        obtain ⟨j, q, o, hj, hq, hij⟩ := hx
        have hDj : D j := Classical.byContradiction fun h => hl ⟨j, q, o, hj, hq, h⟩
        obtain ⟨c, hc⟩ := hs.gL j q b o hj hq hDj
        refine .inr (.inr ⟨(hs.rep.lt b c hc).1, ?_, rfl⟩)
        rcases killS_get r.x.m hb2 r.SL r.T hH.perf hSLlt with e | ⟨_, e⟩
        · exact e
        · rw [e]; exact hs.main_late F hr hj hq (Nat.le_of_lt hij)
      · rw [if_neg hx, hTg b hb2]
        by_cases hy : ∃ p ∈ r.SL, p.2 = b ∧ bitB r.x.m p.1 = false
        · rw [if_pos hy]
          obtain ⟨p, hp, e, hbf⟩ := hy
          obtain ⟨q, o, hj, hq⟩ := (c1.sl p).1 hp
          rw [e] at hq
          have hDj : D p.1 := Classical.byContradiction fun h => hl ⟨p.1, q, o, (take_at hj).2, hq, h⟩
          obtain ⟨c, hc⟩ := hs.gL p.1 q b o (take_at hj).2 hq hDj
          have hbn := (hs.rep.lt b c hc).1
          refine .inr (.inr ⟨hbn, ?_, ?_⟩)
          · rcases killS_get r.x.m hb2 r.SL r.T hH.perf hSLlt with e' | ⟨e1, _⟩
            · exact e'
            · rw [e1 p hp e] at hbf
              cases hbf
          · exact hs.main_get F hr hbn fun j' q' o' hj' hq' => by rw [F.uniq (take_at hj).2 hq hj' hq']; exact ⟨(take_at hj).1, hDj⟩
        · rw [if_neg hy]; exact .inr (.inl rfl)
  · rw [gn]
    show M'.n = (backS r.x.m r.T r.SL M').n
    rw [backS_n]
  · rcases List.mem_cons.1 hp with rfl | hp
    · exact hTp
    · exact hs.perf p hp
  · rw [gg b (F.uq.lt j q b o hj hq).2, if_pos ⟨j, q, o, hj, hq, fun h => hd ((hD1 hj hq).2 h)⟩]
  · have hDj := (hD1 hj hq).1 hd
    have hij : i < j := by
      have h1 := hno _ (List.mem_cons_self ..)
      have h2 := hni hj hq
      have h1 : ¬ j < i := h1
      omega
    rw [gg b (F.uq.lt j q b o hj hq).2, if_neg, if_pos ⟨j, q, o, hj, hq, hij⟩]
    · exact hs.gS j q b o hj hq hDj fun p hp h => hno p (List.mem_cons_of_mem _ hp) h
    · rintro ⟨j', q', o', hj', hq', hd'⟩
      rw [F.uniq hj hq hj' hq'] at hd'
      exact hd' hDj
  · rw [gg b (by omega), if_neg, if_neg]
    · rfl
    · rintro ⟨j, q, o, hj, hq, hij⟩
      obtain ⟨_, p, hp, hjp⟩ := hh j q o hj hq
      rcases List.mem_cons.1 hp with rfl | hp
      · have hjp : j < i := hjp
        omega
      · have := hlow p hp
        omega
    · rintro ⟨j, q, o, hj, hq, hd⟩
      exact hd ((hD1 hj hq).1 (hh j q o hj hq).1)
  · exact late j q b o hj hq (hh _ (List.mem_cons_self ..))
  · obtain ⟨q1, q2, q3⟩ := hrep.resv b (.inr ⟨j, q, o, hj, hq, fun h => hd ((hD1 hj hq).2 h)⟩)
    exact ⟨by rw [gn]; exact q1, q2, q3⟩
  · obtain ⟨c, hc⟩ := hs.gL j q b o hj hq ((hD1 hj hq).1 hd)
    exact ⟨c, hle.blk _ _ hc⟩
end
end Go.Proofs.Ytoamjihchmokcaa.E
