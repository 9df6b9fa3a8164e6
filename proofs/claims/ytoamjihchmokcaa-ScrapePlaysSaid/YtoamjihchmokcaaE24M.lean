/- The executor on a function's code: operations and ranges over functions. No condition. || The executor on a function's code: it is sound. No condition. -/
import Derived.Test.YtoamjihchmokcaaE22M
import Derived.TacticsIn
namespace Go.Proofs.Ytoamjihchmokcaa.E
open Go.ChangeShapes Go.WideShapes Go.ChangeAt Go.RowKit Go.Deep

theorem manyK_le {KK : V → H → Rv} {r0 : Rv} : ∀ (l : List (V × H)), RvLe (manyK KK l) r0 → ∀ p ∈ l, RvLe (KK p.1 p.2) r0
  | [], h, _, _ => h.not_none.elim
  | [p], h, q, hq => by
    rw [List.mem_singleton] at hq
    subst hq
    exact h
  | p :: u :: l, h, q, hq => by
    have h : RvLe (merge (KK p.1 p.2) (manyK KK (u :: l))) r0 := h
    obtain ⟨h1, h2⟩ := merge_le h
    rcases List.mem_cons.1 hq with e | e
    · subst e; exact h1
    · exact manyK_le (u :: l) h2 q e
theorem opR_no_defer {C : Cf} {e : Operand → V} {h : H} {op : Op} {r : R} (hr : opR C e h op = some r) : ∀ c, op ≠ .defer c := by
  intro c hc
  subst hc
  simp only [opR] at hr
  cases hr
section
variable {P : Program} {K : Ker} {w0 w : World} {ι : I} {h : H} {C : Cf} {ih : IHT} {env : Env} {N : Nat} {fr : Tr V} {a : Act} {r0 : Rv}
def On (K : Ker) (w0 : World) (ι : I) (N : Nat) (ds : List Deferred) (KK : Tr V → H → Rv) (r0 : Rv) (next : Act → World → Prop) : Prop :=
  ∀ fr' h' κ a' w', ι.Le κ → FR κ (depthOf N) N fr' a'.tmps → Rep K w0 κ h' w' → a'.defers = ds → RvLe (KK fr' h') r0 → next a' w'
theorem stepK_sound (hC : C.Ok P) (hS : Sound C P ih) (o : Oper) {res : R} (hres : opR C (ev C.G N fr) h o.op = some res) {KK : Tr V → H → Rv} (hr : RvLe (stepK C ih env N o.dst res fr h KK) r0)
    (ha : Atoms C P K w0 ι) (hf : FR ι (depthOf N) N fr a.tmps) (r : Rep K w0 ι h w) (he : EOk ι env) {rb : Option Nat} {Q : Exit → Act → World → Prop} {next : Act → World → Prop} (hn : On K w0 ι N a.defers KK r0 next) :
    o.wpIn (FW rb) 0 P a w next Q := by
  refine ⟨fun _ _ => trivial, ?_⟩
  rw [Oper.semAt_eq _ _ _ (opR_no_defer hres)]
  have hk := opR_sound hC ha r (ev_sound ha.glob hf) o hres
  have fin : ∀ {v : V} {y : Value} {h' : H} {w' : World} {κ : I}, ι.Le κ → Rep K w0 κ h' w' → VR κ v y → RvLe (putK N o.dst v fr fun fr => KK fr h') r0 → next (a.put o.dst y) w' := by
    intro v y h' w' κ hle hrep hv hq
    obtain ⟨fr', e1, e2, e3⟩ := putK_sound (hf.mono hle) o.dst hv
    rw [e1] at hq
    exact hn fr' h' κ _ w' hle e2 hrep e3 hq
  cases res with
  | val v =>
    obtain ⟨y, e, hv⟩ := hk
    rw [e, Oper.uponIn_value]
    simp only [stepK, forceV_eq] at hr
    exact fin (.refl _) r hv hr
  | mem v h' =>
    obtain ⟨y, w', κ, e, hle, hrep, hv⟩ := hk
    rw [e, Oper.uponIn_value]
    simp only [stepK, forceV_eq, forceH_eq] at hr
    exact fin hle hrep hv hr
  | done h' =>
    obtain ⟨w', κ, e, hle, hrep⟩ := hk
    rw [e, Oper.uponIn_skip]
    simp only [stepK, forceH_eq] at hr
    exact fin hle hrep (v := .tup []) (by simp only [VR]; exact ⟨[], VRs.nil_iff.2 rfl, rfl⟩) hr
  | call f args =>
    obtain ⟨xs, e, hx⟩ := hk
    simp only [stepK] at hr
    obtain ⟨c1, c2⟩ := callK_sound hC hS hr ha r he hx rb
    rw [e, c1, Oper.uponIn_enter]
    refine ⟨(fun h => by cases h), c2.mono ?_⟩
    rintro _ w' ⟨v, y, h', κ, rfl, hle, hrep, hv, hq⟩
    exact fin hle hrep hv hq
  | round l args =>
    obtain ⟨c, xs, hb, e, hx⟩ := hk
    simp only [stepK] at hr
    obtain ⟨fn, tm, asx, bd, c1, c2⟩ := roundK_sound hS hr ha r he hx hb rb
    rw [e, c1, Oper.uponIn_round]
    refine ⟨(fun h => by cases h), c2.mono ?_⟩
    rintro _ w' ⟨v, y, h', κ, rfl, hle, hrep, hv, hq⟩
    exact fin hle hrep hv hq
  | many l =>
    obtain ⟨p, hp, y, w', κ, e, hle, hrep, hv⟩ := hk
    rw [e, Oper.uponIn_value]
    simp only [stepK, forceV_eq, forceH_eq] at hr
    exact fin hle hrep hv (manyK_le l hr p hp)
theorem opsK_sound (hC : C.Ok P) (hS : Sound C P ih) (ops : Array Oper) {KK : Tr V → H → Rv} {rb : Option Nat} {Q : Exit → Act → World → Prop} :
    ∀ (l : List Oper) {fr : Tr V} {h : H} {ι : I} {a : Act} {w : World}, RvLe (opsK C ih env N ops.toList l fr h KK) r0 → Atoms C P K w0 ι → FR ι (depthOf N) N fr a.tmps → Rep K w0 ι h w → EOk ι env → On K w0 ι N a.defers KK r0 (Q .normal) →
      wpListIn (FW rb) 0 P ops Q l a w
  | [], fr, h, ι, a, w, hr, _, hf, r, _, hn => hn fr h ι a w (.refl _) hf r rfl hr
  | o :: l, fr, h, ι, a, w, hr, ha, hf, r, he, hn => by
    have hr : RvLe (match wantsV N ops.toList fr o.guard with
      | none => none
      | some false => putK N o.dst (.tup []) fr fun fr => opsK C ih env N ops.toList l fr h KK
      | some true => match opR C (ev C.G N fr) h o.op with
        | none => none
        | some x => stepK C ih env N o.dst x fr h fun fr h => opsK C ih env N ops.toList l fr h KK) r0 := hr
    split at hr
    · exact hr.not_none.elim
    · rename_i hw
      have hw := wants_sound hf ops o hw
      unfold wpListIn
      rw [if_neg (by rw [hw]; simp)]
      refine ⟨fun _ _ => trivial, ?_⟩
      obtain ⟨fr', e1, e2, e3⟩ := putK_sound hf o.dst (v := .tup []) (x := undef) (by simp only [VR]; exact ⟨[], VRs.nil_iff.2 rfl, rfl⟩)
      rw [e1] at hr
      exact opsK_sound hC hS ops l hr ha e2 r he (by rw [e3]; exact hn)
    · rename_i hw
      have hw := wants_sound hf ops o hw
      unfold wpListIn
      rw [if_pos hw]
      split at hr
      · exact hr.not_none.elim
      · rename_i res hres
        refine stepK_sound hC hS o hres hr ha hf r he ?_
        intro fr' h' κ a' w' hle hf' hr' hd hq
        exact opsK_sound hC hS ops l hq (ha.mono hle) hf' hr' (he.mono hle) fun fr'' h'' κ' a'' w'' hle' hf'' hr'' hd' hq' => hn _ _ _ _ _ (hle.trans hle') hf'' hr'' (hd'.trans hd) hq'

theorem Tr.set_set {α : Type} (t : Tr α) : ∀ (k : Nat) (x y : α), (t.set k x).set k y = t.set k y := by
  induction t with
  | tip v => intro k x y; rfl
  | bin l r hl hr =>
    intro k x y
    rw [Tr.set_bin, Tr.set_bin]
    split
    · rename_i h0
      rw [Tr.set_bin, if_pos h0, hl]
    · rename_i h0
      rw [Tr.set_bin, if_neg h0, hr]
theorem Rep.revive (r : Rep K w0 ι h w) {b c : Nat} (hb : ι.blk b = some c) (hk : ¬ K c) {a : O} {o : Obj} (ho : OR ι a o) (h1 : w.heap[c]? = some o) (hno : ∀ k, k < h.n → h.t.get k ≠ .dead → ι.blk k ≠ some c) : Rep K w0 ι (h.put b a) w := by
  have hl := r.fit
  have hbn := (r.lt b c hb).1
  have hg : ∀ k, k < h.n → (h.t.set b a).get k = if k = b then a else h.t.get k := fun k hk => r.perf.get_set _ _ _ (by omega) (by omega)
  refine ⟨r.perf.set _ _, r.fit, r.base, fun k hk' hkd => ?_, fun p q d hp hq hpd hqd ep eq => ?_, r.lt, r.lps, r.ext, r.resv⟩
  · have hk' : k < h.n := hk'
    have hkd : (h.t.set b a).get k ≠ .dead := hkd
    show ∃ c o, _ ∧ _ ∧ _ ∧ OR ι ((h.t.set b a).get k) o
    rw [hg k hk'] at hkd ⊢
    by_cases e : k = b
    · subst e
      rw [if_pos rfl]
      exact ⟨c, o, hb, hk, h1, ho⟩
    · rw [if_neg e] at hkd ⊢
      exact r.live k hk' hkd
  · have hp : p < h.n := hp
    have hq : q < h.n := hq
    have hpd' : (h.t.set b a).get p ≠ .dead := hpd
    have hqd' : (h.t.set b a).get q ≠ .dead := hqd
    rw [hg p hp] at hpd'
    rw [hg q hq] at hqd'
    by_cases e1 : p = b
    · by_cases e2 : q = b
      · rw [e1, e2]
      · rw [if_neg e2] at hqd'
        subst e1
        rw [hb] at ep
        cases ep
        exact absurd eq (hno q hq hqd')
    · rw [if_neg e1] at hpd'
      by_cases e2 : q = b
      · subst e2
        rw [hb] at eq
        cases eq
        exact absurd ep (hno p hp hpd')
      · rw [if_neg e2] at hqd'
        exact r.inj p q d hp hq hpd' hqd' ep eq
theorem Rep.lay_loop (r : Rep K w0 ι h w) (hn : h.n < 2 ^ DH) {q : LI} {fn : Nat} {tm : Array Value} {c' : Nat} (hf : FR ι q.d q.N q.fr tm) (hc : ι.blk q.dfr = some c') :
    ∃ κ, ι.Le κ ∧ κ.blk h.n = some w.heap.size ∧ κ.lp h.n = some q ∧ Rep K w0 κ (h.add (.loop h.n .ready none)) (w.alloc (.loop ⟨.ready, none, fn, tm, q.ps.toArray, q.assign, q.body, c'⟩)) := by
  obtain ⟨o, ho⟩ : ∃ o : Obj, o = .loop ⟨.ready, none, fn, tm, q.ps.toArray, q.assign, q.body, c'⟩ := ⟨_, rfl⟩
  have h1 := r.alloc (a := .dead) (o := o) hn trivial
  have hle1 := r.le_new w.heap.size
  have hlp : (ι.new h.n w.heap.size).lp h.n = none := by
    cases e : (ι.new h.n w.heap.size).lp h.n with
    | none => rfl
    | some x => exact absurd (r.lps h.n x e) (Nat.lt_irrefl _)
  have hle2 := le_newl q hlp
  have hb : ((ι.new h.n w.heap.size).newl h.n q).blk h.n = some w.heap.size := if_pos rfl
  have hlq : ((ι.new h.n w.heap.size).newl h.n q).lp h.n = some q := if_pos rfl
  have h2 := h1.newl q hlp (Nat.lt_succ_self _)
  have hg : ∀ b, b < h.n + 1 → (h.t.set h.n O.dead).get b = if b = h.n then O.dead else h.t.get b := fun b hb => r.perf.get_set _ _ _ hn (by omega)
  have h3 := h2.revive hb (a := .loop h.n .ready none) (o := o) (fun hk => Nat.lt_irrefl _ (r.base.lt hk)) ⟨q, fn, tm, c', hlq, (hf.mono hle1).mono hle2, hle2.blk _ _ (hle1.blk _ _ hc), ho⟩ (heap_alloc_new w o) (fun k hk hkd e => by
    have hk : k < h.n + 1 := hk
    have hkd : (h.t.set h.n O.dead).get k ≠ .dead := hkd
    rw [hg k hk] at hkd
    by_cases e1 : k = h.n
    · rw [if_pos e1] at hkd; exact hkd rfl
    · have e : (if k = h.n then some w.heap.size else ι.blk k) = some w.heap.size := e
      rw [if_neg e1] at e
      exact Nat.lt_irrefl _ (r.lt _ _ e).2)
  refine ⟨_, hle1.trans hle2, hb, hlq, ?_⟩
  rw [← ho]
  have e : (⟨h.t.set h.n O.dead, h.n + 1⟩ : H).put h.n (.loop h.n .ready none) = h.add (.loop h.n .ready none) := by
    simp only [H.put, H.add, Tr.set_set]
  rw [← e]
  exact h3
theorem endLK_sound (r : Rep K w0 ι h w) {l c : Nat} (hb : ι.blk l = some c) {KK : Ex → H → Rv} (hr : RvLe (endLK h l KK) r0) :
    ∃ (jump : Option J) (w' : World), (Instr.endLoop c).run P w = .ok (jump.map J.code) w' ∧ Rep K w0 ι (h.put l .dead) w' ∧ RvLe (KK (exOf jump) (h.put l .dead)) r0 := by
  have key : ∀ {l' : Nat} {st : LoopState} {p : Option J}, h.t.get l = .loop l' st p → st ≠ .busy → RvLe (KK (exOf p) (h.put l .dead)) r0 →
      ∃ (jump : Option J) (w' : World), (Instr.endLoop c).run P w = .ok (jump.map J.code) w' ∧ Rep K w0 ι (h.put l .dead) w' ∧ RvLe (KK (exOf jump) (h.put l .dead)) r0 := by
    intro l' st p hd hst hq
    obtain ⟨q, fn, tm, c', h1, h2, h3, h4⟩ := r.loop_at hb hd
    refine ⟨p, _, run_endLoop h4 hst, r.putO hb (by rw [hd]; simp) (a := .dead) trivial fun arr t f e => ?_, hq⟩
    rw [h4] at e
    cases e
  unfold endLK at hr
  split at hr
  · exact hr.not_none.elim
  · rename_i l' st p hnb hd
    refine key hd (fun e => ?_) hr
    subst e
    simp_all
  · exact hr.not_none.elim
end
end Go.Proofs.Ytoamjihchmokcaa.E
namespace Go.Proofs.Ytoamjihchmokcaa.E
open Go.ChangeShapes Go.WideShapes Go.ChangeAt Go.RowKit Go.Deep

section
variable {F : Fence} {n : Nat} {P : Program} {Q : Exit → Act → World → Prop} {b : Frame} {a : Act} {k : List Item} {cs : List Frame} {w : World} {c : Code}
theorem stepR_scope : step P (lone (b.atR a (.code (.scope c) :: k)) cs w) = .next (lone (b.atR a (.code c :: .inScope c :: k)) cs w) :=
  step_lone_go (by simp [stepG, stepG.exec, Frame.atR])
theorem stepR_inScope : step P (lone (b.atR a (.inScope c :: k)) cs w) = .next (lone (b.atR a k) cs w) :=
  step_lone_go (by simp [stepG, stepG.exec, Frame.atR])
theorem wpIn_scope_straight (h : c.wpIn F n P (Exit.noGoto Q) a w) : (Code.scope c).wpIn F n P Q a w := by
  intro b k cs hro hb hr
  have h0 : (lone (b.atR a (.code (.scope c) :: k)) cs w).fenced P F := fenced_calm hb hr rfl
  obtain ⟨e, a₁, w₁, hq, harr⟩ := h b (.inScope c :: k) cs hro hb hr
  cases e with
  | normal => exact ⟨.normal, a₁, w₁, hq, .head h0 stepR_scope (StepsIn.trans harr (.one (fenced_calm hb hr rfl) stepR_inScope))⟩
  | exit id =>
    have hx : exitTo id (.inScope c :: k) = exitTo id k := by simp [exitTo]
    exact ⟨.exit id, a₁, w₁, hq, fun k' hk => .head h0 stepR_scope (harr.1 k' (by rw [hx]; exact hk)),
      fun hr' hk => let ⟨k₁, h1, h2⟩ := harr.2 hr' (by rw [hx]; exact hk); ⟨k₁, h1, .head h0 stepR_scope h2⟩⟩
  | goto l => exact hq.elim
  | ret => exact ⟨_, a₁, w₁, hq, .of_steps (.one h0 stepR_scope) harr⟩
  | panic ch => exact ⟨_, a₁, w₁, hq, .of_steps (.one h0 stepR_scope) harr⟩
  | outgrown => exact ⟨_, a₁, w₁, hq, .of_steps (.one h0 stepR_scope) harr⟩
end
section
variable {P : Program} {K : Ker} {w0 w : World} {ι : I} {h : H} {C : Cf} {ih : IHT} {env : Env} {N : Nat} {fr : Tr V} {a : Act} {r0 : Rv}
theorem Post.mono {κ : I} {KK : KT} {e : Exit} (hle : ι.Le κ) (q : Post K w0 κ N KK r0 e a w) : Post K w0 ι N KK r0 e a w := by
  obtain ⟨ex, fr', df', h', μ, q1, q2, q3⟩ := q
  exact ⟨ex, fr', df', h', μ, q1, hle.trans q2, q3⟩
theorem range_back {KK : KT} {rb : Option Nat} {c n0 : Nat} {a' : Act} {df : List Nat} {κ : I} (hle0 : ι.Le κ) (hb : κ.blk n0 = some c) (hf : FR κ (depthOf N) N fr a'.tmps) (hd : DOk κ df a'.defers) {e : Ending} {w' : World}
    (q : Back K w0 κ (fun _ h => endLK h n0 fun e h => KK e fr df h) r0 e w') : rangePost (FW rb) 0 P c (Post K w0 ι N KK r0) a' e w' := by
  obtain ⟨v, y, h', μ, rfl, hle, hrep, _, hq⟩ := q
  obtain ⟨jump, w4, e4, rep4, hq4⟩ := endLK_sound (P := P) hrep (hle.blk _ _ hb) hq
  refine ⟨_, w4, e4, ?_⟩
  have hp : ∀ ex e, exOf jump = ex → ExR e ex → Post K w0 ι N KK r0 e a' w4 := fun ex e h1 h2 => ⟨ex, fr, df, _, μ, h2, hle0.trans hle, hf.mono hle, rep4, hd.mono hle, h1 ▸ hq4⟩
  cases jump with
  | none => exact hp _ _ rfl trivial
  | some j =>
    cases j with
    | ret => exact wpIn_ret (hp _ _ rfl trivial)
    | exit i => exact wpIn_exit (hp _ _ rfl rfl)
theorem rangeK_sound (hC : C.Ok P) (hS : Sound C P ih) {rd rb : Option Nat} {g : Operand} {ps : Array Tmp} {assign body : Code} {df : List Nat} {KK : KT} (hr : RvLe (rangeK C ih env rd g ps.toList assign body N fr df h KK) r0)
    (ha : Atoms C P K w0 ι) (hf : FR ι (depthOf N) N fr a.tmps) (r : Rep K w0 ι h w) (he : EOk ι env) (hrd : RdOk ι rd rb) (hd : DOk ι df a.defers) :
    (Code.rangeFunc g ps assign body).wpIn (FW rb) 0 P (Post K w0 ι N KK r0) a w := by
  unfold rangeK at hr
  split at hr
  rotate_left
  · exact hr.not_none.elim
  rename_i f caps hg hn
  have hn : h.n + 1 < 2 ^ DH := by
    have : Nat.succ h.n < 4096 := by simpa [Nat.blt_eq] using hn
    exact this
  have hgv := ev_sound ha.glob hf g
  rw [hg] at hgv
  unfold VR at hgv
  obtain ⟨cs, hcs, hgv⟩ := hgv
  refine wpIn_rangeFunc fun fn _ => ?_
  have hres : ∀ (l : Nat) (w1 : World), (resolve a.eval (rangeCall g l) 0).run P w1 = .ok { target := .fn (.func f) cs.toArray, args := #[.func (.yield l) #[] #[]] } w1 := by
    intro l w1
    simp only [resolve, hgv]
    simp [go_sem]
  have hinv : ∀ (l : Nat) (w1 : World), (∀ y, (callFunc f y).run P w1 = .ok (.enter f y) w1) → (invoke (.fn (.func f) cs.toArray) #[.func (.yield l) #[] #[]]).run P w1 = .ok (.enter f (Value.func (.yield l) #[] #[] :: cs).toArray) w1 := by
    intro l w1 hy
    have := hy (#[Value.func (.yield l) #[] #[]] ++ cs.toArray)
    simp [invoke, go_sem] at this ⊢
    exact this
  split at hr
  · -- an outermost loop
    cases rb with
    | some _ => exact hrd.elim
    | none =>
      simp only [forceN_eq, forceH_eq] at hr
      have r1 := r.alloc (a := .dfr) (o := .deferred (some [])) (by omega) rfl
      have hle1 := r.le_new w.heap.size
      have hb1 : (ι.new h.n w.heap.size).blk h.n = some w.heap.size := if_pos rfl
      obtain ⟨κ, hle2, hb2, hl2, r2⟩ := r1.lay_loop (q := ⟨fr, depthOf N, N, ps.toList, assign, body, h.n⟩) (fn := fn) (tm := a.tmps) (c' := w.heap.size) hn (hf.mono hle1) hb1
      have hle := hle1.trans hle2
      rw [World.size_alloc] at hb2
      have hx : VRs κ (.yld (h.n + 1) :: caps) (Value.func (.yield (w.heap.size + 1)) #[] #[] :: cs) := VRs.cons_iff.2 ⟨_, _, by unfold VR; exact ⟨_, hb2, rfl⟩, hcs.mono hle, rfl⟩
      obtain ⟨c1, c2⟩ := callK_sound hC hS hr (ha.mono hle) r2 ((he.mono hle).cons hl2 rfl) hx none
      refine ⟨_, _, _, _, _, f, _, _, run_enterLoop_outer _ _ _ _ _, hres _ _, fun _ _ => trivial, hinv _ _ ?_, (fun h => by cases h), ?_⟩
      · simpa using c1
      · have c2 := c2.mono (R' := rangePost (FW none) 0 P (w.heap.size + 1) (Post K w0 ι N KK r0) { a with defers := [{ target := .collected w.heap.size, args := #[] }] ++ a.defers }) fun e w' q =>
          range_back (a' := { a with defers := [{ target := .collected w.heap.size, args := #[] }] ++ a.defers }) (df := h.n :: df) hle hb2 (hf.mono hle) ⟨w.heap.size, _, _, hle2.blk _ _ hb1, rfl, hd.mono hle, rfl⟩ q
        simpa using c2
  · -- a loop in a round
    rename_i l0
    split at hr
    rotate_left
    · exact hr.not_none.elim
    rename_i q l1 st p hq hl1
    split at hr
    rotate_left
    · exact hr.not_none.elim
    rename_i hbq
    have hbq := Nat.eq_of_beq_eq_true hbq
    subst hbq
    cases rb with
    | none => exact hrd.elim
    | some c0 =>
      simp only [forceN_eq, forceH_eq] at hr
      have hrd : ι.blk l1 = some c0 := hrd
      obtain ⟨q', fn', tm', c', k1, k2, k3, k4⟩ := r.loop_at hrd hl1
      rw [(he _ _ hq).1] at k1
      cases k1
      obtain ⟨κ, hle, hb2, hl2, r2⟩ := r.lay_loop (q := ⟨fr, depthOf N, N, ps.toList, assign, body, q.dfr⟩) (fn := fn) (tm := a.tmps) (c' := c') (by omega) hf k3
      have hx : VRs κ (.yld h.n :: caps) (Value.func (.yield w.heap.size) #[] #[] :: cs) := VRs.cons_iff.2 ⟨_, _, by unfold VR; exact ⟨_, hb2, rfl⟩, hcs.mono hle, rfl⟩
      obtain ⟨c1, c2⟩ := callK_sound hC hS hr (ha.mono hle) r2 ((he.mono hle).cons hl2 rfl) hx (some c0)
      refine ⟨_, _, _, _, _, f, _, _, run_enterLoop_inner k4 _ _ _ _ _, hres _ _, fun _ _ => trivial, hinv _ _ ?_, (fun h => by cases h), ?_⟩
      · simpa using c1
      · have c2 := c2.mono (R' := rangePost (FW (some c0)) 0 P w.heap.size (Post K w0 ι N KK r0) { a with defers := [] ++ a.defers }) fun e w' q =>
          range_back hle hb2 (hf.mono hle) (hd.mono hle) q
        simpa using c2

def DSound (P : Program) (C : Cf) (D : DrT) : Prop := ∀ (ih : IHT), Sound C P ih → ∀ (env : Env) (N : Nat) (ops : Array Oper) (fr : Tr V) (h : H) (KK : Tr V → H → Rv) (r0 : Rv), RvLe (D C ih env N ops.toList fr h KK) r0 →
  ∀ (K : Ker) (w0 : World) (ι : I) (a : Act) (w : World) (rb : Option Nat) (id : Nat) (Q : Exit → Act → World → Prop), Atoms C P K w0 ι → FR ι (depthOf N) N fr a.tmps → Rep K w0 ι h w → EOk ι env → On K w0 ι N a.defers KK r0 (Q .normal) →
    (Code.region id ops true).wpIn (FW rb) 0 P Q a w
theorem goB_sound (hC : C.Ok P) {D : DrT} (hD : DSound P C D) (hS : Sound C P ih) : Sound C P (goB D C ih) := by
  intro env rd c N fr df h KK r0 hr K w0 ι a w rb ha hf r he hrd hd
  have nxt : ∀ {ex : Ex} {e : Exit}, ExR e ex → RvLe (KK ex fr df h) r0 → Post K w0 ι N KK r0 e a w := fun h1 h2 => ⟨_, fr, df, h, ι, h1, .refl _, hf, r, hd, h2⟩
  have seqn : ∀ {KK' : KT} {next : Act → World → Prop} {e : Exit} {a' : Act} {w' : World}, Post K w0 ι N KK' r0 e a' w' →
      (∀ fr df h, KK' .ret fr df h = KK .ret fr df h) → (∀ j fr df h, KK' (.exit j) fr df h = KK (.exit j) fr df h) →
      (∀ fr' df' h' κ, ι.Le κ → FR κ (depthOf N) N fr' a'.tmps → Rep K w0 κ h' w' → DOk κ df' a'.defers → RvLe (KK' .normal fr' df' h') r0 → next a' w') → Exit.then next (Post K w0 ι N KK r0) e a' w' := by
    intro KK' next e a' w' q e1 e2 hn
    obtain ⟨ex, fr', df', h', κ, hex, hle, hf', hr', hd', hq⟩ := q
    cases ex with
    | normal =>
      cases e <;> try exact hex.elim
      exact hn _ _ _ _ hle hf' hr' hd' hq
    | ret =>
      cases e <;> try exact hex.elim
      exact ⟨.ret, fr', df', h', κ, trivial, hle, hf', hr', hd', e1 _ _ _ ▸ hq⟩
    | exit j =>
      cases e <;> try exact hex.elim
      exact ⟨.exit j, fr', df', h', κ, hex, hle, hf', hr', hd', e2 _ _ _ _ ▸ hq⟩
  cases c with
  | skip => exact .of (wpIn_skip (nxt (ex := .normal) trivial hr)) nofun
  | label l => exact .of (wpIn_label (nxt (ex := .normal) trivial hr)) nofun
  | exit j => exact .of (wpIn_exit (nxt (ex := .exit j) rfl hr)) nofun
  | ret => exact .of (wpIn_ret (nxt (ex := .ret) trivial hr)) nofun
  | seq x y =>
    refine .of (wpIn_seq (wpIn_mono (hS _ _ _ _ _ _ _ _ _ hr K w0 ι a w rb ha hf r he hrd hd).1 fun e a' w' q => seqn q (fun _ _ _ => rfl) (fun _ _ _ _ => rfl) ?_)) nofun
    intro fr' df' h' κ hle hf' hr' hd' hq
    exact wpIn_mono (hS _ _ _ _ _ _ _ _ _ hq K w0 κ a' w' rb (ha.mono hle) hf' hr' (he.mono hle) (hrd.mono hle) hd').1 fun e a'' w'' q => q.mono hle
  | cond c x y =>
    have hc := ev_sound ha.glob hf c
    have hr : RvLe (match ev C.G N fr c with
      | .bool true => ih env rd x N fr df h KK
      | .bool false => ih env rd y N fr df h KK
      | _ => none) r0 := hr
    refine .of ?_ nofun
    split at hr
    · rename_i e
      rw [e] at hc
      exact wpIn_cond_true (by simpa [VR] using hc) (hS _ _ _ _ _ _ _ _ _ hr K w0 ι a w rb ha hf r he hrd hd).1
    · rename_i e
      rw [e] at hc
      exact wpIn_cond_false (by simpa [VR] using hc) (hS _ _ _ _ _ _ _ _ _ hr K w0 ι a w rb ha hf r he hrd hd).1
    · exact hr.not_none.elim
  | block id x =>
    refine .of (wpIn_block (wpIn_mono (hS _ _ _ _ _ _ _ _ _ hr K w0 ι a w rb ha hf r he hrd hd).1 fun e a' w' q => ?_)) nofun
    obtain ⟨ex, fr', df', h', κ, hex, hle, hf', hr', hd', hq⟩ := q
    cases ex with
    | normal =>
      cases e <;> try exact hex.elim
      exact ⟨.normal, fr', df', h', κ, trivial, hle, hf', hr', hd', hq⟩
    | ret =>
      cases e <;> try exact hex.elim
      exact ⟨.ret, fr', df', h', κ, trivial, hle, hf', hr', hd', hq⟩
    | exit j =>
      cases e <;> try exact hex.elim
      have hex : _ = j := hex
      subst hex
      dsimp only at hq
      show if _ then _ else _
      split at hq
      · rename_i hj
        rw [if_pos (Nat.eq_of_beq_eq_true hj)]
        exact ⟨.normal, fr', df', h', κ, trivial, hle, hf', hr', hd', hq⟩
      · rename_i hj
        rw [if_neg (Nat.ne_of_beq_eq_false hj)]
        exact ⟨.exit _, fr', df', h', κ, rfl, hle, hf', hr', hd', hq⟩
  | loop x =>
    have hl : LoopW (FW rb) P x (Post K w0 ι N KK r0) a w := by
      refine loopW_step (wpIn_mono (hS _ _ _ _ _ _ _ _ _ hr K w0 ι a w rb ha hf r he hrd hd).1 fun e a' w' q => seqn q (fun _ _ _ => rfl) (fun _ _ _ _ => rfl) ?_)
      intro fr' df' h' κ hle hf' hr' hd' hq
      exact ((hS _ _ _ _ _ _ _ _ _ hq K w0 κ a' w' rb (ha.mono hle) hf' hr' (he.mono hle) (hrd.mono hle) hd').2 x rfl).mono fun e a'' w'' q => q.mono hle
    refine ⟨loopW_in hl, fun b e => ?_⟩
    cases e
    exact hl
  | region id ops draw =>
    have on : ∀ {a : Act}, DOk ι df a.defers → On K w0 ι N a.defers (fun fr h => KK .normal fr df h) r0 (Post K w0 ι N KK r0 .normal) := by
      intro a hd fr' h' κ a' w' hle hf' hr' hds hq
      exact ⟨.normal, fr', df, h', κ, trivial, hle, hf', hr', by rw [hds]; exact hd.mono hle, hq⟩
    cases draw with
    | false => exact .of (wpIn_region_list (opsK_sound hC hS ops _ hr ha hf r he (on hd))) nofun
    | true => exact .of (hD ih hS env N ops fr h _ r0 hr K w0 ι a w rb id _ ha hf r he (on hd)) nofun
  | rangeFunc g ps assign body => exact .of (rangeK_sound hC hS hr ha hf r he hrd hd) nofun
  | scope x =>
    refine .of (wpIn_scope_straight (wpIn_mono (hS _ _ _ _ _ _ _ _ _ hr K w0 ι a w rb ha hf r he hrd hd).1 fun e a' w' q => ?_)) nofun
    cases e with
    | goto l =>
      obtain ⟨ex, _, _, _, _, hex, _⟩ := q
      cases ex <;> exact hex.elim
    | _ => exact q
  | goto _ => exact RvLe.not_none hr |>.elim
  | refuse _ => exact RvLe.not_none hr |>.elim
theorem go_sound (hC : C.Ok P) {D : DrT} (hD : DSound P C D) : ∀ n, Sound C P (go D C n)
  | 0 => fun _ _ _ _ _ _ _ _ _ hr => hr.not_none.elim
  | n + 1 => goB_sound hC hD (go_sound hC hD n)
end
end Go.Proofs.Ytoamjihchmokcaa.E
