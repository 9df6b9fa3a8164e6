/- The executor on a function's code: operations and ranges over functions. No condition. -/
import Derived.Test.YtamhijbnmhdhbaaE22
import Derived.TacticsIn
namespace Go.Proofs.Ytamhijbnmhdhbaa.E
open Go.ChangeShapes Go.WideShapes Go.ChangeAt Go.RowKit Go.Deep

theorem manyK_le {KK : V → H → Rv} {r0 : Rv} : ∀ (l : List (V × H)), RvLe (manyK KK l) r0 → ∀ p ∈ l, RvLe (KK p.1 p.2) r0
  | [], h, _, _ => h.not_none.elim
  | [p], h, q, hq => by
    rw [List.mem_singleton] at hq
    subst hq
    exact h
  | p :: u :: l, h, q, hq => by
    have h : RvLe (merge (KK p.1 p.2) (manyK KK (u :: l))) r0 := h
    obtain ⟨h1, h2⟩ := merge_le h
    rcases List.mem_cons.1 hq with e | e
    · subst e; exact h1
    · exact manyK_le (u :: l) h2 q e
theorem opR_no_defer {C : Cf} {e : Operand → V} {h : H} {op : Op} {r : R} (hr : opR C e h op = some r) : ∀ c, op ≠ .defer c := by
  intro c hc
  subst hc
  simp only [opR] at hr
  cases hr
section
variable {P : Program} {K : Ker} {w0 w : World} {ι : I} {h : H} {C : Cf} {ih : IHT} {env : Env} {N : Nat} {fr : Tr V} {a : Act} {r0 : Rv}
/-- What goes on behind operations. -/
def On (K : Ker) (w0 : World) (ι : I) (N : Nat) (ds : List Deferred) (KK : Tr V → H → Rv) (r0 : Rv) (next : Act → World → Prop) : Prop :=
  ∀ fr' h' κ a' w', ι.Le κ → FR κ (depthOf N) N fr' a'.tmps → Rep K w0 κ h' w' → a'.defers = ds → RvLe (KK fr' h') r0 → next a' w'
theorem stepK_sound (hC : C.Ok P) (hS : Sound C P ih) (o : Oper) {res : R} (hres : opR C (ev C.G N fr) h o.op = some res) {KK : Tr V → H → Rv} (hr : RvLe (stepK C ih env N o.dst res fr h KK) r0)
    (ha : Atoms C P K w0 ι) (hf : FR ι (depthOf N) N fr a.tmps) (r : Rep K w0 ι h w) (he : EOk ι env) {rb : Option Nat} {Q : Exit → Act → World → Prop} {next : Act → World → Prop} (hn : On K w0 ι N a.defers KK r0 next) :
    o.wpIn (FW rb) 0 P a w next Q := by
  refine ⟨fun _ _ => trivial, ?_⟩
  rw [Oper.semAt_eq _ _ _ (opR_no_defer hres)]
  have hk := opR_sound hC ha r (ev_sound ha.glob hf) o hres
  have fin : ∀ {v : V} {y : Value} {h' : H} {w' : World} {κ : I}, ι.Le κ → Rep K w0 κ h' w' → VR κ v y → RvLe (putK N o.dst v fr fun fr => KK fr h') r0 → next (a.put o.dst y) w' := by
    intro v y h' w' κ hle hrep hv hq
    obtain ⟨fr', e1, e2, e3⟩ := putK_sound (hf.mono hle) o.dst hv
    rw [e1] at hq
    exact hn fr' h' κ _ w' hle e2 hrep e3 hq
  cases res with
  | val v =>
    obtain ⟨y, e, hv⟩ := hk
    rw [e, Oper.uponIn_value]
    simp only [stepK, forceV_eq] at hr
    exact fin (.refl _) r hv hr
  | mem v h' =>
    obtain ⟨y, w', κ, e, hle, hrep, hv⟩ := hk
    rw [e, Oper.uponIn_value]
    simp only [stepK, forceV_eq, forceH_eq] at hr
    exact fin hle hrep hv hr
  | done h' =>
    obtain ⟨w', κ, e, hle, hrep⟩ := hk
    rw [e, Oper.uponIn_skip]
    simp only [stepK, forceH_eq] at hr
    exact fin hle hrep (v := .tup []) (by simp only [VR]; exact ⟨[], VRs.nil_iff.2 rfl, rfl⟩) hr
  | call f args =>
    obtain ⟨xs, e, hx⟩ := hk
    simp only [stepK] at hr
    obtain ⟨c1, c2⟩ := callK_sound hC hS hr ha r he hx rb
    rw [e, c1, Oper.uponIn_enter]
    refine ⟨(fun h => by cases h), c2.mono ?_⟩
    rintro _ w' ⟨v, y, h', κ, rfl, hle, hrep, hv, hq⟩
    exact fin hle hrep hv hq
  | round l args =>
    obtain ⟨c, xs, hb, e, hx⟩ := hk
    simp only [stepK] at hr
    obtain ⟨fn, tm, asx, bd, c1, c2⟩ := roundK_sound hS hr ha r he hx hb rb
    rw [e, c1, Oper.uponIn_round]
    refine ⟨(fun h => by cases h), c2.mono ?_⟩
    rintro _ w' ⟨v, y, h', κ, rfl, hle, hrep, hv, hq⟩
    exact fin hle hrep hv hq
  | many l =>
    obtain ⟨p, hp, y, w', κ, e, hle, hrep, hv⟩ := hk
    rw [e, Oper.uponIn_value]
    simp only [stepK, forceV_eq, forceH_eq] at hr
    exact fin hle hrep hv (manyK_le l hr p hp)
theorem opsK_sound (hC : C.Ok P) (hS : Sound C P ih) (ops : Array Oper) {KK : Tr V → H → Rv} {rb : Option Nat} {Q : Exit → Act → World → Prop} :
    ∀ (l : List Oper) {fr : Tr V} {h : H} {ι : I} {a : Act} {w : World}, RvLe (opsK C ih env N ops.toList l fr h KK) r0 → Atoms C P K w0 ι → FR ι (depthOf N) N fr a.tmps → Rep K w0 ι h w → EOk ι env → On K w0 ι N a.defers KK r0 (Q .normal) →
      wpListIn (FW rb) 0 P ops Q l a w
  | [], fr, h, ι, a, w, hr, _, hf, r, _, hn => hn fr h ι a w (.refl _) hf r rfl hr
  | o :: l, fr, h, ι, a, w, hr, ha, hf, r, he, hn => by
    have hr : RvLe (match wantsV N ops.toList fr o.guard with
      | none => none
      | some false => putK N o.dst (.tup []) fr fun fr => opsK C ih env N ops.toList l fr h KK
      | some true => match opR C (ev C.G N fr) h o.op with
        | none => none
        | some x => stepK C ih env N o.dst x fr h fun fr h => opsK C ih env N ops.toList l fr h KK) r0 := hr
    split at hr
    · exact hr.not_none.elim
    · rename_i hw
      have hw := wants_sound hf ops o hw
      unfold wpListIn
      rw [if_neg (by rw [hw]; simp)]
      refine ⟨fun _ _ => trivial, ?_⟩
      obtain ⟨fr', e1, e2, e3⟩ := putK_sound hf o.dst (v := .tup []) (x := undef) (by simp only [VR]; exact ⟨[], VRs.nil_iff.2 rfl, rfl⟩)
      rw [e1] at hr
      exact opsK_sound hC hS ops l hr ha e2 r he (by rw [e3]; exact hn)
    · rename_i hw
      have hw := wants_sound hf ops o hw
      unfold wpListIn
      rw [if_pos hw]
      split at hr
      · exact hr.not_none.elim
      · rename_i res hres
        refine stepK_sound hC hS o hres hr ha hf r he ?_
        intro fr' h' κ a' w' hle hf' hr' hd hq
        exact opsK_sound hC hS ops l hq (ha.mono hle) hf' hr' (he.mono hle) fun fr'' h'' κ' a'' w'' hle' hf'' hr'' hd' hq' => hn _ _ _ _ _ (hle.trans hle') hf'' hr'' (hd'.trans hd) hq'

/-! ### A range over a function -/
theorem Tr.set_set {α : Type} (t : Tr α) : ∀ (k : Nat) (x y : α), (t.set k x).set k y = t.set k y := by
  induction t with
  | tip v => intro k x y; rfl
  | bin l r hl hr =>
    intro k x y
    rw [Tr.set_bin, Tr.set_bin]
    split
    · rename_i h0
      rw [Tr.set_bin, if_pos h0, hl]
    · rename_i h0
      rw [Tr.set_bin, if_neg h0, hr]
theorem Rep.revive (r : Rep K w0 ι h w) {b c : Nat} (hb : ι.blk b = some c) (hk : ¬ K c) {a : O} {o : Obj} (ho : OR ι a o) (h1 : w.heap[c]? = some o) (hno : ∀ k, k < h.n → h.t.get k ≠ .dead → ι.blk k ≠ some c) : Rep K w0 ι (h.put b a) w := by
  have hl := r.fit
  have hbn := (r.lt b c hb).1
  have hg : ∀ k, k < h.n → (h.t.set b a).get k = if k = b then a else h.t.get k := fun k hk => r.perf.get_set _ _ _ (by omega) (by omega)
  refine ⟨r.perf.set _ _, r.fit, r.base, fun k hk' hkd => ?_, fun p q d hp hq hpd hqd ep eq => ?_, r.lt, r.lps, r.ext, r.resv⟩
  · have hk' : k < h.n := hk'
    have hkd : (h.t.set b a).get k ≠ .dead := hkd
    show ∃ c o, _ ∧ _ ∧ _ ∧ OR ι ((h.t.set b a).get k) o
    rw [hg k hk'] at hkd ⊢
    by_cases e : k = b
    · subst e
      rw [if_pos rfl]
      exact ⟨c, o, hb, hk, h1, ho⟩
    · rw [if_neg e] at hkd ⊢
      exact r.live k hk' hkd
  · have hp : p < h.n := hp
    have hq : q < h.n := hq
    have hpd' : (h.t.set b a).get p ≠ .dead := hpd
    have hqd' : (h.t.set b a).get q ≠ .dead := hqd
    rw [hg p hp] at hpd'
    rw [hg q hq] at hqd'
    by_cases e1 : p = b
    · by_cases e2 : q = b
      · rw [e1, e2]
      · rw [if_neg e2] at hqd'
        subst e1
        rw [hb] at ep
        cases ep
        exact absurd eq (hno q hq hqd')
    · rw [if_neg e1] at hpd'
      by_cases e2 : q = b
      · subst e2
        rw [hb] at eq
        cases eq
        exact absurd ep (hno p hp hpd')
      · rw [if_neg e2] at hqd'
        exact r.inj p q d hp hq hpd' hqd' ep eq
/-- A loop's record is laid. -/
theorem Rep.lay_loop (r : Rep K w0 ι h w) (hn : h.n < 2 ^ DH) {q : LI} {fn : Nat} {tm : Array Value} {c' : Nat} (hf : FR ι q.d q.N q.fr tm) (hc : ι.blk q.dfr = some c') :
    ∃ κ, ι.Le κ ∧ κ.blk h.n = some w.heap.size ∧ κ.lp h.n = some q ∧ Rep K w0 κ (h.add (.loop h.n .ready none)) (w.alloc (.loop ⟨.ready, none, fn, tm, q.ps.toArray, q.assign, q.body, c'⟩)) := by
  obtain ⟨o, ho⟩ : ∃ o : Obj, o = .loop ⟨.ready, none, fn, tm, q.ps.toArray, q.assign, q.body, c'⟩ := ⟨_, rfl⟩
  have h1 := r.alloc (a := .dead) (o := o) hn trivial
  have hle1 := r.le_new w.heap.size
  have hlp : (ι.new h.n w.heap.size).lp h.n = none := by
    cases e : (ι.new h.n w.heap.size).lp h.n with
    | none => rfl
    | some x => exact absurd (r.lps h.n x e) (Nat.lt_irrefl _)
  have hle2 := le_newl q hlp
  have hb : ((ι.new h.n w.heap.size).newl h.n q).blk h.n = some w.heap.size := if_pos rfl
  have hlq : ((ι.new h.n w.heap.size).newl h.n q).lp h.n = some q := if_pos rfl
  have h2 := h1.newl q hlp (Nat.lt_succ_self _)
  have hg : ∀ b, b < h.n + 1 → (h.t.set h.n O.dead).get b = if b = h.n then O.dead else h.t.get b := fun b hb => r.perf.get_set _ _ _ hn (by omega)
  have h3 := h2.revive hb (a := .loop h.n .ready none) (o := o) (fun hk => Nat.lt_irrefl _ (r.base.lt hk)) ⟨q, fn, tm, c', hlq, (hf.mono hle1).mono hle2, hle2.blk _ _ (hle1.blk _ _ hc), ho⟩ (heap_alloc_new w o) (fun k hk hkd e => by
    have hk : k < h.n + 1 := hk
    have hkd : (h.t.set h.n O.dead).get k ≠ .dead := hkd
    rw [hg k hk] at hkd
    by_cases e1 : k = h.n
    · rw [if_pos e1] at hkd; exact hkd rfl
    · have e : (if k = h.n then some w.heap.size else ι.blk k) = some w.heap.size := e
      rw [if_neg e1] at e
      exact Nat.lt_irrefl _ (r.lt _ _ e).2)
  refine ⟨_, hle1.trans hle2, hb, hlq, ?_⟩
  rw [← ho]
  have e : (⟨h.t.set h.n O.dead, h.n + 1⟩ : H).put h.n (.loop h.n .ready none) = h.add (.loop h.n .ready none) := by
    simp only [H.put, H.add, Tr.set_set]
  rw [← e]
  exact h3
theorem endLK_sound (r : Rep K w0 ι h w) {l c : Nat} (hb : ι.blk l = some c) {KK : Ex → H → Rv} (hr : RvLe (endLK h l KK) r0) :
    ∃ (jump : Option J) (w' : World), (Instr.endLoop c).run P w = .ok (jump.map J.code) w' ∧ Rep K w0 ι (h.put l .dead) w' ∧ RvLe (KK (exOf jump) (h.put l .dead)) r0 := by
  have key : ∀ {l' : Nat} {st : LoopState} {p : Option J}, h.t.get l = .loop l' st p → st ≠ .busy → RvLe (KK (exOf p) (h.put l .dead)) r0 →
      ∃ (jump : Option J) (w' : World), (Instr.endLoop c).run P w = .ok (jump.map J.code) w' ∧ Rep K w0 ι (h.put l .dead) w' ∧ RvLe (KK (exOf jump) (h.put l .dead)) r0 := by
    intro l' st p hd hst hq
    obtain ⟨q, fn, tm, c', h1, h2, h3, h4⟩ := r.loop_at hb hd
    refine ⟨p, _, run_endLoop h4 hst, r.putO hb (by rw [hd]; simp) (a := .dead) trivial fun arr t f e => ?_, hq⟩
    rw [h4] at e
    cases e
  unfold endLK at hr
  split at hr
  · exact hr.not_none.elim
  · rename_i l' st p hnb hd
    refine key hd (fun e => ?_) hr
    subst e
    simp_all
  · exact hr.not_none.elim
end
end Go.Proofs.Ytamhijbnmhdhbaa.E
