/- The executor on a function's code: it is sound. No condition. -/
import Derived.Test.YtamhijbnmhdhbaaE23
namespace Go.Proofs.Ytamhijbnmhdhbaa.E
open Go.ChangeShapes Go.WideShapes Go.ChangeAt Go.RowKit Go.Deep

section
variable {F : Fence} {n : Nat} {P : Program} {Q : Exit → Act → World → Prop} {b : Frame} {a : Act} {k : List Item} {cs : List Frame} {w : World} {c : Code}
theorem stepR_scope : step P (lone (b.atR a (.code (.scope c) :: k)) cs w) = .next (lone (b.atR a (.code c :: .inScope c :: k)) cs w) :=
  step_lone_go (by simp [stepG, stepG.exec, Frame.atR])
theorem stepR_inScope : step P (lone (b.atR a (.inScope c :: k)) cs w) = .next (lone (b.atR a k) cs w) :=
  step_lone_go (by simp [stepG, stepG.exec, Frame.atR])
theorem wpIn_scope_straight (h : c.wpIn F n P (Exit.noGoto Q) a w) : (Code.scope c).wpIn F n P Q a w := by
  intro b k cs hro hb hr
  have h0 : (lone (b.atR a (.code (.scope c) :: k)) cs w).fenced P F := fenced_calm hb hr rfl
  obtain ⟨e, a₁, w₁, hq, harr⟩ := h b (.inScope c :: k) cs hro hb hr
  cases e with
  | normal => exact ⟨.normal, a₁, w₁, hq, .head h0 stepR_scope (StepsIn.trans harr (.one (fenced_calm hb hr rfl) stepR_inScope))⟩
  | exit id =>
    have hx : exitTo id (.inScope c :: k) = exitTo id k := by simp [exitTo]
    exact ⟨.exit id, a₁, w₁, hq, fun k' hk => .head h0 stepR_scope (harr.1 k' (by rw [hx]; exact hk)),
      fun hr' hk => let ⟨k₁, h1, h2⟩ := harr.2 hr' (by rw [hx]; exact hk); ⟨k₁, h1, .head h0 stepR_scope h2⟩⟩
  | goto l => exact hq.elim
  | ret => exact ⟨_, a₁, w₁, hq, .of_steps (.one h0 stepR_scope) harr⟩
  | panic ch => exact ⟨_, a₁, w₁, hq, .of_steps (.one h0 stepR_scope) harr⟩
  | outgrown => exact ⟨_, a₁, w₁, hq, .of_steps (.one h0 stepR_scope) harr⟩
end
section
variable {P : Program} {K : Ker} {w0 w : World} {ι : I} {h : H} {C : Cf} {ih : IHT} {env : Env} {N : Nat} {fr : Tr V} {a : Act} {r0 : Rv}
theorem Post.mono {κ : I} {KK : KT} {e : Exit} (hle : ι.Le κ) (q : Post K w0 κ N KK r0 e a w) : Post K w0 ι N KK r0 e a w := by
  obtain ⟨ex, fr', df', h', μ, q1, q2, q3⟩ := q
  exact ⟨ex, fr', df', h', μ, q1, hle.trans q2, q3⟩
theorem range_back {KK : KT} {rb : Option Nat} {c n0 : Nat} {a' : Act} {df : List Nat} {κ : I} (hle0 : ι.Le κ) (hb : κ.blk n0 = some c) (hf : FR κ (depthOf N) N fr a'.tmps) (hd : DOk κ df a'.defers) {e : Ending} {w' : World}
    (q : Back K w0 κ (fun _ h => endLK h n0 fun e h => KK e fr df h) r0 e w') : rangePost (FW rb) 0 P c (Post K w0 ι N KK r0) a' e w' := by
  obtain ⟨v, y, h', μ, rfl, hle, hrep, _, hq⟩ := q
  obtain ⟨jump, w4, e4, rep4, hq4⟩ := endLK_sound (P := P) hrep (hle.blk _ _ hb) hq
  refine ⟨_, w4, e4, ?_⟩
  have hp : ∀ ex e, exOf jump = ex → ExR e ex → Post K w0 ι N KK r0 e a' w4 := fun ex e h1 h2 => ⟨ex, fr, df, _, μ, h2, hle0.trans hle, hf.mono hle, rep4, hd.mono hle, h1 ▸ hq4⟩
  cases jump with
  | none => exact hp _ _ rfl trivial
  | some j =>
    cases j with
    | ret => exact wpIn_ret (hp _ _ rfl trivial)
    | exit i => exact wpIn_exit (hp _ _ rfl rfl)
theorem rangeK_sound (hC : C.Ok P) (hS : Sound C P ih) {rd rb : Option Nat} {g : Operand} {ps : Array Tmp} {assign body : Code} {df : List Nat} {KK : KT} (hr : RvLe (rangeK C ih env rd g ps.toList assign body N fr df h KK) r0)
    (ha : Atoms C P K w0 ι) (hf : FR ι (depthOf N) N fr a.tmps) (r : Rep K w0 ι h w) (he : EOk ι env) (hrd : RdOk ι rd rb) (hd : DOk ι df a.defers) :
    (Code.rangeFunc g ps assign body).wpIn (FW rb) 0 P (Post K w0 ι N KK r0) a w := by
  unfold rangeK at hr
  split at hr
  rotate_left
  · exact hr.not_none.elim
  rename_i f caps hg hn
  have hn : h.n + 1 < 2 ^ DH := by
    have : Nat.succ h.n < 4096 := by simpa [Nat.blt_eq] using hn
    exact this
  have hgv := ev_sound ha.glob hf g
  rw [hg] at hgv
  unfold VR at hgv
  obtain ⟨cs, hcs, hgv⟩ := hgv
  refine wpIn_rangeFunc fun fn _ => ?_
  have hres : ∀ (l : Nat) (w1 : World), (resolve a.eval (rangeCall g l) 0).run P w1 = .ok { target := .fn (.func f) cs.toArray, args := #[.func (.yield l) #[] #[]] } w1 := by
    intro l w1
    simp only [resolve, hgv]
    simp [go_sem]
  have hinv : ∀ (l : Nat) (w1 : World), (∀ y, (callFunc f y).run P w1 = .ok (.enter f y) w1) → (invoke (.fn (.func f) cs.toArray) #[.func (.yield l) #[] #[]]).run P w1 = .ok (.enter f (Value.func (.yield l) #[] #[] :: cs).toArray) w1 := by
    intro l w1 hy
    have := hy (#[Value.func (.yield l) #[] #[]] ++ cs.toArray)
    simp [invoke, go_sem] at this ⊢
    exact this
  split at hr
  · -- an outermost loop
    cases rb with
    | some _ => exact hrd.elim
    | none =>
      simp only [forceN_eq, forceH_eq] at hr
      have r1 := r.alloc (a := .dfr) (o := .deferred (some [])) (by omega) rfl
      have hle1 := r.le_new w.heap.size
      have hb1 : (ι.new h.n w.heap.size).blk h.n = some w.heap.size := if_pos rfl
      obtain ⟨κ, hle2, hb2, hl2, r2⟩ := r1.lay_loop (q := ⟨fr, depthOf N, N, ps.toList, assign, body, h.n⟩) (fn := fn) (tm := a.tmps) (c' := w.heap.size) hn (hf.mono hle1) hb1
      have hle := hle1.trans hle2
      rw [World.size_alloc] at hb2
      have hx : VRs κ (.yld (h.n + 1) :: caps) (Value.func (.yield (w.heap.size + 1)) #[] #[] :: cs) := VRs.cons_iff.2 ⟨_, _, by unfold VR; exact ⟨_, hb2, rfl⟩, hcs.mono hle, rfl⟩
      obtain ⟨c1, c2⟩ := callK_sound hC hS hr (ha.mono hle) r2 ((he.mono hle).cons hl2 rfl) hx none
      refine ⟨_, _, _, _, _, f, _, _, run_enterLoop_outer _ _ _ _ _, hres _ _, fun _ _ => trivial, hinv _ _ ?_, (fun h => by cases h), ?_⟩
      · simpa using c1
      · have c2 := c2.mono (R' := rangePost (FW none) 0 P (w.heap.size + 1) (Post K w0 ι N KK r0) { a with defers := [{ target := .collected w.heap.size, args := #[] }] ++ a.defers }) fun e w' q =>
          range_back (a' := { a with defers := [{ target := .collected w.heap.size, args := #[] }] ++ a.defers }) (df := h.n :: df) hle hb2 (hf.mono hle) ⟨w.heap.size, _, _, hle2.blk _ _ hb1, rfl, hd.mono hle, rfl⟩ q
        simpa using c2
  · -- a loop in a round
    rename_i l0
    split at hr
    rotate_left
    · exact hr.not_none.elim
    rename_i q l1 st p hq hl1
    split at hr
    rotate_left
    · exact hr.not_none.elim
    rename_i hbq
    have hbq := Nat.eq_of_beq_eq_true hbq
    subst hbq
    cases rb with
    | none => exact hrd.elim
    | some c0 =>
      simp only [forceN_eq, forceH_eq] at hr
      have hrd : ι.blk l1 = some c0 := hrd
      obtain ⟨q', fn', tm', c', k1, k2, k3, k4⟩ := r.loop_at hrd hl1
      rw [(he _ _ hq).1] at k1
      cases k1
      obtain ⟨κ, hle, hb2, hl2, r2⟩ := r.lay_loop (q := ⟨fr, depthOf N, N, ps.toList, assign, body, q.dfr⟩) (fn := fn) (tm := a.tmps) (c' := c') (by omega) hf k3
      have hx : VRs κ (.yld h.n :: caps) (Value.func (.yield w.heap.size) #[] #[] :: cs) := VRs.cons_iff.2 ⟨_, _, by unfold VR; exact ⟨_, hb2, rfl⟩, hcs.mono hle, rfl⟩
      obtain ⟨c1, c2⟩ := callK_sound hC hS hr (ha.mono hle) r2 ((he.mono hle).cons hl2 rfl) hx (some c0)
      refine ⟨_, _, _, _, _, f, _, _, run_enterLoop_inner k4 _ _ _ _ _, hres _ _, fun _ _ => trivial, hinv _ _ ?_, (fun h => by cases h), ?_⟩
      · simpa using c1
      · have c2 := c2.mono (R' := rangePost (FW (some c0)) 0 P w.heap.size (Post K w0 ι N KK r0) { a with defers := [] ++ a.defers }) fun e w' q =>
          range_back hle hb2 (hf.mono hle) (hd.mono hle) q
        simpa using c2

/-- The regions that draw their order are gone through soundly. -/
def DSound (P : Program) (C : Cf) (D : DrT) : Prop := ∀ (ih : IHT), Sound C P ih → ∀ (env : Env) (N : Nat) (ops : Array Oper) (fr : Tr V) (h : H) (KK : Tr V → H → Rv) (r0 : Rv), RvLe (D C ih env N ops.toList fr h KK) r0 →
  ∀ (K : Ker) (w0 : World) (ι : I) (a : Act) (w : World) (rb : Option Nat) (id : Nat) (Q : Exit → Act → World → Prop), Atoms C P K w0 ι → FR ι (depthOf N) N fr a.tmps → Rep K w0 ι h w → EOk ι env → On K w0 ι N a.defers KK r0 (Q .normal) →
    (Code.region id ops true).wpIn (FW rb) 0 P Q a w
theorem goB_sound (hC : C.Ok P) {D : DrT} (hD : DSound P C D) (hS : Sound C P ih) : Sound C P (goB D C ih) := by
  intro env rd c N fr df h KK r0 hr K w0 ι a w rb ha hf r he hrd hd
  have nxt : ∀ {ex : Ex} {e : Exit}, ExR e ex → RvLe (KK ex fr df h) r0 → Post K w0 ι N KK r0 e a w := fun h1 h2 => ⟨_, fr, df, h, ι, h1, .refl _, hf, r, hd, h2⟩
  have seqn : ∀ {KK' : KT} {next : Act → World → Prop} {e : Exit} {a' : Act} {w' : World}, Post K w0 ι N KK' r0 e a' w' →
      (∀ fr df h, KK' .ret fr df h = KK .ret fr df h) → (∀ j fr df h, KK' (.exit j) fr df h = KK (.exit j) fr df h) →
      (∀ fr' df' h' κ, ι.Le κ → FR κ (depthOf N) N fr' a'.tmps → Rep K w0 κ h' w' → DOk κ df' a'.defers → RvLe (KK' .normal fr' df' h') r0 → next a' w') → Exit.then next (Post K w0 ι N KK r0) e a' w' := by
    intro KK' next e a' w' q e1 e2 hn
    obtain ⟨ex, fr', df', h', κ, hex, hle, hf', hr', hd', hq⟩ := q
    cases ex with
    | normal =>
      cases e <;> try exact hex.elim
      exact hn _ _ _ _ hle hf' hr' hd' hq
    | ret =>
      cases e <;> try exact hex.elim
      exact ⟨.ret, fr', df', h', κ, trivial, hle, hf', hr', hd', e1 _ _ _ ▸ hq⟩
    | exit j =>
      cases e <;> try exact hex.elim
      exact ⟨.exit j, fr', df', h', κ, hex, hle, hf', hr', hd', e2 _ _ _ _ ▸ hq⟩
  cases c with
  | skip => exact .of (wpIn_skip (nxt (ex := .normal) trivial hr)) nofun
  | label l => exact .of (wpIn_label (nxt (ex := .normal) trivial hr)) nofun
  | exit j => exact .of (wpIn_exit (nxt (ex := .exit j) rfl hr)) nofun
  | ret => exact .of (wpIn_ret (nxt (ex := .ret) trivial hr)) nofun
  | seq x y =>
    refine .of (wpIn_seq (wpIn_mono (hS _ _ _ _ _ _ _ _ _ hr K w0 ι a w rb ha hf r he hrd hd).1 fun e a' w' q => seqn q (fun _ _ _ => rfl) (fun _ _ _ _ => rfl) ?_)) nofun
    intro fr' df' h' κ hle hf' hr' hd' hq
    exact wpIn_mono (hS _ _ _ _ _ _ _ _ _ hq K w0 κ a' w' rb (ha.mono hle) hf' hr' (he.mono hle) (hrd.mono hle) hd').1 fun e a'' w'' q => q.mono hle
  | cond c x y =>
    have hc := ev_sound ha.glob hf c
    have hr : RvLe (match ev C.G N fr c with
      | .bool true => ih env rd x N fr df h KK
      | .bool false => ih env rd y N fr df h KK
      | _ => none) r0 := hr
    refine .of ?_ nofun
    split at hr
    · rename_i e
      rw [e] at hc
      exact wpIn_cond_true (by simpa [VR] using hc) (hS _ _ _ _ _ _ _ _ _ hr K w0 ι a w rb ha hf r he hrd hd).1
    · rename_i e
      rw [e] at hc
      exact wpIn_cond_false (by simpa [VR] using hc) (hS _ _ _ _ _ _ _ _ _ hr K w0 ι a w rb ha hf r he hrd hd).1
    · exact hr.not_none.elim
  | block id x =>
    refine .of (wpIn_block (wpIn_mono (hS _ _ _ _ _ _ _ _ _ hr K w0 ι a w rb ha hf r he hrd hd).1 fun e a' w' q => ?_)) nofun
    obtain ⟨ex, fr', df', h', κ, hex, hle, hf', hr', hd', hq⟩ := q
    cases ex with
    | normal =>
      cases e <;> try exact hex.elim
      exact ⟨.normal, fr', df', h', κ, trivial, hle, hf', hr', hd', hq⟩
    | ret =>
      cases e <;> try exact hex.elim
      exact ⟨.ret, fr', df', h', κ, trivial, hle, hf', hr', hd', hq⟩
    | exit j =>
      cases e <;> try exact hex.elim
      have hex : _ = j := hex
      subst hex
      dsimp only at hq
      show if _ then _ else _
      split at hq
      · rename_i hj
        rw [if_pos (Nat.eq_of_beq_eq_true hj)]
        exact ⟨.normal, fr', df', h', κ, trivial, hle, hf', hr', hd', hq⟩
      · rename_i hj
        rw [if_neg (Nat.ne_of_beq_eq_false hj)]
        exact ⟨.exit _, fr', df', h', κ, rfl, hle, hf', hr', hd', hq⟩
  | loop x =>
    have hl : LoopW (FW rb) P x (Post K w0 ι N KK r0) a w := by
      refine loopW_step (wpIn_mono (hS _ _ _ _ _ _ _ _ _ hr K w0 ι a w rb ha hf r he hrd hd).1 fun e a' w' q => seqn q (fun _ _ _ => rfl) (fun _ _ _ _ => rfl) ?_)
      intro fr' df' h' κ hle hf' hr' hd' hq
      exact ((hS _ _ _ _ _ _ _ _ _ hq K w0 κ a' w' rb (ha.mono hle) hf' hr' (he.mono hle) (hrd.mono hle) hd').2 x rfl).mono fun e a'' w'' q => q.mono hle
    refine ⟨loopW_in hl, fun b e => ?_⟩
    cases e
    exact hl
  | region id ops draw =>
    have on : ∀ {a : Act}, DOk ι df a.defers → On K w0 ι N a.defers (fun fr h => KK .normal fr df h) r0 (Post K w0 ι N KK r0 .normal) := by
      intro a hd fr' h' κ a' w' hle hf' hr' hds hq
      exact ⟨.normal, fr', df, h', κ, trivial, hle, hf', hr', by rw [hds]; exact hd.mono hle, hq⟩
    cases draw with
    | false => exact .of (wpIn_region_list (opsK_sound hC hS ops _ hr ha hf r he (on hd))) nofun
    | true => exact .of (hD ih hS env N ops fr h _ r0 hr K w0 ι a w rb id _ ha hf r he (on hd)) nofun
  | rangeFunc g ps assign body => exact .of (rangeK_sound hC hS hr ha hf r he hrd hd) nofun
  | scope x =>
    refine .of (wpIn_scope_straight (wpIn_mono (hS _ _ _ _ _ _ _ _ _ hr K w0 ι a w rb ha hf r he hrd hd).1 fun e a' w' q => ?_)) nofun
    cases e with
    | goto l =>
      obtain ⟨ex, _, _, _, _, hex, _⟩ := q
      cases ex <;> exact hex.elim
    | _ => exact q
  | goto _ => exact RvLe.not_none hr |>.elim
  | refuse _ => exact RvLe.not_none hr |>.elim
theorem go_sound (hC : C.Ok P) {D : DrT} (hD : DSound P C D) : ∀ n, Sound C P (go D C n)
  | 0 => fun _ _ _ _ _ _ _ _ _ hr => hr.not_none.elim
  | n + 1 => goB_sound hC hD (go_sound hC hD n)
/-- No region that draws its order. -/
noncomputable def noD : DrT := fun _ _ _ _ _ _ _ _ => none
theorem noD_sound : DSound P C noD := fun _ _ _ _ _ _ _ _ _ hr => hr.not_none.elim
end
end Go.Proofs.Ytamhijbnmhdhbaa.E
