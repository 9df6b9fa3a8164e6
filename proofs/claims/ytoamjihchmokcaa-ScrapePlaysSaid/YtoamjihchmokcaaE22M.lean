/- The executor on a function's code: what is to be shown of it; frames, guards, results. No condition. || The executor on a function's code: calls and rounds. No condition. -/
import Derived.Test.YtoamjihchmokcaaE20M
import Derived.RangeFuncRecord
import Derived.RangeFuncNested
namespace Go.Proofs.Ytoamjihchmokcaa.E
open Go.ChangeShapes Go.WideShapes Go.ChangeAt Go.RowKit Go.Deep

def FW (rb : Option Nat) : Fence := { Fence.wide with round := rb }
def ExR : Exit → Ex → Prop
  | .normal, .normal => True
  | .exit i, .exit j => i = j
  | .ret, .ret => True
  | _, _ => False
def EOk (ι : I) (env : Env) : Prop := ∀ l q, lookL env l = some q → ι.lp l = some q ∧ q.d = depthOf q.N
theorem EOk.nil (ι : I) : EOk ι [] := fun _ _ h => by cases h
theorem EOk.mono {ι κ : I} (h : ι.Le κ) {env : Env} (q : EOk ι env) : EOk κ env := fun l x e => ⟨h.lp _ _ (q l x e).1, (q l x e).2⟩
theorem EOk.cons {ι : I} {env : Env} (q : EOk ι env) {l : Nat} {x : LI} (h : ι.lp l = some x) (hd : x.d = depthOf x.N) : EOk ι ((l, x) :: env) := fun k y e => by
  unfold lookL at e
  split at e
  · rename_i hk
    have hk := Nat.eq_of_beq_eq_true hk
    cases e
    dsimp only at hk
    subst hk
    exact ⟨h, hd⟩
  · exact q k y e
def RdOk (ι : I) : Option Nat → Option Nat → Prop
  | none, none => True
  | some l, some c => ι.blk l = some c
  | _, _ => False
theorem RdOk.mono {ι κ : I} (h : ι.Le κ) : ∀ {rd rb : Option Nat}, RdOk ι rd rb → RdOk κ rd rb
  | none, none, _ => trivial
  | some _, some _, q => h.blk _ _ q
def DOk (ι : I) : List Nat → List Deferred → Prop
  | [], ds => ds = []
  | b :: l, ds => ∃ c d r, ι.blk b = some c ∧ d.target = .collected c ∧ DOk ι l r ∧ ds = d :: r
theorem DOk.mono {ι κ : I} (h : ι.Le κ) : ∀ {df : List Nat} {ds : List Deferred}, DOk ι df ds → DOk κ df ds
  | [], _, q => q
  | _ :: _, _, q => let ⟨c, d, r, q1, q2, q3, q4⟩ := q; ⟨c, d, r, h.blk _ _ q1, q2, DOk.mono h q3, q4⟩

def LoopW (F : Fence) (P : Program) (c : Code) (Q : Exit → Act → World → Prop) (a : Act) (w : World) : Prop :=
  ∀ (b : Frame) (k : List Item) (cs : List Frame), b.roundOf = F.round → F.fn b.fn → F.room (cs.length + 1 + 0) →
    ∃ e a' w', Q e a' w' ∧ ArrivesIn (Machine.fenced P F) P (lone (b.atR a (.code c :: .inLoop c :: k)) cs w) b k cs e a' w'
section
variable {F : Fence} {P : Program} {Q : Exit → Act → World → Prop} {a : Act} {w : World} {c : Code}
theorem loopW_in (h : LoopW F P c Q a w) : (Code.loop c).wpIn F 0 P Q a w := fun b k cs hro hb hr =>
  let ⟨e, a', w', q, r⟩ := h b k cs hro hb hr; ⟨e, a', w', q, .of_steps (.one (fenced_calm hb hr rfl) stepR_loop) r⟩
theorem loopW_step (h : c.wpIn F 0 P (Exit.then (LoopW F P c Q) Q) a w) : LoopW F P c Q a w := by
  intro b k cs hro hb hr
  obtain ⟨e, a₁, w₁, hq, harr⟩ := h b (.inLoop c :: k) cs hro hb hr
  cases e with
  | normal =>
    obtain ⟨e₂, a₂, w₂, hq₂, harr₂⟩ := hq b k cs hro hb hr
    exact ⟨e₂, a₂, w₂, hq₂, .of_steps (StepsIn.trans harr (.one (fenced_calm hb hr rfl) stepR_inLoop)) harr₂⟩
  | exit id => exact ⟨_, a₁, w₁, hq, .pass (x := .inLoop c) rfl (fun _ _ => .inl (by simp)) harr⟩
  | goto l => exact ⟨_, a₁, w₁, hq, .pass (x := .inLoop c) rfl (fun _ _ => .inl (by simp)) harr⟩
  | ret => exact ⟨_, a₁, w₁, hq, .pass (x := .inLoop c) rfl (fun _ _ => .inl (by simp)) harr⟩
  | panic ch => exact ⟨_, a₁, w₁, hq, .pass (x := .inLoop c) rfl (fun _ _ => .inl (by simp)) harr⟩
  | outgrown => exact ⟨_, a₁, w₁, hq, .pass (x := .inLoop c) rfl (fun _ _ => .inl (by simp)) harr⟩
def wpX (F : Fence) (P : Program) (c : Code) (Q : Exit → Act → World → Prop) (a : Act) (w : World) : Prop :=
  c.wpIn F 0 P Q a w ∧ ∀ b, c = .loop b → LoopW F P b Q a w
theorem wpX.of (h : c.wpIn F 0 P Q a w) (hc : ∀ b, c ≠ .loop b) : wpX F P c Q a w := ⟨h, fun b e => (hc b e).elim⟩
theorem LoopW.mono {Q' : Exit → Act → World → Prop} (h : LoopW F P c Q a w) (hq : ∀ e a w, Q e a w → Q' e a w) : LoopW F P c Q' a w :=
  fun b k cs hro hb hr => let ⟨e, a', w', q, r⟩ := h b k cs hro hb hr; ⟨e, a', w', hq _ _ _ q, r⟩
end

def Post (K : Ker) (w0 : World) (ι : I) (N : Nat) (KK : KT) (r0 : Rv) : Exit → Act → World → Prop := fun e a' w' =>
  ∃ ex fr' df' h' κ, ExR e ex ∧ ι.Le κ ∧ FR κ (depthOf N) N fr' a'.tmps ∧ Rep K w0 κ h' w' ∧ DOk κ df' a'.defers ∧ RvLe (KK ex fr' df' h') r0
def Sound (C : Cf) (P : Program) (f : IHT) : Prop := ∀ env rd c N fr df h KK r0, RvLe (f env rd c N fr df h KK) r0 →
  ∀ (K : Ker) (w0 : World) (ι : I) (a : Act) (w : World) (rb : Option Nat), Atoms C P K w0 ι → FR ι (depthOf N) N fr a.tmps → Rep K w0 ι h w → EOk ι env → RdOk ι rd rb → DOk ι df a.defers →
    wpX (FW rb) P c (Post K w0 ι N KK r0) a w

theorem RvLe.not_none {r0 : Rv} (h : RvLe none r0) : False := by obtain ⟨v, x, y, e, _⟩ := h; cases e

section
variable {P : Program} {K : Ker} {w0 w : World} {ι : I} {h : H} {N : Nat} {fr : Tr V} {a : Act} {C : Cf}
theorem putK_sound (hf : FR ι (depthOf N) N fr a.tmps) (d : Option Nat) {v : V} {x : Value} (hv : VR ι v x) :
    ∃ fr', (∀ {β : Type} (KK : Tr V → β), putK N d v fr KK = KK fr') ∧ FR ι (depthOf N) N fr' (a.put d x).tmps ∧ (a.put d x).defers = a.defers := by
  cases d with
  | none => exact ⟨fr, fun _ => rfl, hf, rfl⟩
  | some d =>
    cases hb : Nat.blt d N with
    | true =>
      refine ⟨fr.set d v, fun KK => ?_, hf.set (by simpa [Nat.blt_eq] using hb) hv, rfl⟩
      simp only [putK, hb, forceT_eq]
    | false =>
      refine ⟨fr, fun KK => by simp only [putK, hb], ?_, rfl⟩
      have : a.tmps.size ≤ d := by
        rw [hf.size]
        by_cases h : d < N
        · have : Nat.blt d N = true := by rw [Nat.blt_eq]; exact h
          rw [this] at hb; cases hb
        · omega
      show FR ι _ N fr (a.tmps.setIfInBounds d x)
      rw [Array.setIfInBounds_eq_of_size_le this]
      exact hf
theorem nthO_eq : ∀ (l : List Oper) (n : Nat), nthO l n = l[n]?
  | [], n => by cases n <;> rfl
  | a :: l, 0 => rfl
  | a :: l, n + 1 => by simp [nthO, nthO_eq l n]
theorem wants_sound (hf : FR ι (depthOf N) N fr a.tmps) (ops : Array Oper) (o : Oper) {b : Bool} (h : wantsV N ops.toList fr o.guard = some b) : Region.wanted o (yielded ops a.tmps) = b := by
  unfold Region.wanted
  unfold wantsV at h
  split at h
  · rename_i hg
    cases h
    rw [hg]
  · rename_i j c hg
    rw [hg]
    dsimp only
    split at h
    · rename_i o' ho
      rw [nthO_eq] at ho
      split at h
      · rename_i d hd
        split at h
        · rename_i hb
          have hb : d < N := by simpa [Nat.blt_eq] using hb
          obtain ⟨x, e, r⟩ := hf.at_ d hb
          have hy : yielded ops a.tmps j = match (some x : Option Value) with | some (.bool b) => some b | _ => none := by
            unfold yielded
            rw [← Array.getElem?_toList, ho]
            simp only [Option.bind_some, hd, e]
            cases x <;> rfl
          split at h
          · rename_i c' hc
            rw [hc] at r
            simp only [VR] at r
            subst r
            dsimp only at hy
            cases h
            rw [hy]
            cases c' <;> cases c <;> rfl
          · rename_i hc
            rw [hc] at r
            simp only [VR] at r
            obtain ⟨cs, _, r⟩ := r
            subst r
            dsimp only at hy
            cases h
            rw [hy]
            rfl
          · cases h
        · cases h
      · cases h
    · cases h
theorem callFunc_run (hC : C.Ok P) {f : Nat} {fn : Func} (hf : C.F.at_ f = some fn) (xs : Array Value) : (callFunc f xs).run P w = .ok (.enter f xs) w := by
  obtain ⟨h1, h2, h3⟩ := hC.F f fn hf
  have h4 : ¬ fn.body = none := by intro e; rw [e] at h3; cases h3
  have h5 : ¬ fn.name = "runtime.NumGoroutine" := by simpa using h2
  unfold callFunc
  simp [go_sem, h1, h4, h5]
theorem resV_sound (hC : C.Ok P) (r : Rep K w0 ι h w) (hf : FR ι (depthOf N) N fr a.tmps) {g : ResultVar → Sem Value} (g1 : ∀ t, g (.tmp t) = pure (a.tmps.getD t undef)) (g2 : ∀ b t, g (.cell b t) = do loadVar t (← asAddr (a.tmps.getD b undef))) :
    ∀ (l : List ResultVar) (vs : List V), resV C N fr h l = some vs → ∃ ys, (l.mapM g).run P w = .ok ys w ∧ VRs ι vs ys
  | [], vs, e => by
    cases e
    exact ⟨[], rfl, VRs.nil_iff.2 rfl⟩
  | .tmp t :: l, vs, e => by
    unfold resV at e
    split at e
    · rename_i l' hb hl
      cases e
      have hb : t < N := by simpa [Nat.blt_eq] using hb
      obtain ⟨x, e1, r1⟩ := hf.at_ t hb
      obtain ⟨ys, e2, r2⟩ := resV_sound hC r hf g1 g2 l _ hl
      refine ⟨x :: ys, ?_, VRs.cons_iff.2 ⟨_, _, r1, r2, rfl⟩⟩
      rw [List.mapM_cons, g1]
      simp only [Sem.run_bind, Sem.run_pure, Result.andThen_ok, e2, Array.getD_eq_getD_getElem?, e1, Option.getD_some]
    · cases e
  | .cell b t :: l, vs, e => by
    unfold resV at e
    split at e
    · rename_i l' hb hl
      have hb : b < N := by simpa [Nat.blt_eq] using hb
      obtain ⟨x, e1, r1⟩ := hf.at_ b hb
      obtain ⟨ys, e2, r2⟩ := resV_sound hC r hf g1 g2 l _ hl
      split at e
      · rename_i bl o hp
        split at e
        · rename_i m bt gg ti hm hti
          split at e
          · rename_i v hv
            cases e
            rw [hp] at r1
            obtain ⟨c, hbl, hx⟩ := ptr_out r1
            subst hx
            obtain ⟨cs, more, q1, q2, _, _⟩ := r.cells_at hbl hm
            obtain ⟨y, y1, y2⟩ := loadV_sound (hC.T _ _ hti) hv q2 q1
            refine ⟨y :: ys, ?_, VRs.cons_iff.2 ⟨_, _, y2, r2, rfl⟩⟩
            have y1 : (loadVar t ⟨c, o, none⟩).run P w = .ok y w := by
              simpa [Instr.loadAt, Instr.sureAddr, Sem.run_bind, Sem.run_pure, Result.andThen_ok] using y1
            rw [List.mapM_cons, g2]
            simp only [Sem.run_bind, Sem.run_pure, Result.andThen_ok, e2, Array.getD_eq_getD_getElem?, e1, Option.getD_some, asAddr, y1]
          · cases e
        · cases e
      · cases e
    · cases e
theorem oneOf_sound {vs : List V} {ys : List Value} (hv : VRs ι vs ys) : VR ι (oneOf vs) (if h : ys.toArray.size = 1 then ys.toArray[0] else .tuple ys.toArray) := by
  have hl := hv.length
  match vs, hv with
  | [], hv =>
    have := VRs.nil_iff.1 hv
    subst this
    simp only [oneOf, VR]
    exact ⟨[], VRs.nil_iff.2 rfl, rfl⟩
  | [v], hv =>
    obtain ⟨x, r, h1, h2, rfl⟩ := VRs.cons_iff.1 hv
    have := VRs.nil_iff.1 h2
    subst this
    exact h1
  | v :: u :: l, hv =>
    have : ¬ ys.toArray.size = 1 := by simp at hl ⊢; omega
    rw [dif_neg this]
    simp only [oneOf, VR]
    exact ⟨ys, hv, rfl⟩
theorem results_aux (hC : C.Ok P) (r : Rep K w0 ι h w) (hf : FR ι (depthOf N) N fr a.tmps) {g : ResultVar → Sem Value} (g1 : ∀ t, g (.tmp t) = pure (a.tmps.getD t undef)) (g2 : ∀ b t, g (.cell b t) = do loadVar t (← asAddr (a.tmps.getD b undef)))
    (l : List ResultVar) (vs : List V) (hv : resV C N fr h l = some vs) : ∃ y, (((List.mapM g l).run P w).andThen fun a w' => Sem.run P (pure a.toArray) w').andThen (fun a w' => Sem.run P (pure (if h : a.size = 1 then a[0] else Value.tuple a)) w') = .ok y w ∧ VR ι (oneOf vs) y := by
  obtain ⟨ys, e, hys⟩ := resV_sound hC r hf g1 g2 _ _ hv
  refine ⟨_, ?_, oneOf_sound hys⟩
  rw [e]
  rfl
theorem results_sound (hC : C.Ok P) (r : Rep K w0 ι h w) (hf : FR ι (depthOf N) N fr a.tmps) {fn : Func} {vs : List V} (hv : resV C N fr h fn.results.toList = some vs) : ∃ y, (results fn a.tmps).run P w = .ok y w ∧ VR ι (oneOf vs) y := by
  unfold results
  rw [Array.mapM_eq_mapM_toList, Sem.run_bind, map_eq_pure_bind, Sem.run_bind]
  exact results_aux hC r hf (fun _ => rfl) (fun _ _ => rfl) _ _ hv
end
end Go.Proofs.Ytoamjihchmokcaa.E
namespace Go.Proofs.Ytoamjihchmokcaa.E
open Go.ChangeShapes Go.WideShapes Go.ChangeAt Go.RowKit Go.Deep

section
variable {P : Program} {K : Ker} {w0 w : World} {ι : I} {h : H} {C : Cf} {ih : IHT}
theorem Rep.putO (r : Rep K w0 ι h w) {b c : Nat} (hb : ι.blk b = some c) (hd : h.t.get b ≠ .dead) {a : O} {o : Obj} (ho : OR ι a o) (hn : ∀ (arr : Array Value) (t : TypeId) (f : Nat × Nat), w.heap[c]? ≠ some (.cells arr t f)) : Rep K w0 ι (h.put b a) (w.putObj c o) := by
  obtain ⟨_, hc, e, _⟩ := r.at_ hb hd
  exact r.upd hb hd ho World.putObj_size (World.putObj_heap_same (Array.getElem?_eq_some_iff.1 e).1) (fun k hk => World.putObj_heap_other hk) (fun arr t f q => absurd q (hn arr t f)) rfl rfl rfl
theorem Rep.loop_at (r : Rep K w0 ι h w) {l l' c : Nat} {st : LoopState} {p : Option J} (hb : ι.blk l = some c) (hd : h.t.get l = .loop l' st p) :
    ∃ (q : LI) (fn : Nat) (tm : Array Value) (c' : Nat), ι.lp l' = some q ∧ FR ι q.d q.N q.fr tm ∧ ι.blk q.dfr = some c' ∧ w.heap[c]? = some (.loop ⟨st, p.map J.code, fn, tm, q.ps.toArray, q.assign, q.body, c'⟩) := by
  obtain ⟨o, _, e, ho⟩ := r.at_ hb (by rw [hd]; simp)
  rw [hd] at ho
  obtain ⟨q, fn, tm, c', h1, h2, h3, h4⟩ := ho
  exact ⟨q, fn, tm, c', h1, h2, h3, h4 ▸ e⟩
theorem putL_sound (r : Rep K w0 ι h w) {l c : Nat} (hb : ι.blk l = some c) {st : LoopState} {p : Option J} {h' : H} (hp : putL h l st p = some h') :
    ∃ rec : Loop, w.heap[c]? = some (.loop rec) ∧ Rep K w0 ι h' (w.putObj c (.loop { rec with state := st, pending := p.map J.code })) := by
  unfold putL at hp
  split at hp
  · rename_i l' _ _ hd
    split at hp
    · rename_i hl
      have hl := Nat.eq_of_beq_eq_true hl
      subst hl
      cases hp
      obtain ⟨q, fn, tm, c', h1, h2, h3, h4⟩ := r.loop_at hb hd
      refine ⟨_, h4, r.putO hb (by rw [hd]; simp) ⟨q, fn, tm, c', h1, h2, h3, rfl⟩ fun arr t f e => ?_⟩
      rw [h4] at e
      cases e
    · cases hp
  · cases hp
theorem readyL_out {l : Nat} (hr : readyL h l = true) : h.t.get l = .loop l .ready none := by
  unfold readyL at hr
  split at hr
  · rename_i hd
    rw [Nat.eq_of_beq_eq_true hr] at hd
    exact hd
  · cases hr

theorem RvLe.of_eq {r : Rv} {v : V} {h : H} (e : r = some (v, h)) : RvLe r (some (v, h)) := e ▸ RvLe.refl
theorem argsT_perf {d : Nat} : ∀ (l : List V) (k : Nat) (t : Tr V), Perf d t → Perf d (argsT l k t)
  | [], _, _, p => p
  | v :: l, k, _, p => argsT_perf l _ _ (p.set k v)
theorem argsT_get {d : Nat} : ∀ (l : List V) (k : Nat) (t : Tr V), Perf d t → k + l.length ≤ 2 ^ d → ∀ j, j < 2 ^ d → (argsT l k t).get j = if k ≤ j then (l[j - k]?).getD (t.get j) else t.get j
  | [], _, _, _, _, _, _ => by simp [argsT]
  | v :: l, k, t, p, hk, j, hj => by
    simp only [List.length_cons] at hk
    show (argsT l (k + 1) (t.set k v)).get j = _
    rw [argsT_get l (k + 1) _ (p.set k v) (by omega) j hj, p.get_set k v j (by omega) hj]
    by_cases h1 : k + 1 ≤ j
    · rw [if_pos h1, if_neg (show ¬ j = k by omega), if_pos (show k ≤ j by omega)]
      have : j - k = (j - (k + 1)) + 1 := by omega
      rw [this, List.getElem?_cons_succ]
    · rw [if_neg h1]
      by_cases h2 : j = k
      · subst h2
        simp
      · rw [if_neg h2, if_neg (show ¬ k ≤ j by omega)]
theorem depthOf_fit {N : Nat} (h : Nat.ble N 2048 = true) : N ≤ 2 ^ depthOf N := by
  have h := Nat.le_of_ble_eq_true h
  unfold depthOf
  split
  · rename_i e; exact Nat.le_of_ble_eq_true e
  · rename_i e; exact Nat.le_of_ble_eq_true e
  · rename_i e; exact Nat.le_of_ble_eq_true e
  · exact h
theorem FR.start {args : List V} {xs : List Value} (hx : VRs ι args xs) {N : Nat} (hl : Nat.ble args.length N = true) (hN : Nat.ble N 2048 = true) :
    FR ι (depthOf N) N (argsT args 0 (Tr.full .undef (depthOf N))) (xs.toArray ++ Array.replicate (N - xs.toArray.size) undef) := by
  have hl := Nat.le_of_ble_eq_true hl
  have hf := depthOf_fit hN
  have hlen := hx.length
  refine ⟨argsT_perf _ _ _ (Perf.full _ _), hf, by simp; omega, fun k hk => ?_⟩
  rw [argsT_get _ _ _ (Perf.full _ _) (by omega) k (by omega), if_pos (Nat.zero_le k), Nat.sub_zero, Tr.get_full]
  by_cases h : k < xs.length
  · obtain ⟨v, hv⟩ : ∃ v, args[k]? = some v := ⟨args[k]'(by omega), List.getElem?_eq_getElem (by omega)⟩
    obtain ⟨x, e, r⟩ := hx.at_ k v hv
    refine ⟨x, ?_, by rw [hv]; exact r⟩
    rw [Array.getElem?_append_left (by simpa using h)]
    simpa using e
  · refine ⟨undef, ?_, ?_⟩
    · rw [Array.getElem?_append_right (by simp; omega)]
      rw [Array.getElem?_replicate, if_pos (by simp only [List.size_toArray]; omega)]
    · rw [List.getElem?_eq_none (by omega)]
      simp only [Option.getD_none, VR]
theorem drop_sound {fn : Func} {tmps : Array Value} {R : Ending → World → Prop} {h' : H} : ∀ (df : List Nat) (ds : List Deferred) (h : H) (w : World), DOk ι df ds → Rep K w0 ι h w → dropM df h = some h' →
    (∀ w', Rep K w0 ι h' w' → ∃ v, (results fn tmps).run P w' = .ok v w' ∧ R (.returned v) w') → LeavesInM (FW none) 0 P fn tmps R ds .returning w
  | [], ds, h, w, hd, r, e, hR => by
    have hd : ds = [] := hd
    subst hd
    cases e
    exact hR w r
  | b :: df, ds, h, w, hd, r, e, hR => by
    obtain ⟨c, d, ds', h1, h2, h3, h4⟩ := hd
    subst h4
    unfold dropM at e
    split at e
    · rename_i hb
      obtain ⟨o, _, ho, hO⟩ := r.at_ h1 (by rw [hb]; simp)
      rw [hb] at hO
      have hO : o = .deferred (some []) := hO
      subst hO
      refine ⟨by simp, .inl ⟨c, _, h2, run_takeDeferred ho, drop_sound df ds' _ _ h3 (r.putO h1 (by rw [hb]; simp) (a := .dead) trivial fun arr t f e => ?_) e hR⟩⟩
      rw [ho] at e
      cases e
    · cases e
theorem allB_mem {α : Type} {f : α → Bool} : ∀ {l : List α}, allB f l = true → ∀ x ∈ l, f x = true
  | [], _, _, h => by cases h
  | a :: l, h, x, hx => by
    unfold allB at h
    split at h
    · rename_i ha
      rcases List.mem_cons.1 hx with rfl | hx
      · exact ha
      · exact allB_mem h x hx
    · cases h
theorem ints_only {ι : I} {k : IntKind} : ∀ {zs : List Int} {cs : List Value}, VRs ι (zs.map fun z => .int k z) cs → cs = zs.map fun z => Value.int k z
  | [], _, h => VRs.nil_iff.1 h
  | z :: zs, _, h => by
    obtain ⟨x, r, h1, h2, rfl⟩ := VRs.cons_iff.1 h
    simp only [VR] at h1
    rw [h1, ints_only h2]; rfl
theorem Tab.only {ι : I} {x : Tab} {o : Obj} (h : OR ι x.o o) : o = x.obj := by
  obtain ⟨cs, more, h1, h2, h3⟩ := h
  rw [h2, ints_only h1, h3 rfl]
  simp [Tab.obj]
theorem Rep.keep {w' : World} (r : Rep K w0 ι h w) (hb : Below w.heap.size w w') : Rep K w0 ι h w' := by
  have hw : ∀ c, c < w.heap.size → w'.heap[c]? = w.heap[c]? := fun c hc => hb.block c hc
  refine ⟨r.perf, r.fit, r.base.next hb.os hb.tape hb.output hb.size (fun c hc => hw c (r.base.lt hc)), fun b hbn hd => ?_, r.inj, fun b c e => ⟨(r.lt b c e).1, Nat.lt_of_lt_of_le (r.lt b c e).2 hb.size⟩, r.lps, fun b E e => ⟨(r.ext b E e).1, fun c hc => ?_⟩, r.resv⟩
  · obtain ⟨c, o, e1, e2, e3, e4⟩ := r.live b hbn hd
    exact ⟨c, o, e1, e2, by rw [hw c (r.lt b c e1).2]; exact e3, e4⟩
  · obtain ⟨arr, t, f, q1, q2⟩ := (r.ext b E e).2 c hc
    exact ⟨arr, t, f, by rw [hw c (r.lt b c hc).2]; exact q1, q2⟩
theorem Rep.laid (r : Rep K w0 ι h w) {G : Nat} {l : List Tab} (hg : ∀ g, g < G → ι.blk g = some g) (hl : ∀ x ∈ l, x.g < G) (hG : G ≤ w.heap.size) (hk : keptB h l = true) : Laid w G l := by
  refine ⟨hG, fun x hx => ⟨hl x hx, ?_⟩⟩
  have hd := beqO_eq (allB_mem hk x hx)
  obtain ⟨o, _, h1, h2⟩ := r.at_ (hg x.g (hl x hx)) (by rw [hd]; simp [Tab.o])
  rw [hd] at h2
  rw [h1, Tab.only h2]
def Back (K : Ker) (w0 : World) (ι : I) (KK : V → H → Rv) (r0 : Rv) : Ending → World → Prop := fun e w' => ∃ v y h' κ, e = .returned y ∧ ι.Le κ ∧ Rep K w0 κ h' w' ∧ VR κ v y ∧ RvLe (KK v h') r0
theorem callK_sound (hC : C.Ok P) (hS : Sound C P ih) {env : Env} {f : Nat} {args : List V} {KK : V → H → Rv} {r0 : Rv} (hr : RvLe (callK C ih env f args h KK) r0) (ha : Atoms C P K w0 ι) (r : Rep K w0 ι h w) (he : EOk ι env) {xs : List Value} (hx : VRs ι args xs) (rb : Option Nat) :
    (∀ y, (callFunc f y).run P w = .ok (.enter f y) w) ∧ CallsIn (FW rb) 0 P f xs.toArray w (Back K w0 ι KK r0) := by
  unfold callK at hr
  split at hr
  · exact hr.not_none.elim
  rename_i fn hf
  split at hr
  · rename_i v hv
    refine ⟨callFunc_run hC hf, (callsIn_wide.2 (ha.con f args v hv ι w rfl r.base xs hx) : CallsIn (FW none) 0 P f xs.toArray w _).mono ?_⟩
    rintro e w' ⟨y, e1, e2, e3⟩
    exact ⟨v, y, h, ι, e1, .refl _, r.keep e3, e2, hr⟩
  split at hr
  rotate_left
  · exact hr.not_none.elim
  rename_i c hb hl hN
  refine ⟨callFunc_run hC hf, ?_⟩
  have leave : ∀ {KK' : V → H → Rv} {r1 : Rv}, RvLe (ih env none c fn.ntmps (argsT args 0 (Tr.full .undef (depthOf fn.ntmps))) [] h (leaveK C fn KK')) r1 → CallsIn (FW none) 0 P f xs.toArray w (Back K w0 ι KK' r1) := by
    intro KK' r1 hih
    have hs := hS _ _ _ _ _ _ _ _ _ hih K w0 ι ⟨xs.toArray ++ Array.replicate (fn.ntmps - xs.toArray.size) undef, []⟩ w none ha (FR.start hx hl hN) r he trivial rfl
    refine callsIn_of_wp_marks (hC.F f fn hf).1 hb trivial (wpIn_mono hs.1 ?_)
    rintro e a' w' ⟨ex, fr', df', h', κ, hex, hle, hfr, hrep, hd, hle2⟩
    have key : RvLe (match dropM df' h' with
          | none => none
          | some h => match resV C fn.ntmps fr' h fn.results.toList with
            | none => none
            | some l => KK' (oneOf l) h) r1 → LeavesInM (FW none) 0 P fn a'.tmps (Back K w0 ι KK' r1) a'.defers .returning w' := by
      intro hk
      split at hk
      · exact hk.not_none.elim
      rename_i h2 hdr
      refine drop_sound df' _ _ _ hd hrep hdr fun w'' hrep2 => ?_
      split at hk
      · exact hk.not_none.elim
      rename_i l hres
      obtain ⟨y, y1, y2⟩ := results_sound hC hrep2 hfr hres
      exact ⟨y, y1, oneOf l, y, h2, κ, rfl, hle, hrep2, y2, hk⟩
    cases ex with
    | exit id => exact hle2.not_none.elim
    | normal =>
      cases e <;> first | exact hex.elim | exact key hle2
    | ret =>
      cases e <;> first | exact hex.elim | exact key hle2
  split at hr
  · rename_i v hv
    split at hr
    rotate_left
    · exact hr.not_none.elim
    rename_i hkp _
    have hxs : xs = [] := VRs.nil_iff.1 hx
    subst hxs
    have hw : C.G ≤ w.heap.size := by
      cases hG : C.G with
      | zero => exact Nat.zero_le _
      | succ g => exact (r.lt g g (ha.glob g (by omega))).2
    have hs := hC.sum f v hv w (r.laid ha.glob hC.tabs hw hkp)
    refine (callsIn_wide.2 hs : CallsIn (FW none) 0 P f #[] w _).mono ?_
    rintro e w' ⟨y, e1, e2, e3⟩
    exact ⟨v, y, h, ι, e1, .refl _, r.keep e3, e2 ι, hr⟩
  split at hr
  · have e : (fun v h => forceV v fun v => forceH h fun h => KK v h) = KK := by funext v h; simp only [forceV_eq, forceH_eq]
    rw [e] at hr
    exact leave hr
  · split at hr
    rotate_left
    · exact hr.not_none.elim
    rename_i v h1 hih
    simp only [forceV_eq, forceH_eq] at hr
    refine (leave (RvLe.of_eq hih)).mono ?_
    rintro e w' ⟨v', y, h', κ, q1, q2, q3, q4, v2, x, h0, z1, z2, hsub⟩
    cases z1
    cases z2
    exact ⟨v, y, h1, κ, q1, q2, q3.sub hsub, q4, hr⟩

theorem setPs_sound {d N : Nat} : ∀ (ps : List Nat) (vs : List V) (xs : List Value) (fr fr' : Tr V) (tm : Array Value), setPs ps vs N fr = some fr' → FR ι d N fr tm → VRs ι vs xs →
    xs.length = ps.length ∧ FR ι d N fr' ((ps.zip xs).foldl (fun t p => t.setIfInBounds p.1 p.2) tm)
  | [], [], xs, fr, fr', tm, e, hf, hx => by
    have := VRs.nil_iff.1 hx
    subst this
    cases e
    exact ⟨rfl, hf⟩
  | [], _ :: _, _, _, _, _, e, _, _ => by cases e
  | _ :: _, [], _, _, _, _, e, _, _ => by cases e
  | p :: ps, v :: vs, xs, fr, fr', tm, e, hf, hx => by
    obtain ⟨x, xs, h1, h2, rfl⟩ := VRs.cons_iff.1 hx
    unfold setPs at e
    split at e
    · rename_i hp
      obtain ⟨q1, q2⟩ := setPs_sound ps vs xs _ _ _ e (hf.set (by simpa [Nat.blt_eq] using hp) h1) h2
      exact ⟨by simp [q1], q2⟩
    · cases e
theorem roundK_sound (hS : Sound C P ih) {env : Env} {l : Nat} {args : List V} {KK : V → H → Rv} {r0 : Rv} (hr : RvLe (roundK ih env l args h KK) r0) (ha : Atoms C P K w0 ι) (r : Rep K w0 ι h w) (he : EOk ι env) {xs : List Value} (hx : VRs ι args xs) {c : Nat} (hc : ι.blk l = some c) (rb : Option Nat) :
    ∃ fn tm asx bd, (Instr.yield c xs.toArray).run P w = .ok (.round c fn tm asx bd) w ∧ RoundIn (FW rb) 0 P c fn tm asx bd w (Back K w0 ι KK r0) := by
  unfold roundK at hr
  split at hr
  rotate_left
  · exact hr.not_none.elim
  rename_i q hq hrd
  split at hr
  rotate_left
  · exact hr.not_none.elim
  rename_i fr hfr
  split at hr
  rotate_left
  · exact hr.not_none.elim
  rename_i v h1 hih
  simp only [forceV_eq, forceH_eq] at hr hih
  obtain ⟨q', fn, tm, c', g1, g2, g3, g4⟩ := r.loop_at hc (readyL_out hrd)
  obtain ⟨g5, g6⟩ := he _ _ hq
  rw [g5] at g1
  cases g1
  obtain ⟨n1, n2⟩ := setPs_sound _ _ _ _ _ _ hfr g2 hx
  rw [g6] at n2
  refine ⟨_, _, _, _, run_yield g4 (by simpa using n1), roundIn_of_wpIn trivial ?_⟩
  have e1 : (q.ps.toArray.zip xs.toArray).foldl (fun tmps (t, a) => tmps.setIfInBounds t a) tm = (q.ps.zip xs).foldl (fun t p => t.setIfInBounds p.1 p.2) tm := by
    simp
  dsimp only
  rw [e1]
  refine wpIn_mono (hS _ _ _ _ _ _ _ _ _ (RvLe.of_eq hih) K w0 ι ⟨_, []⟩ w (some c) ha n2 r he hc rfl).1 ?_
  rintro e a' w' ⟨ex, fr', df', h', κ, hex, hle, hfr', hrep, hd, hle2⟩
  have hcκ := hle.blk _ _ hc
  dsimp only at hle2
  split at hle2
  rotate_left
  · exact hle2.not_none.elim
  rename_i hrd'
  split at hle2
  rotate_left
  · exact hle2.not_none.elim
  rename_i h2 hp
  cases e <;> try exact hex.elim
  obtain ⟨q2, fn2, tm2, c2, _, _, _, k4⟩ := hrep.loop_at hcκ (readyL_out hrd')
  obtain ⟨rec, z1, z2⟩ := putL_sound hrep hcκ hp
  rw [k4] at z1
  cases z1
  refine ⟨_, run_beginRound k4 rfl, ?_⟩
  refine wpIn_mono (hS _ _ _ _ _ _ _ _ _ hle2 K w0 κ a' _ (some c) (ha.mono hle) hfr' z2 (he.mono hle) hcκ hd).1 ?_
  rintro e3 a3 w3 ⟨ex3, fr3, df3, h3, κ3, hex3, hle3, _, hrep3, _, hle4⟩
  have hc3 := hle3.blk _ _ hcκ
  unfold endRoundV at hle4
  cases ex3 with
  | normal =>
    dsimp only at hle4
    split at hle4
    rotate_left
    · exact hle4.not_none.elim
    rename_i h4 hp4
    obtain ⟨rec, z1, z2⟩ := putL_sound hrep3 hc3 hp4
    cases e3 <;> try exact hex3.elim
    obtain ⟨v', x, y, e1, e2, hsub⟩ := hle4
    cases e1
    cases e2
    exact ⟨_, _, run_endRound none z1, .bool true, _, h1, κ3, rfl, hle.trans hle3, z2.sub hsub, by simp [VR], hr⟩
  | ret =>
    dsimp only at hle4
    split at hle4
    rotate_left
    · exact hle4.not_none.elim
    rename_i h4 hp4
    obtain ⟨rec, z1, z2⟩ := putL_sound hrep3 hc3 hp4
    cases e3 <;> try exact hex3.elim
    obtain ⟨v', x, y, e1, e2, hsub⟩ := hle4
    cases e1
    cases e2
    exact ⟨_, _, run_endRound (some .ret) z1, .bool false, _, h1, κ3, rfl, hle.trans hle3, z2.sub hsub, by simp [VR], hr⟩
  | exit j =>
    dsimp only at hle4
    split at hle4
    rotate_left
    · exact hle4.not_none.elim
    rename_i h4 hp4
    obtain ⟨rec, z1, z2⟩ := putL_sound hrep3 hc3 hp4
    cases e3 <;> try exact hex3.elim
    have hex3 : _ = j := hex3
    subst hex3
    obtain ⟨v', x, y, e1, e2, hsub⟩ := hle4
    cases e1
    cases e2
    exact ⟨_, _, run_endRound (some (.exit _)) z1, .bool false, _, h1, κ3, rfl, hle.trans hle3, z2.sub hsub, by simp [VR], hr⟩
end
end Go.Proofs.Ytoamjihchmokcaa.E
