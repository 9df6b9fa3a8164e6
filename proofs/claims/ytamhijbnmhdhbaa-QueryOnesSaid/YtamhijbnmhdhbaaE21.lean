/- The executor on a function's code: what is to be shown of it; frames, guards, results. No condition. -/
import Derived.Test.YtamhijbnmhdhbaaE20M
import Derived.RangeFuncRecord
import Derived.RangeFuncNested
namespace Go.Proofs.Ytamhijbnmhdhbaa.E
open Go.ChangeShapes Go.WideShapes Go.ChangeAt Go.RowKit Go.Deep

def FW (rb : Option Nat) : Fence := { Fence.wide with round := rb }
def ExR : Exit → Ex → Prop
  | .normal, .normal => True
  | .exit i, .exit j => i = j
  | .ret, .ret => True
  | _, _ => False
def EOk (ι : I) (env : Env) : Prop := ∀ l q, lookL env l = some q → ι.lp l = some q ∧ q.d = depthOf q.N
theorem EOk.nil (ι : I) : EOk ι [] := fun _ _ h => by cases h
theorem EOk.mono {ι κ : I} (h : ι.Le κ) {env : Env} (q : EOk ι env) : EOk κ env := fun l x e => ⟨h.lp _ _ (q l x e).1, (q l x e).2⟩
theorem EOk.cons {ι : I} {env : Env} (q : EOk ι env) {l : Nat} {x : LI} (h : ι.lp l = some x) (hd : x.d = depthOf x.N) : EOk ι ((l, x) :: env) := fun k y e => by
  unfold lookL at e
  split at e
  · rename_i hk
    have hk := Nat.eq_of_beq_eq_true hk
    cases e
    dsimp only at hk
    subst hk
    exact ⟨h, hd⟩
  · exact q k y e
def RdOk (ι : I) : Option Nat → Option Nat → Prop
  | none, none => True
  | some l, some c => ι.blk l = some c
  | _, _ => False
theorem RdOk.mono {ι κ : I} (h : ι.Le κ) : ∀ {rd rb : Option Nat}, RdOk ι rd rb → RdOk κ rd rb
  | none, none, _ => trivial
  | some _, some _, q => h.blk _ _ q
def DOk (ι : I) : List Nat → List Deferred → Prop
  | [], ds => ds = []
  | b :: l, ds => ∃ c d r, ι.blk b = some c ∧ d.target = .collected c ∧ DOk ι l r ∧ ds = d :: r
theorem DOk.mono {ι κ : I} (h : ι.Le κ) : ∀ {df : List Nat} {ds : List Deferred}, DOk ι df ds → DOk κ df ds
  | [], _, q => q
  | _ :: _, _, q => let ⟨c, d, r, q1, q2, q3, q4⟩ := q; ⟨c, d, r, h.blk _ _ q1, q2, DOk.mono h q3, q4⟩

/-- A loop, its body about to begin. -/
def LoopW (F : Fence) (P : Program) (c : Code) (Q : Exit → Act → World → Prop) (a : Act) (w : World) : Prop :=
  ∀ (b : Frame) (k : List Item) (cs : List Frame), b.roundOf = F.round → F.fn b.fn → F.room (cs.length + 1 + 0) →
    ∃ e a' w', Q e a' w' ∧ ArrivesIn (Machine.fenced P F) P (lone (b.atR a (.code c :: .inLoop c :: k)) cs w) b k cs e a' w'
section
variable {F : Fence} {P : Program} {Q : Exit → Act → World → Prop} {a : Act} {w : World} {c : Code}
theorem loopW_in (h : LoopW F P c Q a w) : (Code.loop c).wpIn F 0 P Q a w := fun b k cs hro hb hr =>
  let ⟨e, a', w', q, r⟩ := h b k cs hro hb hr; ⟨e, a', w', q, .of_steps (.one (fenced_calm hb hr rfl) stepR_loop) r⟩
theorem loopW_step (h : c.wpIn F 0 P (Exit.then (LoopW F P c Q) Q) a w) : LoopW F P c Q a w := by
  intro b k cs hro hb hr
  obtain ⟨e, a₁, w₁, hq, harr⟩ := h b (.inLoop c :: k) cs hro hb hr
  cases e with
  | normal =>
    obtain ⟨e₂, a₂, w₂, hq₂, harr₂⟩ := hq b k cs hro hb hr
    exact ⟨e₂, a₂, w₂, hq₂, .of_steps (StepsIn.trans harr (.one (fenced_calm hb hr rfl) stepR_inLoop)) harr₂⟩
  | exit id => exact ⟨_, a₁, w₁, hq, .pass (x := .inLoop c) rfl (fun _ _ => .inl (by simp)) harr⟩
  | goto l => exact ⟨_, a₁, w₁, hq, .pass (x := .inLoop c) rfl (fun _ _ => .inl (by simp)) harr⟩
  | ret => exact ⟨_, a₁, w₁, hq, .pass (x := .inLoop c) rfl (fun _ _ => .inl (by simp)) harr⟩
  | panic ch => exact ⟨_, a₁, w₁, hq, .pass (x := .inLoop c) rfl (fun _ _ => .inl (by simp)) harr⟩
  | outgrown => exact ⟨_, a₁, w₁, hq, .pass (x := .inLoop c) rfl (fun _ _ => .inl (by simp)) harr⟩
def wpX (F : Fence) (P : Program) (c : Code) (Q : Exit → Act → World → Prop) (a : Act) (w : World) : Prop :=
  c.wpIn F 0 P Q a w ∧ ∀ b, c = .loop b → LoopW F P b Q a w
theorem wpX.of (h : c.wpIn F 0 P Q a w) (hc : ∀ b, c ≠ .loop b) : wpX F P c Q a w := ⟨h, fun b e => (hc b e).elim⟩
theorem LoopW.mono {Q' : Exit → Act → World → Prop} (h : LoopW F P c Q a w) (hq : ∀ e a w, Q e a w → Q' e a w) : LoopW F P c Q' a w :=
  fun b k cs hro hb hr => let ⟨e, a', w', q, r⟩ := h b k cs hro hb hr; ⟨e, a', w', hq _ _ _ q, r⟩
end

def Post (K : Ker) (w0 : World) (ι : I) (N : Nat) (KK : KT) (r0 : Rv) : Exit → Act → World → Prop := fun e a' w' =>
  ∃ ex fr' df' h' κ, ExR e ex ∧ ι.Le κ ∧ FR κ (depthOf N) N fr' a'.tmps ∧ Rep K w0 κ h' w' ∧ DOk κ df' a'.defers ∧ RvLe (KK ex fr' df' h') r0
def Sound (C : Cf) (P : Program) (f : IHT) : Prop := ∀ env rd c N fr df h KK r0, RvLe (f env rd c N fr df h KK) r0 →
  ∀ (K : Ker) (w0 : World) (ι : I) (a : Act) (w : World) (rb : Option Nat), Atoms C P K w0 ι → FR ι (depthOf N) N fr a.tmps → Rep K w0 ι h w → EOk ι env → RdOk ι rd rb → DOk ι df a.defers →
    wpX (FW rb) P c (Post K w0 ι N KK r0) a w

theorem RvLe.not_none {r0 : Rv} (h : RvLe none r0) : False := by obtain ⟨v, x, y, e, _⟩ := h; cases e

section
variable {P : Program} {K : Ker} {w0 w : World} {ι : I} {h : H} {N : Nat} {fr : Tr V} {a : Act} {C : Cf}
theorem putK_sound (hf : FR ι (depthOf N) N fr a.tmps) (d : Option Nat) {v : V} {x : Value} (hv : VR ι v x) :
    ∃ fr', (∀ {β : Type} (KK : Tr V → β), putK N d v fr KK = KK fr') ∧ FR ι (depthOf N) N fr' (a.put d x).tmps ∧ (a.put d x).defers = a.defers := by
  cases d with
  | none => exact ⟨fr, fun _ => rfl, hf, rfl⟩
  | some d =>
    cases hb : Nat.blt d N with
    | true =>
      refine ⟨fr.set d v, fun KK => ?_, hf.set (by simpa [Nat.blt_eq] using hb) hv, rfl⟩
      simp only [putK, hb, forceT_eq]
    | false =>
      refine ⟨fr, fun KK => by simp only [putK, hb], ?_, rfl⟩
      have : a.tmps.size ≤ d := by
        rw [hf.size]
        by_cases h : d < N
        · have : Nat.blt d N = true := by rw [Nat.blt_eq]; exact h
          rw [this] at hb; cases hb
        · omega
      show FR ι _ N fr (a.tmps.setIfInBounds d x)
      rw [Array.setIfInBounds_eq_of_size_le this]
      exact hf
theorem nthO_eq : ∀ (l : List Oper) (n : Nat), nthO l n = l[n]?
  | [], n => by cases n <;> rfl
  | a :: l, 0 => rfl
  | a :: l, n + 1 => by simp [nthO, nthO_eq l n]
theorem wants_sound (hf : FR ι (depthOf N) N fr a.tmps) (ops : Array Oper) (o : Oper) {b : Bool} (h : wantsV N ops.toList fr o.guard = some b) : Region.wanted o (yielded ops a.tmps) = b := by
  unfold Region.wanted
  unfold wantsV at h
  split at h
  · rename_i hg
    cases h
    rw [hg]
  · rename_i j c hg
    rw [hg]
    dsimp only
    split at h
    · rename_i o' ho
      rw [nthO_eq] at ho
      split at h
      · rename_i d hd
        split at h
        · rename_i hb
          have hb : d < N := by simpa [Nat.blt_eq] using hb
          obtain ⟨x, e, r⟩ := hf.at_ d hb
          have hy : yielded ops a.tmps j = match (some x : Option Value) with | some (.bool b) => some b | _ => none := by
            unfold yielded
            rw [← Array.getElem?_toList, ho]
            simp only [Option.bind_some, hd, e]
            cases x <;> rfl
          split at h
          · rename_i c' hc
            rw [hc] at r
            simp only [VR] at r
            subst r
            dsimp only at hy
            cases h
            rw [hy]
            cases c' <;> cases c <;> rfl
          · rename_i hc
            rw [hc] at r
            simp only [VR] at r
            obtain ⟨cs, _, r⟩ := r
            subst r
            dsimp only at hy
            cases h
            rw [hy]
            rfl
          · cases h
        · cases h
      · cases h
    · cases h
theorem callFunc_run (hC : C.Ok P) {f : Nat} {fn : Func} (hf : C.F.at_ f = some fn) (xs : Array Value) : (callFunc f xs).run P w = .ok (.enter f xs) w := by
  obtain ⟨h1, h2, h3⟩ := hC.F f fn hf
  have h4 : ¬ fn.body = none := by intro e; rw [e] at h3; cases h3
  have h5 : ¬ fn.name = "runtime.NumGoroutine" := by simpa using h2
  unfold callFunc
  simp [go_sem, h1, h4, h5]
theorem resV_sound (hC : C.Ok P) (r : Rep K w0 ι h w) (hf : FR ι (depthOf N) N fr a.tmps) {g : ResultVar → Sem Value} (g1 : ∀ t, g (.tmp t) = pure (a.tmps.getD t undef)) (g2 : ∀ b t, g (.cell b t) = do loadVar t (← asAddr (a.tmps.getD b undef))) :
    ∀ (l : List ResultVar) (vs : List V), resV C N fr h l = some vs → ∃ ys, (l.mapM g).run P w = .ok ys w ∧ VRs ι vs ys
  | [], vs, e => by
    cases e
    exact ⟨[], rfl, VRs.nil_iff.2 rfl⟩
  | .tmp t :: l, vs, e => by
    unfold resV at e
    split at e
    · rename_i l' hb hl
      cases e
      have hb : t < N := by simpa [Nat.blt_eq] using hb
      obtain ⟨x, e1, r1⟩ := hf.at_ t hb
      obtain ⟨ys, e2, r2⟩ := resV_sound hC r hf g1 g2 l _ hl
      refine ⟨x :: ys, ?_, VRs.cons_iff.2 ⟨_, _, r1, r2, rfl⟩⟩
      rw [List.mapM_cons, g1]
      simp only [Sem.run_bind, Sem.run_pure, Result.andThen_ok, e2, Array.getD_eq_getD_getElem?, e1, Option.getD_some]
    · cases e
  | .cell b t :: l, vs, e => by
    unfold resV at e
    split at e
    · rename_i l' hb hl
      have hb : b < N := by simpa [Nat.blt_eq] using hb
      obtain ⟨x, e1, r1⟩ := hf.at_ b hb
      obtain ⟨ys, e2, r2⟩ := resV_sound hC r hf g1 g2 l _ hl
      split at e
      · rename_i bl o hp
        split at e
        · rename_i m bt gg ti hm hti
          split at e
          · rename_i v hv
            cases e
            rw [hp] at r1
            obtain ⟨c, hbl, hx⟩ := ptr_out r1
            subst hx
            obtain ⟨cs, more, q1, q2, _, _⟩ := r.cells_at hbl hm
            obtain ⟨y, y1, y2⟩ := loadV_sound (hC.T _ _ hti) hv q2 q1
            refine ⟨y :: ys, ?_, VRs.cons_iff.2 ⟨_, _, y2, r2, rfl⟩⟩
            have y1 : (loadVar t ⟨c, o, none⟩).run P w = .ok y w := by
              simpa [Instr.loadAt, Instr.sureAddr, Sem.run_bind, Sem.run_pure, Result.andThen_ok] using y1
            rw [List.mapM_cons, g2]
            simp only [Sem.run_bind, Sem.run_pure, Result.andThen_ok, e2, Array.getD_eq_getD_getElem?, e1, Option.getD_some, asAddr, y1]
          · cases e
        · cases e
      · cases e
    · cases e
theorem oneOf_sound {vs : List V} {ys : List Value} (hv : VRs ι vs ys) : VR ι (oneOf vs) (if h : ys.toArray.size = 1 then ys.toArray[0] else .tuple ys.toArray) := by
  have hl := hv.length
  match vs, hv with
  | [], hv =>
    have := VRs.nil_iff.1 hv
    subst this
    simp only [oneOf, VR]
    exact ⟨[], VRs.nil_iff.2 rfl, rfl⟩
  | [v], hv =>
    obtain ⟨x, r, h1, h2, rfl⟩ := VRs.cons_iff.1 hv
    have := VRs.nil_iff.1 h2
    subst this
    exact h1
  | v :: u :: l, hv =>
    have : ¬ ys.toArray.size = 1 := by simp at hl ⊢; omega
    rw [dif_neg this]
    simp only [oneOf, VR]
    exact ⟨ys, hv, rfl⟩
theorem results_aux (hC : C.Ok P) (r : Rep K w0 ι h w) (hf : FR ι (depthOf N) N fr a.tmps) {g : ResultVar → Sem Value} (g1 : ∀ t, g (.tmp t) = pure (a.tmps.getD t undef)) (g2 : ∀ b t, g (.cell b t) = do loadVar t (← asAddr (a.tmps.getD b undef)))
    (l : List ResultVar) (vs : List V) (hv : resV C N fr h l = some vs) : ∃ y, (((List.mapM g l).run P w).andThen fun a w' => Sem.run P (pure a.toArray) w').andThen (fun a w' => Sem.run P (pure (if h : a.size = 1 then a[0] else Value.tuple a)) w') = .ok y w ∧ VR ι (oneOf vs) y := by
  obtain ⟨ys, e, hys⟩ := resV_sound hC r hf g1 g2 _ _ hv
  refine ⟨_, ?_, oneOf_sound hys⟩
  rw [e]
  rfl
theorem results_sound (hC : C.Ok P) (r : Rep K w0 ι h w) (hf : FR ι (depthOf N) N fr a.tmps) {fn : Func} {vs : List V} (hv : resV C N fr h fn.results.toList = some vs) : ∃ y, (results fn a.tmps).run P w = .ok y w ∧ VR ι (oneOf vs) y := by
  unfold results
  rw [Array.mapM_eq_mapM_toList, Sem.run_bind, map_eq_pure_bind, Sem.run_bind]
  exact results_aux hC r hf (fun _ => rfl) (fun _ _ => rfl) _ _ hv
end
end Go.Proofs.Ytamhijbnmhdhbaa.E
