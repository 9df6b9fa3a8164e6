/- The check's steps are the program's. No condition. -/
import Derived.Test.YtjncoloedakpoaaDoorChain
import Derived.Laws.Concat
namespace Go.Proofs.YtjncoloedakpoaaDoor
open Go.ChangeShapes Go.WideShapes Go.ChangeAt Go.RowKit Go.Deep

variable {P : Program} {β : Nat → Nat × Nat} {C : World → Prop} {S : St} {a : Act} {T : Tab}

def OrgOk (G : List (Nat × Bool)) (org : Option Nat) (sv : SV) : Prop := ∀ g, org = some g → ∃ c, sv = .val (.bool c) ∧ lookG G g = some c

theorem opnd_eval (inv : Inv β S a) {gs : List (Nat × Bool)} (hg : holds S.G gs = true) {x : Operand} {org : Option Nat} {sv : SV} (h : opnd S gs x = some (org, sv)) : a.eval x = sv.den β ∧ OrgOk S.G org sv := by
  cases x with
  | tmp t =>
    simp only [opnd] at h
    split at h
    · rename_i e he
      split at h
      · rename_i hs
        cases h
        have h1 := inv.at_ t e he
        rw [holds_sub (subG_sub hs) hg, if_pos rfl] at h1
        exact ⟨by simp only [Act.eval, Array.getD_eq_getD_getElem?, h1]; rfl, inv.org t e he⟩
      · cases h
    · cases h
  | const v => simp only [opnd] at h; cases h; exact ⟨rfl, fun g hg => by cases hg⟩
  | func f => simp only [opnd] at h; cases h; exact ⟨rfl, fun g hg => by cases hg⟩
  | global g => cases h

theorem opnds_eval (inv : Inv β S a) {gs : List (Nat × Bool)} (hg : holds S.G gs = true) : ∀ {l : List Operand} {r : List SV}, opnds S gs l = some r → l.map a.eval = r.map (SV.den β)
  | [], r, h => by cases h; rfl
  | x :: l, r, h => by
    unfold opnds at h
    split at h
    · rename_i p hp
      split at h
      · rename_i r' hr
        cases h
        rw [List.map_cons, List.map_cons, (opnd_eval inv hg hp).1, opnds_eval inv hg hr]
      · cases h
    · cases h

theorem wrap_is0 (n : Int) : IntKind.i64.wrap n = wrap64 n := by
  rw [IntKind.wrap_i64]
  unfold wrap64
  rfl

theorem strB_is (a b : ByteArray) : strB a b = (a.toList == b.toList) := by
  unfold strB
  split
  · rw [show (⟨⟨[]⟩⟩ : ByteArray).toList = [] by unfold ByteArray.toList ByteArray.toList.loop; rfl]
    cases a.toList <;> rfl
  · rfl

theorem binV_sound (hT : T.Ok P β C) {op : BinOp} {t : TypeId} {u v r : Value} (h : binV T op t u v = some r) (x y : Operand) (w : World) : ((do eqGuard op t x y u v; binOp op t u v) : Sem Value).run P w = .ok r w := by
  unfold binV at h
  split at h
  · split at h
    all_goals first | cases h | skip
    all_goals simp [go_sem, wrap_is0]
    all_goals rfl
  · split at h
    all_goals first | cases h | skip
    all_goals simp [go_sem]
    all_goals rfl
  · split at h
    · split at h
      · rename_i hm
        cases h
        simp [go_sem, run_eql_bool _ _ _ _ (hT.bT' _ (memN_mem hm))]
      · cases h
    · cases h
  · split at h
    · cases h
      simp [go_sem, strB_is]
    · cases h
      simp [go_sem, strB_is]
    · cases h
  · split at h
    · split at h
      · rename_i hm
        cases h
        exact hT.s.two t (memN_mem hm) _ _ _ _ w x y
      · cases h
    · cases h
  · cases h

def OutOk (P : Program) (β : Nat → Nat × Nat) (C : World → Prop) (G : List (Nat × Bool)) (a : Act) (o : Oper) : Out → Prop
  | .v org sv => (∀ w, (memOp o.op = true → C w) → (execOp a.eval o).run P w = .ok (.value (sv.den β)) w) ∧ OrgOk G org sv
  | .call f args _ => ∀ fn, P.funcs[f]? = some fn → (fn.name == "runtime.NumGoroutine") = false → fn.body.isNone = false → ∀ w, (execOp a.eval o).run P w = .ok (.enter f (args.map (SV.den β)).toArray) w
  | .cat x y => x.size + y.size ≤ 9223372036854775807 → ∀ w, (execOp a.eval o).run P w = .ok (.value (.string (x ++ y))) w
  | .idx t x i sv => ∀ w, (Instr.indexAt t x i).run P w = .ok (sv.den β) w → (execOp a.eval o).run P w = .ok (.value (sv.den β)) w

theorem no_org {G : List (Nat × Bool)} {sv : SV} : OrgOk G none sv := fun g hg => by cases hg

set_option maxHeartbeats 1000000 in
theorem outOf_sound (hT : T.Ok P β C) (inv : Inv β S a) {gs : List (Nat × Bool)} (hg : holds S.G gs = true) {d : Nat} {o : Oper} {out : Out} (h : outOf T S gs d o.op = some out) : OutOk P β C S.G a o out := by
  obtain ⟨dst, op, ty, pos, after, guard⟩ := o
  dsimp only at h
  unfold outOf at h
  split at h
  · split at h
    · rename_i p hp
      cases h
      have := opnd_eval inv hg hp
      exact ⟨fun w _ => by rw [BigFrame.run_move _ rfl, this.1], this.2⟩
    · cases h
  · split at h
    · rename_i p hp
      cases h
      have := opnd_eval inv hg hp
      exact ⟨fun w _ => by rw [BigFrame.run_assign _ rfl, this.1], this.2⟩
    · cases h
  · -- pick
    rename_i c x y
    split at h
    · rename_i g cb hc
      split at h
      · rename_i ox xb hx
        split at h
        · rename_i oy yb hy
          split at h
          rotate_left
          · cases h
          rename_i r hr
          cases h
          refine ⟨fun w _ => ?_, no_org⟩
          have ec := opnd_eval inv hg hc
          obtain ⟨c1, hc1, hc2⟩ := ec.2 g rfl
          cases hc1
          have e1 := ec.1
          simp only [SV.den] at e1 ⊢
          rw [← hr]
          have key : (if cb then a.eval x else a.eval y) = pickV cb x y xb yb := by
            cases cb
            · have hg2 : holds S.G ((g, false) :: gs) = true := by unfold holds at hg ⊢; simp [hc2, hg]
              have ey := (opnd_eval inv hg2 hy).1
              simp only [Bool.false_eq_true, if_false, ey, SV.den]
              unfold pickV
              split
              · rename_i hk
                cases hy
                rfl
              · split
                · rfl
                · rfl
            · have hg2 : holds S.G ((g, true) :: gs) = true := by unfold holds at hg ⊢; simp [hc2, hg]
              have ex := (opnd_eval inv hg2 hx).1
              simp only [if_true, ex, SV.den]
              unfold pickV
              split
              · rfl
              · split
                · cases hx
                  rfl
                · rfl
          simp [execOp, e1, asBool, key]
        · cases h
      · cases h
    · cases h
  · -- nilCheck
    split at h
    · rename_i k off hx
      cases h
      refine ⟨fun w _ => ?_, no_org⟩
      have e1 := (opnd_eval inv hg hx).1
      simp only [SV.den] at e1 ⊢
      simp [execOp, e1]
    · cases h
  · -- fieldAddr
    split at h
    · rename_i k off hx
      split at h
      · rename_i e he
        cases h
        refine ⟨fun w _ => ?_, no_org⟩
        have e1 := (opnd_eval inv hg hx).1
        have := hT.fld' _ (lookF_mem he) (β k).1 ((β k).2 + off) w
        simp only [SV.den] at e1 ⊢
        rw [Nat.add_assoc] at this
        simp [execOp, e1, this]
      · cases h
    · cases h
  · -- load
    split at h
    · rename_i k off hx
      split at h
      · rename_i v hv
        cases h
        refine ⟨fun w hw => ?_, no_org⟩
        have e1 := (opnd_eval inv hg hx).1
        have := loadV_sound hT hv w (hw rfl)
        simp only [SV.den] at e1 ⊢
        simp [execOp, e1, this]
      · cases h
    · cases h
  · -- binOp
    split at h
    · rename_i u hx
      split at h
      · rename_i v hy
        have e1 := (opnd_eval inv hg hx).1
        have e2 := (opnd_eval inv hg hy).1
        simp only [SV.den] at e1 e2
        split at h
        · rename_i p hp
          cases h
          intro hs w
          unfold catV at hp
          split at hp
          · split at hp
            · cases hp
              simp only [execOp, e1, e2]
              have : (Op.stringOp .add _ _).run P w = .ok (.string (_ ++ _)) w := run_string_add_sum w _ _ hs
              simp [go_sem, this]
            · cases hp
          · cases hp
        · split at h
          · rename_i r hr
            cases h
            refine ⟨fun w _ => ?_, no_org⟩
            simp only [SV.den]
            have := fun x y => binV_sound hT hr x y w
            simp only [execOp, e1, e2]
            rw [Sem.run_bind, this]
            rfl
          · cases h
      · cases h
    · cases h
  · -- convert
    split at h
    · rename_i n hx
      split at h
      · rename_i hp
        cases h
        refine ⟨fun w _ => ?_, no_org⟩
        have e1 := (opnd_eval inv hg hx).1
        have := (List.map_inj_left.1 (hT.s.cv n w)) _ (pairN_mem hp)
        dsimp only at this
        simp only [SV.den] at e1 ⊢
        simp only [execOp, e1]
        rw [Sem.run_bind, this]
        rfl
      · cases h
    · cases h
  · -- not
    split at h
    · rename_i b hx
      cases h
      refine ⟨fun w _ => ?_, no_org⟩
      have e1 := (opnd_eval inv hg hx).1
      simp only [SV.den] at e1 ⊢
      simp only [execOp, e1]
      simp [go_sem, Op.unary]
    · cases h
  · -- len
    rename_i x t
    split at h
    · rename_i b n c hx
      split at h
      · rename_i ht
        cases h
        refine ⟨fun w _ => ?_, no_org⟩
        have e1 := (opnd_eval inv hg hx).1
        obtain ⟨e, he⟩ := hT.slT' _ (memN_mem ht)
        simp only [SV.den] at e1 ⊢
        have he' : P.underlying t = some (.slice (P.elem t)) := by
          have : P.elem t = e := by unfold Program.elem; rw [he]
          rw [this]; exact he
        have hl := run_len_slice (P := P) (w := w) t ty b n c he'
        simp only [execOp, resolve, List.map_toArray, List.map_cons, List.map_nil, e1]
        simp only [pure_bind, invoke, builtin]
        rw [Sem.run_bind, show (⟨[t]⟩ : Array TypeId) = #[t] from rfl, hl]
        rfl
      · cases h
    · rename_i s hx
      split at h
      · rename_i ht
        cases h
        refine ⟨fun w _ => ?_, no_org⟩
        have e1 := (opnd_eval inv hg hx).1
        simp only [SV.den] at e1 ⊢
        have hl := run_len_string (P := P) w t ty s (hT.stT' _ (memN_mem ht))
        simp only [execOp, resolve, List.map_toArray, List.map_cons, List.map_nil, e1]
        simp only [pure_bind, invoke, builtin]
        rw [Sem.run_bind, show (⟨[t]⟩ : Array TypeId) = #[t] from rfl, hl]
        rfl
      · cases h
    · cases h
  · -- indexAddr
    split at h
    · rename_i u hx
      split at h
      · rename_i v hy
        split at h
        · rename_i sv hs
          cases h
          intro w hr
          have e1 := (opnd_eval inv hg hx).1
          have e2 := (opnd_eval inv hg hy).1
          simp only [SV.den] at e1 e2
          simp only [execOp, e1, e2]
          rw [Sem.run_bind, hr]
          rfl
        · cases h
      · cases h
    · cases h
  · -- call
    rename_i f args argTypes
    split at h
    · rename_i l hl
      split at h
      · rename_i v hv
        cases h
        intro fn h1 h2 h3 w
        have e1 := opnds_eval inv hg hl
        have e2 : args.map a.eval = (l.map (SV.den β)).toArray := by
          rw [← e1, ← Array.toList_map]
        have h2' : fn.name ≠ "runtime.NumGoroutine" := by simpa using h2
        have h3' : fn.body ≠ none := by intro e; rw [e] at h3; cases h3
        simp only [execOp, resolve, e2]
        simp [Act.eval, Deferred.ofValue, invoke, callFunc, h1, h2', h3']
      · cases h
    · cases h
  · cases h
end Go.Proofs.YtjncoloedakpoaaDoor
