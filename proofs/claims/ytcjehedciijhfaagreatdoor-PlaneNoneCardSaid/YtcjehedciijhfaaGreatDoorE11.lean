/- The executor's structs compared, and maps. No condition. -/
import Derived.Test.YtcjehedciijhfaaGreatDoorE10
import Derived.Laws.StructEq
import Derived.MapKept
namespace Go.Proofs.YtcjehedciijhfaaGreatDoor.E
open Go.ChangeShapes Go.WideShapes Go.ChangeAt Go.RowKit Go.Deep

/-! ### Are two values the same? -/
noncomputable def eqFs (T : Tb TI) (rec : Nat → V → V → Option Bool) (l m : List V) : List (Nat × Nat × Nat) → Option Bool
  | [] => some true
  | p :: r => match T.at_ p.2.2 with
    | none => none
    | some tf => match loadV tf l p.1, loadV tf m p.1 with
      | some a, some b => match rec p.2.2 a b with
        | some true => eqFs T rec l m r
        | some false => some false
        | none => none
      | _, _ => none
noncomputable def eqV (T : Tb TI) : Nat → Nat → V → V → Option Bool
  | 0, _, _, _ => none
  | n + 1, t, x, y => match T.at_ t with
    | none => none
    | some ti => match x, y with
      | .int k a, .int j b => match ti.d, kEq k j with
        | .int _, true => some (iEq a b)
        | _, _ => none
      | .str a, .str b => match ti.d with
        | .str => some (sEq a b)
        | _ => none
      | .bool a, .bool b => match ti.d with
        | .bool => some (match a with | true => b | false => !b)
        | _ => none
      | .agg l, .agg m => match ti.eq, ti.d with
        | true, .st fs => eqFs T (eqV T n) l m fs
        | _, _ => none
      | _, _ => none
section
variable {P : Program} {K : Ker} {w0 w : World} {ι : I} {h : H}
theorem eqOk_out {t : TypeId} {ti : TI} (ht : tiOf P t = some ti) (he : ti.eq = true) {F : Array Field} (hF : P.underlying t = some (.struct F)) : P.stoodInHeld t = false ∧ P.eqGuardType P.depth t = false ∧ ∀ f ∈ F.toList, f.name ≠ "_" := by
  obtain ⟨i, u, z, hi, hu, hz, e, _⟩ := ti_some ht
  rw [hF] at hu
  cases hu
  rw [e] at he
  have he : eqOk P t (.struct F) = true := he
  simp only [eqOk] at he
  split at he
  · rename_i h1 h2
    refine ⟨h1, h2, fun f hf => ?_⟩
    have := List.all_eq_true.1 he f hf
    simpa using this
  · cases he
theorem eqFs_sound {T : Tb TI} (hT : TOk P T) {rec : Nat → V → V → Option Bool} {d : Nat} (hrec : ∀ t a b c x y, rec t a b = some c → VR ι a x → VR ι b y → (Op.equalIn d t x y).run P w = .ok c w) {l m : List V} {xs ys : List Value} (hl : VRs ι l xs) (hm : VRs ι m ys) :
    ∀ (fs : List (Nat × Nat × Nat)) (F : List Field) (b : Bool), F.mapM (fieldOf P) = some fs → (∀ f ∈ F, f.name ≠ "_") → eqFs T rec l m fs = some b → (Op.eqFields d xs.toArray ys.toArray F).run P w = .ok b w
  | fs, [], b, hF, _, he => by
    simp at hF
    subst hF
    cases he
    simp [Op.eqFields]
  | fs, f :: F, b, hF, hn, he => by
    rw [List.mapM_cons] at hF
    cases h1 : fieldOf P f with
    | none => simp [h1] at hF
    | some p =>
      cases h2 : F.mapM (fieldOf P) with
      | none => simp [h1, h2] at hF
      | some r =>
        simp [h1, h2] at hF
        subst hF
        obtain ⟨p1, p2, p3⟩ := p
        obtain ⟨e1, e2, _⟩ := field_size h1 w
        unfold eqFs at he
        split at he
        · cases he
        rename_i tf htf
        split at he
        rotate_left
        · cases he
        rename_i a c ha hc
        have hti := hT _ _ htf
        dsimp only at hti ha hc
        obtain ⟨x, x1, x2⟩ := part_sound (w := w) hti hl ha
        obtain ⟨y, y1, y2⟩ := part_sound (w := w) hti hm hc
        unfold Op.eqFields
        rw [if_pos (hn f (by simp)), e1, e2]
        simp only [Sem.run_bind, x1, y1, Result.andThen_ok]
        split at he
        · rename_i hr
          rw [hrec _ _ _ _ _ _ hr x2 y2]
          simp only [Result.andThen_ok, Bool.not_true, Bool.false_eq_true, if_false]
          exact eqFs_sound hT hrec hl hm r F b h2 (fun f hf => hn f (by simp [hf])) he
        · rename_i hr
          cases he
          rw [hrec _ _ _ _ _ _ hr x2 y2]
          simp
        · cases he
theorem eqV_sound {T : Tb TI} (hT : TOk P T) : ∀ (n t : Nat) (a b : V) (c : Bool) (x y : Value) (d : Nat), eqV T n t a b = some c → VR ι a x → VR ι b y → (Op.equalIn (d + n) t x y).run P w = .ok c w
  | 0, _, _, _, _, _, _, _, h, _, _ => by cases h
  | n + 1, t, a, b, c, x, y, d, h, hx, hy => by
    unfold eqV at h
    split at h
    · cases h
    rename_i ti hti
    have ht := hT _ _ hti
    split at h
    · split at h
      · rename_i hd hk
        cases h
        have hk := kEq_eq hk
        subst hk
        simp only [VR] at hx hy
        subst hx hy
        rw [← Nat.add_assoc, run_equalIn_int w _ _ _ _ _ _ (under_int ht hd), iEq_eq]
      · cases h
    · split at h
      · rename_i hd
        cases h
        simp only [VR] at hx hy
        obtain ⟨h1, rfl⟩ := hx
        obtain ⟨h2, rfl⟩ := hy
        rw [← Nat.add_assoc, run_equalIn_string w _ _ _ _ (under_str ht hd), sEq_eq h1 h2]
      · cases h
    · rename_i a b
      split at h
      · rename_i hd
        cases h
        simp only [VR] at hx hy
        subst hx hy
        rw [← Nat.add_assoc, run_equalIn_bool' w _ _ _ _ (under_bool ht hd)]
        cases a <;> cases b <;> rfl
      · cases h
    · split at h
      · rename_i l m fs he hd
        simp only [VR] at hx hy
        obtain ⟨xs, h1, rfl⟩ := hx
        obtain ⟨ys, h2, rfl⟩ := hy
        obtain ⟨F, hF, hfs⟩ := under_st ht hd
        obtain ⟨q1, _, q3⟩ := eqOk_out ht he hF
        have hfo : P.fieldsOf t = F := by unfold Program.fieldsOf; rw [hF]
        rw [← Nat.add_assoc, run_equalIn_struct w _ _ _ _ (by rw [hfo]; exact hF) q1, hfo]
        exact eqFs_sound hT (fun t a b c x y h hx hy => eqV_sound hT n t a b c x y d h hx hy) h1 h2 fs F.toList c hfs q3 h
      · cases h
    · cases h

/-! ### Keys -/
noncomputable def keyFs (T : Tb TI) (rec : Nat → V → Bool) (l : List V) : List (Nat × Nat × Nat) → Bool
  | [] => true
  | p :: r => match T.at_ p.2.2 with
    | none => false
    | some tf => match loadV tf l p.1 with
      | some a => match rec p.2.2 a with
        | true => keyFs T rec l r
        | false => false
      | none => false
noncomputable def keyV (T : Tb TI) : Nat → Nat → V → Bool
  | 0, _, _ => false
  | n + 1, t, x => match T.at_ t with
    | none => false
    | some ti => match x, ti.d with
      | .int _ _, .int _ => true
      | .str _, .str => true
      | .bool _, .bool => true
      | .agg l, .st fs => keyFs T (keyV T n) l fs
      | _, _ => false
theorem keyV_sound {T : Tb TI} (hT : TOk P T) (em : Bool) : ∀ (n t : Nat) (a : V) (x : Value) (d : Nat), keyV T n t a = true → VR ι a x → (Instr.checkKey em (d + n) t x).run P w = .ok () w
  | 0, _, _, _, _, h, _ => by cases h
  | n + 1, t, a, x, d, h, hx => by
    unfold keyV at h
    split at h
    · cases h
    rename_i ti hti
    have ht := hT _ _ hti
    split at h
    · rename_i hd
      simp only [VR] at hx
      subst hx
      rw [← Nat.add_assoc]
      simp [Instr.checkKey, run_underlying (under_int ht hd)]
    · rename_i hd
      simp only [VR] at hx
      obtain ⟨_, rfl⟩ := hx
      rw [← Nat.add_assoc]
      simp [Instr.checkKey, run_underlying (under_str ht hd)]
    · rename_i hd
      simp only [VR] at hx
      subst hx
      rw [← Nat.add_assoc]
      simp [Instr.checkKey, run_underlying (under_bool ht hd)]
    · rename_i l fs hd
      simp only [VR] at hx
      obtain ⟨xs, h1, rfl⟩ := hx
      obtain ⟨F, hF, hfs⟩ := under_st ht hd
      rw [← Nat.add_assoc]
      simp only [Instr.checkKey, Sem.run_bind, run_underlying hF, Result.andThen_ok]
      rw [← Array.forIn_toList]
      generalize F.toList = L at hfs ⊢
      clear hF hd hti ht
      induction L generalizing fs with
      | nil => simp
      | cons f F ih =>
        rw [List.mapM_cons] at hfs
        cases h1' : fieldOf P f with
        | none => simp [h1'] at hfs
        | some p =>
          cases h2 : F.mapM (fieldOf P) with
          | none => simp [h1', h2] at hfs
          | some r =>
            simp [h1', h2] at hfs
            subst hfs
            obtain ⟨p1, p2, p3⟩ := p
            obtain ⟨e1, e2, _⟩ := field_size h1' w
            unfold keyFs at h
            split at h
            · cases h
            rename_i tf htf
            split at h
            rotate_left
            · cases h
            rename_i a ha
            split at h
            rotate_left
            · cases h
            rename_i hk
            obtain ⟨x, x1, x2⟩ := part_sound (w := w) (hT _ _ htf) h1 ha
            have hck := keyV_sound hT em n _ _ _ d hk x2
            dsimp only at x1 hck
            have ih' := ih r h h2
            rw [List.forIn_cons]
            by_cases hn : f.name = "_"
            · simp only [hn, ne_eq, not_true_eq_false, if_false, Sem.run_bind, Sem.run_pure, Result.andThen_ok]
              exact ih'
            · simp only [hn, ne_eq, not_false_eq_true, if_true, Sem.run_bind, e1, e2, x1, hck, Sem.run_pure, Result.andThen_ok]
              exact ih'
    · cases h
end
end Go.Proofs.YtcjehedciijhfaaGreatDoor.E
