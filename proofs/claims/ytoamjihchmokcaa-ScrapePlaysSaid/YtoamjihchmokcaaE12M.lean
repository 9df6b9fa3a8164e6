/- The executor's structs compared, and maps. No condition. || The executor's maps: looked up, written, gone through. No condition. -/
import Derived.Test.YtoamjihchmokcaaE10
import Derived.Laws.StructEq
import Derived.MapKept
namespace Go.Proofs.Ytoamjihchmokcaa.E
open Go.ChangeShapes Go.WideShapes Go.ChangeAt Go.RowKit Go.Deep

noncomputable def eqFs (T : Tb TI) (rec : Nat → V → V → Option Bool) (l m : List V) : List (Nat × Nat × Nat) → Option Bool
  | [] => some true
  | p :: r => match T.at_ p.2.2 with
    | none => none
    | some tf => match loadV tf l p.1, loadV tf m p.1 with
      | some a, some b => match rec p.2.2 a b with
        | some true => eqFs T rec l m r
        | some false => some false
        | none => none
      | _, _ => none
noncomputable def eqV (T : Tb TI) : Nat → Nat → V → V → Option Bool
  | 0, _, _, _ => none
  | n + 1, t, x, y => match T.at_ t with
    | none => none
    | some ti => match x, y with
      | .int k a, .int j b => match ti.d, kEq k j with
        | .int _, true => some (iEq a b)
        | _, _ => none
      | .str a, .str b => match ti.d with
        | .str => some (sEq a b)
        | _ => none
      | .bool a, .bool b => match ti.d with
        | .bool => some (match a with | true => b | false => !b)
        | _ => none
      | .agg l, .agg m => match ti.eq, ti.d with
        | true, .st fs => eqFs T (eqV T n) l m fs
        | _, _ => none
      | _, _ => none
section
variable {P : Program} {K : Ker} {w0 w : World} {ι : I} {h : H}
theorem eqOk_out {t : TypeId} {ti : TI} (ht : tiOf P t = some ti) (he : ti.eq = true) {F : Array Field} (hF : P.underlying t = some (.struct F)) : P.stoodInHeld t = false ∧ P.eqGuardType P.depth t = false ∧ ∀ f ∈ F.toList, f.name ≠ "_" := by
  obtain ⟨i, u, z, hi, hu, hz, e, _⟩ := ti_some ht
  rw [hF] at hu
  cases hu
  rw [e] at he
  have he : eqOk P t (.struct F) = true := he
  simp only [eqOk] at he
  split at he
  · rename_i h1 h2
    refine ⟨h1, h2, fun f hf => ?_⟩
    have := List.all_eq_true.1 he f hf
    simpa using this
  · cases he
theorem eqFs_sound {T : Tb TI} (hT : TOk P T) {rec : Nat → V → V → Option Bool} {d : Nat} (hrec : ∀ t a b c x y, rec t a b = some c → VR ι a x → VR ι b y → (Op.equalIn d t x y).run P w = .ok c w) {l m : List V} {xs ys : List Value} (hl : VRs ι l xs) (hm : VRs ι m ys) :
    ∀ (fs : List (Nat × Nat × Nat)) (F : List Field) (b : Bool), F.mapM (fieldOf P) = some fs → (∀ f ∈ F, f.name ≠ "_") → eqFs T rec l m fs = some b → (Op.eqFields d xs.toArray ys.toArray F).run P w = .ok b w
  | fs, [], b, hF, _, he => by
    simp at hF
    subst hF
    cases he
    simp [Op.eqFields]
  | fs, f :: F, b, hF, hn, he => by
    rw [List.mapM_cons] at hF
    cases h1 : fieldOf P f with
    | none => simp [h1] at hF
    | some p =>
      cases h2 : F.mapM (fieldOf P) with
      | none => simp [h1, h2] at hF
      | some r =>
        simp [h1, h2] at hF
        subst hF
        obtain ⟨p1, p2, p3⟩ := p
        obtain ⟨e1, e2, _⟩ := field_size h1 w
        unfold eqFs at he
        split at he
        · cases he
        rename_i tf htf
        split at he
        rotate_left
        · cases he
        rename_i a c ha hc
        have hti := hT _ _ htf
        dsimp only at hti ha hc
        obtain ⟨x, x1, x2⟩ := part_sound (w := w) hti hl ha
        obtain ⟨y, y1, y2⟩ := part_sound (w := w) hti hm hc
        unfold Op.eqFields
        rw [if_pos (hn f (by simp)), e1, e2]
        simp only [Sem.run_bind, x1, y1, Result.andThen_ok]
        split at he
        · rename_i hr
          rw [hrec _ _ _ _ _ _ hr x2 y2]
          simp only [Result.andThen_ok, Bool.not_true, Bool.false_eq_true, if_false]
          exact eqFs_sound hT hrec hl hm r F b h2 (fun f hf => hn f (by simp [hf])) he
        · rename_i hr
          cases he
          rw [hrec _ _ _ _ _ _ hr x2 y2]
          simp
        · cases he
theorem eqV_sound {T : Tb TI} (hT : TOk P T) : ∀ (n t : Nat) (a b : V) (c : Bool) (x y : Value) (d : Nat), eqV T n t a b = some c → VR ι a x → VR ι b y → (Op.equalIn (d + n) t x y).run P w = .ok c w
  | 0, _, _, _, _, _, _, _, h, _, _ => by cases h
  | n + 1, t, a, b, c, x, y, d, h, hx, hy => by
    unfold eqV at h
    split at h
    · cases h
    rename_i ti hti
    have ht := hT _ _ hti
    split at h
    · split at h
      · rename_i hd hk
        cases h
        have hk := kEq_eq hk
        subst hk
        simp only [VR] at hx hy
        subst hx hy
        rw [← Nat.add_assoc, run_equalIn_int w _ _ _ _ _ _ (under_int ht hd), iEq_eq]
      · cases h
    · split at h
      · rename_i hd
        cases h
        simp only [VR] at hx hy
        obtain ⟨h1, rfl⟩ := hx
        obtain ⟨h2, rfl⟩ := hy
        rw [← Nat.add_assoc, run_equalIn_string w _ _ _ _ (under_str ht hd), sEq_eq h1 h2]
      · cases h
    · rename_i a b
      split at h
      · rename_i hd
        cases h
        simp only [VR] at hx hy
        subst hx hy
        rw [← Nat.add_assoc, run_equalIn_bool' w _ _ _ _ (under_bool ht hd)]
        cases a <;> cases b <;> rfl
      · cases h
    · split at h
      · rename_i l m fs he hd
        simp only [VR] at hx hy
        obtain ⟨xs, h1, rfl⟩ := hx
        obtain ⟨ys, h2, rfl⟩ := hy
        obtain ⟨F, hF, hfs⟩ := under_st ht hd
        obtain ⟨q1, _, q3⟩ := eqOk_out ht he hF
        have hfo : P.fieldsOf t = F := by unfold Program.fieldsOf; rw [hF]
        rw [← Nat.add_assoc, run_equalIn_struct w _ _ _ _ (by rw [hfo]; exact hF) q1, hfo]
        exact eqFs_sound hT (fun t a b c x y h hx hy => eqV_sound hT n t a b c x y d h hx hy) h1 h2 fs F.toList c hfs q3 h
      · cases h
    · cases h

noncomputable def keyFs (T : Tb TI) (rec : Nat → V → Bool) (l : List V) : List (Nat × Nat × Nat) → Bool
  | [] => true
  | p :: r => match T.at_ p.2.2 with
    | none => false
    | some tf => match loadV tf l p.1 with
      | some a => match rec p.2.2 a with
        | true => keyFs T rec l r
        | false => false
      | none => false
noncomputable def keyV (T : Tb TI) : Nat → Nat → V → Bool
  | 0, _, _ => false
  | n + 1, t, x => match T.at_ t with
    | none => false
    | some ti => match x, ti.d with
      | .int _ _, .int _ => true
      | .str _, .str => true
      | .bool _, .bool => true
      | .agg l, .st fs => keyFs T (keyV T n) l fs
      | _, _ => false
theorem keyV_sound {T : Tb TI} (hT : TOk P T) (em : Bool) : ∀ (n t : Nat) (a : V) (x : Value) (d : Nat), keyV T n t a = true → VR ι a x → (Instr.checkKey em (d + n) t x).run P w = .ok () w
  | 0, _, _, _, _, h, _ => by cases h
  | n + 1, t, a, x, d, h, hx => by
    unfold keyV at h
    split at h
    · cases h
    rename_i ti hti
    have ht := hT _ _ hti
    split at h
    · rename_i hd
      simp only [VR] at hx
      subst hx
      rw [← Nat.add_assoc]
      simp [Instr.checkKey, run_underlying (under_int ht hd)]
    · rename_i hd
      simp only [VR] at hx
      obtain ⟨_, rfl⟩ := hx
      rw [← Nat.add_assoc]
      simp [Instr.checkKey, run_underlying (under_str ht hd)]
    · rename_i hd
      simp only [VR] at hx
      subst hx
      rw [← Nat.add_assoc]
      simp [Instr.checkKey, run_underlying (under_bool ht hd)]
    · rename_i l fs hd
      simp only [VR] at hx
      obtain ⟨xs, h1, rfl⟩ := hx
      obtain ⟨F, hF, hfs⟩ := under_st ht hd
      rw [← Nat.add_assoc]
      simp only [Instr.checkKey, Sem.run_bind, run_underlying hF, Result.andThen_ok]
      rw [← Array.forIn_toList]
      generalize F.toList = L at hfs ⊢
      clear hF hd hti ht
      induction L generalizing fs with
      | nil => simp
      | cons f F ih =>
        rw [List.mapM_cons] at hfs
        cases h1' : fieldOf P f with
        | none => simp [h1'] at hfs
        | some p =>
          cases h2 : F.mapM (fieldOf P) with
          | none => simp [h1', h2] at hfs
          | some r =>
            simp [h1', h2] at hfs
            subst hfs
            obtain ⟨p1, p2, p3⟩ := p
            obtain ⟨e1, e2, _⟩ := field_size h1' w
            unfold keyFs at h
            split at h
            · cases h
            rename_i tf htf
            split at h
            rotate_left
            · cases h
            rename_i a ha
            split at h
            rotate_left
            · cases h
            rename_i hk
            obtain ⟨x, x1, x2⟩ := part_sound (w := w) (hT _ _ htf) h1 ha
            have hck := keyV_sound hT em n _ _ _ d hk x2
            dsimp only at x1 hck
            have ih' := ih r h h2
            rw [List.forIn_cons]
            by_cases hn : f.name = "_"
            · simp only [hn, ne_eq, not_true_eq_false, if_false, Sem.run_bind, Sem.run_pure, Result.andThen_ok]
              exact ih'
            · simp only [hn, ne_eq, not_false_eq_true, if_true, Sem.run_bind, e1, e2, x1, hck, Sem.run_pure, Result.andThen_ok]
              exact ih'
    · cases h
end
end Go.Proofs.Ytoamjihchmokcaa.E
namespace Go.Proofs.Ytoamjihchmokcaa.E
open Go.ChangeShapes Go.WideShapes Go.ChangeAt Go.RowKit Go.Deep Go.MapKept

abbrev Ent := V × V × Nat
noncomputable def findV (T : Tb TI) (kt : Nat) (k : V) : List Ent → Nat → Option (Option (Nat × V))
  | [], _ => some none
  | e :: r, i => match eqV T 5 kt k e.1 with
    | some true => some (some (i, e.2.1))
    | some false => findV T kt k r (i + 1)
    | none => none
section
variable {P : Program} {K : Ker} {w0 w : World} {ι : I} {h : H}
def FindR (ι : I) : Option (Nat × V) → Option (Nat × Value) → Prop
  | none, y => y = none
  | some p, y => ∃ x, y = some (p.1, x) ∧ VR ι p.2 x
theorem findAsk_sound {T : Tb TI} (hT : TOk P T) {kt : Nat} {k : V} {kx : Value} (hk : VR ι k kx) : ∀ (es : List Ent) (E : List MapEntry) (i : Nat) (r : Option (Nat × V)), findV T kt k es i = some r → ESR ι es E → ∃ y, (Instr.findAsking kt kx E i).run P w = .ok y w ∧ FindR ι r y
  | [], E, i, r, h, hE => by
    cases h
    cases hE
    exact ⟨none, by simp [Instr.findAsking], rfl⟩
  | e :: es, E, i, r, h, hE => by
    obtain ⟨k2, v2, q, h1, h2, h3, rfl⟩ := hE
    unfold findV at h
    split at h
    · rename_i he
      cases h
      have := eqV_sound (w := w) hT 5 kt k e.1 true kx k2 9995 he hk h1
      exact ⟨some (i, v2), by simp [Instr.findAsking, Op.equal, Op.maxDepth, this], v2, rfl, h2⟩
    · rename_i he
      have := eqV_sound (w := w) hT 5 kt k e.1 false kx k2 9995 he hk h1
      obtain ⟨y, y1, y2⟩ := findAsk_sound hT hk es q (i + 1) r h h3
      exact ⟨y, by simp [Instr.findAsking, Op.equal, Op.maxDepth, this, y1], y2⟩
    · cases h
theorem findNow_int {T : Tb TI} (hT : TOk P T) {kt : Nat} {ti : TI} (ht : T.at_ kt = some ti) {kk : IntKind} (hd : ti.d = .int kk) {k : V} {kx : Value} (hk : VR ι k kx) : ∀ (es : List Ent) (E : List MapEntry) (i : Nat) (r : Option (Nat × V)), findV T kt k es i = some r → ESR ι es E → ∃ y, Instr.findNow (.int kk) kx E i = some y ∧ FindR ι r y
  | [], E, i, r, h, hE => by
    cases h
    cases hE
    exact ⟨none, rfl, rfl⟩
  | e :: es, E, i, r, h, hE => by
    obtain ⟨k2, v2, q, h1, h2, h3, rfl⟩ := hE
    have key : ∀ c, eqV T 5 kt k e.1 = some c → Instr.sameNow (.int kk) kx k2 = some c := by
      intro c hc
      generalize e.1 = k1 at h1 hc
      unfold eqV at hc
      rw [ht] at hc
      dsimp only at hc
      rw [hd] at hc
      cases k <;> cases k1 <;> try (simp at hc; done)
      · dsimp only at hc
        split at hc
        · rename_i hkk
          cases hc
          have hkk := kEq_eq hkk
          subst hkk
          simp only [VR] at hk h1
          subst hk h1
          simp [Instr.sameNow, iEq_eq]
        · cases hc
    unfold findV at h
    split at h
    · rename_i he
      cases h
      exact ⟨some (i, v2), by simp [Instr.findNow, key _ he], v2, rfl, h2⟩
    · rename_i he
      obtain ⟨y, y1, y2⟩ := findNow_int hT ht hd hk es q (i + 1) r h h3
      exact ⟨y, by simp [Instr.findNow, key _ he, y1], y2⟩
    · cases h
theorem findNow_str {T : Tb TI} (hT : TOk P T) {kt : Nat} {ti : TI} (ht : T.at_ kt = some ti) (hd : ti.d = .str) {k : V} {kx : Value} (hk : VR ι k kx) : ∀ (es : List Ent) (E : List MapEntry) (i : Nat) (r : Option (Nat × V)), findV T kt k es i = some r → ESR ι es E → ∃ y, Instr.findNow .string kx E i = some y ∧ FindR ι r y
  | [], E, i, r, h, hE => by
    cases h
    cases hE
    exact ⟨none, rfl, rfl⟩
  | e :: es, E, i, r, h, hE => by
    obtain ⟨k2, v2, q, h1, h2, h3, rfl⟩ := hE
    have key : ∀ c, eqV T 5 kt k e.1 = some c → Instr.sameNow .string kx k2 = some c := by
      intro c hc
      generalize e.1 = k1 at h1 hc
      unfold eqV at hc
      rw [ht] at hc
      dsimp only at hc
      rw [hd] at hc
      cases k <;> cases k1 <;> try (simp at hc; done)
      · dsimp only at hc
        cases hc
        simp only [VR] at hk h1
        obtain ⟨g1, rfl⟩ := hk
        obtain ⟨g2, rfl⟩ := h1
        simp [Instr.sameNow, sEq_eq g1 g2, beq_toListBytes]
    unfold findV at h
    split at h
    · rename_i he
      cases h
      exact ⟨some (i, v2), by simp [Instr.findNow, key _ he], v2, rfl, h2⟩
    · rename_i he
      obtain ⟨y, y1, y2⟩ := findNow_str hT ht hd hk es q (i + 1) r h h3
      exact ⟨y, by simp [Instr.findNow, key _ he, y1], y2⟩
    · cases h
def keyD : TD → Bool
  | .int _ => true
  | .str => true
  | .st _ => true
  | _ => false
theorem find_sound {T : Tb TI} (hT : TOk P T) {kt : Nat} {ti : TI} (ht : T.at_ kt = some ti) (hd : keyD ti.d = true) {k : V} {kx : Value} (hk : VR ι k kx) {es : List Ent} {E : List MapEntry} {r : Option (Nat × V)} (hf : findV T kt k es 0 = some r) (hE : ESR ι es E) : ∃ y, (Instr.findKey kt kx E).run P w = .ok y w ∧ FindR ι r y := by
  have hti := hT _ _ ht
  cases hdd : ti.d with
  | int kk =>
    obtain ⟨y, y1, y2⟩ := findNow_int hT ht hdd hk es E 0 r hf hE
    exact ⟨y, run_findKey (under_int hti hdd) y1, y2⟩
  | str =>
    obtain ⟨y, y1, y2⟩ := findNow_str hT ht hdd hk es E 0 r hf hE
    exact ⟨y, run_findKey (under_str hti hdd) y1, y2⟩
  | st fs =>
    obtain ⟨F, hF, _⟩ := under_st hti hdd
    cases es with
    | nil =>
      cases hf
      cases hE
      exact ⟨none, run_findKey hF rfl, rfl⟩
    | cons e es =>
      obtain ⟨y, y1, y2⟩ := findAsk_sound (w := w) hT hk (e :: es) E 0 r hf hE
      refine ⟨y, ?_, y2⟩
      obtain ⟨k2, v2, q, h1, h2, h3, rfl⟩ := hE
      have hs : Instr.findNow (.struct F) kx (⟨k2, v2, e.2.2⟩ :: q) 0 = none := by simp [Instr.findNow, Instr.sameNow]
      simp [Instr.findKey, run_underlying hF, hs, y1]
  | _ => rw [hdd] at hd; cases hd

noncomputable def lookV (T : Tb TI) (h : H) (ti : TI) (x k : V) (ok : Bool) : Option V :=
  match ti.d with
  | .map kt et => match T.at_ kt, T.at_ et with
    | some tk, some te => match keyD tk.d, keyV T 5 kt k with
      | true, true => match (match x with | .nilmap => some (([] : List Ent)) | .map b => (match h.t.get b with | .map es _ => some es | _ => none) | _ => none) with
        | none => none
        | some es => match findV T kt k es 0 with
          | none => none
          | some none => match ok with
            | true => some (.tup [te.zero, .bool false])
            | false => some te.zero
          | some (some p) => match ok with
            | true => some (.tup [p.2, .bool true])
            | false => some p.2
      | _, _ => none
    | _, _ => none
  | _ => none
theorem look_sound {T : Tb TI} (hT : TOk P T) (r : Rep K w0 ι h w) {t : TypeId} {ti : TI} (ht : tiOf P t = some ti) {x k v : V} {ok : Bool} (hv : lookV T h ti x k ok = some v) {y kx : Value} (hx : VR ι x y) (hk : VR ι k kx) : ∃ z, (Instr.lookup t y kx ok).run P w = .ok z w ∧ VR ι v z := by
  unfold lookV at hv
  split at hv
  rotate_left
  · cases hv
  rename_i kt et hd
  split at hv
  rotate_left
  · cases hv
  rename_i tk te htk hte
  split at hv
  rotate_left
  · cases hv
  rename_i hkd hkv
  split at hv
  · cases hv
  rename_i es hes
  have hm : ∃ (E : List MapEntry), ESR ι es E ∧ ((y = .map none ∧ E = []) ∨ ∃ c ck, y = .map (some c) ∧ (getObj c).run P w = .ok (.map E.toArray ck) w) := by
    split at hes
    · cases hes
      simp only [VR] at hx
      exact ⟨[], rfl, .inl ⟨hx, rfl⟩⟩
    · split at hes
      · rename_i b _ _ ck hm
        cases hes
        simp only [VR] at hx
        obtain ⟨c, hb, rfl⟩ := hx
        obtain ⟨E, h1, h2, _⟩ := r.map_at hb hm
        exact ⟨E, h1, .inr ⟨c, ck, rfl, by simp [getObj, Sem.run, h2]⟩⟩
      · cases hes
    · cases hes
  obtain ⟨E, hE, hm⟩ := hm
  have hck := keyV_sound (w := w) hT E.toArray.isEmpty 5 kt k kx 9995 hkv hk
  obtain ⟨z, hz1, hz2⟩ := run_zero (P := P) (w := w) ι (hT _ _ hte)
  have gen : ∀ q, findV T kt k es 0 = some q → ∃ y', (Instr.findKey kt kx E).run P w = .ok y' w ∧ FindR ι q y' := fun q hq => find_sound hT htk hkd hk hq hE
  have hlook : ∀ y', (Instr.findKey kt kx E).run P w = .ok y' w → (Instr.lookup t y kx ok).run P w = .ok (if ok then .tuple #[(y'.map (·.2)).getD z, .bool y'.isSome] else (y'.map (·.2)).getD z) w := by
    intro y' hy'
    rcases hm with ⟨rfl, rfl⟩ | ⟨c, ck, rfl, hg⟩
    · have hck1 : (Instr.checkKey true 10000 kt kx).run P w = .ok () w := by simpa using hck
      cases y' with
      | none => simp [Instr.lookup, run_underlying (under_map ht hd), hz1, hy', hck1]
      | some p => obtain ⟨p1, p2⟩ := p; simp [Instr.lookup, run_underlying (under_map ht hd), hy', hck1]
    · have hck1 : (Instr.checkKey E.isEmpty 10000 kt kx).run P w = .ok () w := by simpa using hck
      cases y' with
      | none => simp [Instr.lookup, run_underlying (under_map ht hd), hz1, hy', hg, hck1]
      | some p => obtain ⟨p1, p2⟩ := p; simp [Instr.lookup, run_underlying (under_map ht hd), hy', hg, hck1]
  split at hv
  · cases hv
  · rename_i hq
    obtain ⟨y', y1, y2⟩ := gen _ hq
    obtain rfl : y' = none := y2
    have := hlook _ y1
    cases ok <;> cases hv
    · exact ⟨_, this, hz2⟩
    · exact ⟨_, this, by
        simp only [VR]
        exact ⟨[z, .bool false], VRs.cons_iff.2 ⟨_, _, hz2, VRs.cons_iff.2 ⟨_, _, by simp only [VR], VRs.nil_iff.2 rfl, rfl⟩, rfl⟩, rfl⟩⟩
  · rename_i p hq
    obtain ⟨y', y1, y2⟩ := gen _ hq
    obtain ⟨x2, rfl, hx2⟩ := y2
    have := hlook _ y1
    cases ok <;> cases hv
    · exact ⟨_, this, hx2⟩
    · exact ⟨_, this, by
        simp only [VR]
        exact ⟨[x2, .bool true], VRs.cons_iff.2 ⟨_, _, hx2, VRs.cons_iff.2 ⟨_, _, by simp only [VR], VRs.nil_iff.2 rfl, rfl⟩, rfl⟩, rfl⟩⟩
end
end Go.Proofs.Ytoamjihchmokcaa.E
