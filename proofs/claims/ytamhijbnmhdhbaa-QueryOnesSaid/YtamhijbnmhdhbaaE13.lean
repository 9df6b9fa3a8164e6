/- The executor's maps written and gone through. No condition. -/
import Derived.Test.YtamhijbnmhdhbaaE12M
namespace Go.Proofs.Ytamhijbnmhdhbaa.E
open Go.ChangeShapes Go.WideShapes Go.ChangeAt Go.RowKit Go.Deep Go.MapKept

def sameC : V → V → Bool
  | .int k a, .int j b => match kEq k j with
    | true => iEq a b
    | false => false
  | .str a, .str b => sEq a b
  | .bool a, .bool b => match a with | true => b | false => !b
  | _, _ => false
def sameCs : List V → List V → Bool
  | [], [] => true
  | a :: l, b :: m => match sameC a b with
    | true => sameCs l m
    | false => false
  | _, _ => false
def sameV : V → V → Bool
  | .agg l, .agg m => sameCs l m
  | a, b => sameC a b
def nthE : List Ent → Nat → Option Ent
  | [], _ => none
  | e :: _, 0 => some e
  | _ :: l, n + 1 => nthE l n
def updE (k v : V) : List Ent → Nat → List Ent
  | [], _ => []
  | e :: l, 0 => (k, v, e.2.2) :: l
  | e :: l, n + 1 => e :: updE k v l n
def delE : List Ent → Nat → List Ent
  | [], _ => []
  | _ :: l, 0 => l
  | e :: l, n + 1 => e :: delE l n
noncomputable def updV (T : Tb TI) (h : H) (ti : TI) (x k v : V) : Option H :=
  match ti.d, x with
  | .map kt _, .map b => match h.t.get b with
    | .map es ck => match T.at_ kt with
      | some tk => match keyD tk.d, keyV T 5 kt k with
        | true, true => match findV T kt k es 0 with
          | none => none
          | some none => some (h.put b (.map (es ++ [(k, v, ck)]) (Nat.succ ck)))
          | some (some p) => match nthE es p.1 with
            | none => none
            | some e => match sameV e.1 k with
              | true => some (h.put b (.map (updE k v es p.1) ck))
              | false => none
        | _, _ => none
      | none => none
    | _ => none
  | _, _ => none
noncomputable def delV (T : Tb TI) (h : H) (ti : TI) (x k : V) : Option H :=
  match ti.d, x with
  | .map kt _, .map b => match h.t.get b with
    | .map es ck => match T.at_ kt with
      | some tk => match keyD tk.d, keyV T 5 kt k with
        | true, true => match findV T kt k es 0 with
          | none => none
          | some none => some (h.put b (.map es ck))
          | some (some p) => some (h.put b (.map (delE es p.1) ck))
        | _, _ => none
      | none => none
    | _ => none
  | _, _ => none
section
variable {P : Program} {K : Ker} {w0 w : World} {ι : I} {h : H}
theorem sEq_true {a b : List Nat} : sEq a b = true → a = b := by
  induction a generalizing b with
  | nil => intro h; cases b <;> first | rfl | cases h
  | cons x l ih =>
    intro h
    cases b with
    | nil => cases h
    | cons y r =>
      unfold sEq at h
      split at h
      · rename_i hb
        rw [Nat.eq_of_beq_eq_true hb, ih h]
      · cases h
theorem sameC_sound {a b : V} (h : sameC a b = true) {x y : Value} (hx : VR ι a x) (hy : VR ι b y) (n : Nat) : Instr.sameBits n x y = true := by
  unfold sameC at h
  split at h
  · split at h
    · rename_i hk
      have hk := kEq_eq hk
      simp only [VR] at hx hy
      subst hx hy hk
      rw [iEq_eq] at h
      cases n <;> simpa [Instr.sameBits] using h
    · cases h
  · simp only [VR] at hx hy
    obtain ⟨_, rfl⟩ := hx
    obtain ⟨_, rfl⟩ := hy
    have := sEq_true h
    subst this
    cases n <;> simp [Instr.sameBits, beq_toListBytes]
  · rename_i a b
    simp only [VR] at hx hy
    subst hx hy
    cases n <;> cases a <;> cases b <;> first | rfl | cases h
  · cases h
theorem sameCs_sound : ∀ {l m : List V} {xs ys : List Value}, sameCs l m = true → VRs ι l xs → VRs ι m ys → ∀ n, xs.length = ys.length ∧ (xs.zip ys).all (fun p => Instr.sameBits n p.1 p.2) = true
  | [], [], _, _, _, hx, hy, n => by rw [VRs.nil_iff.1 hx, VRs.nil_iff.1 hy]; simp
  | [], _ :: _, _, _, h, _, _, _ => by cases h
  | _ :: _, [], _, _, h, _, _, _ => by cases h
  | a :: l, b :: m, _, _, h, hx, hy, n => by
    obtain ⟨x, xs, h1, h2, rfl⟩ := VRs.cons_iff.1 hx
    obtain ⟨y, ys, h3, h4, rfl⟩ := VRs.cons_iff.1 hy
    unfold sameCs at h
    split at h
    · rename_i hc
      obtain ⟨e1, e2⟩ := sameCs_sound h h2 h4 n
      simp [e1, sameC_sound hc h1 h3, e2]
    · cases h
theorem sameV_sound {a b : V} (h : sameV a b = true) {x y : Value} (hx : VR ι a x) (hy : VR ι b y) (n : Nat) : Instr.sameBits (n + 1) x y = true := by
  unfold sameV at h
  split at h
  · simp only [VR] at hx hy
    obtain ⟨xs, h1, rfl⟩ := hx
    obtain ⟨ys, h2, rfl⟩ := hy
    obtain ⟨e1, e2⟩ := sameCs_sound h h1 h2 n
    simp only [Instr.sameBits, List.size_toArray, e1, beq_self_eq_true, Bool.true_and]
    exact e2
  · exact sameC_sound h hx hy _
theorem nthE_sound : ∀ {l : List Ent} {E : List MapEntry} {i : Nat} {e : Ent}, ESR ι l E → nthE l i = some e → ∃ m : MapEntry, E[i]? = some m ∧ VR ι e.1 m.key ∧ VR ι e.2.1 m.val ∧ m.born = e.2.2
  | [], _, _, _, _, h => by cases h
  | e :: l, _, 0, e', h, hn => by
    obtain ⟨k, v, q, h1, h2, h3, rfl⟩ := h
    cases hn
    exact ⟨_, rfl, h1, h2, rfl⟩
  | e :: l, _, n + 1, e', h, hn => by
    obtain ⟨k, v, q, h1, h2, h3, rfl⟩ := h
    obtain ⟨m, g1, g2⟩ := nthE_sound h3 hn
    exact ⟨m, by simpa using g1, g2⟩
theorem updE_sound {k v : V} {kx vx : Value} (hk : VR ι k kx) (hv : VR ι v vx) : ∀ {l : List Ent} {E : List MapEntry} (i : Nat), ESR ι l E → ESR ι (updE k v l i) (E.modify i fun e => { e with key := kx, val := vx })
  | [], _, _, h => by cases h; simp [updE, ESR]
  | e :: l, _, 0, h => by
    obtain ⟨k2, v2, q, h1, h2, h3, rfl⟩ := h
    exact ⟨kx, vx, q, hk, hv, h3, by simp⟩
  | e :: l, _, n + 1, h => by
    obtain ⟨k2, v2, q, h1, h2, h3, rfl⟩ := h
    exact ⟨k2, v2, _, h1, h2, updE_sound hk hv n h3, by simp⟩
theorem delE_sound : ∀ {l : List Ent} {E : List MapEntry} (i : Nat), ESR ι l E → ESR ι (delE l i) (E.eraseIdx i)
  | [], _, _, h => by cases h; simp [delE, ESR]
  | e :: l, _, 0, h => by
    obtain ⟨k2, v2, q, h1, h2, h3, rfl⟩ := h
    simpa [delE] using h3
  | e :: l, _, n + 1, h => by
    obtain ⟨k2, v2, q, h1, h2, h3, rfl⟩ := h
    exact ⟨k2, v2, _, h1, h2, delE_sound n h3, by simp⟩
theorem ESR.snoc {k v : V} {kx vx : Value} (hk : VR ι k kx) (hv : VR ι v vx) (c : Nat) : ∀ {l : List Ent} {E : List MapEntry}, ESR ι l E → ESR ι (l ++ [(k, v, c)]) (E ++ [⟨kx, vx, c⟩])
  | [], _, h => by cases h; exact ⟨kx, vx, [], hk, hv, rfl, rfl⟩
  | e :: l, _, h => by
    obtain ⟨k2, v2, q, h1, h2, h3, rfl⟩ := h
    exact ⟨k2, v2, _, h1, h2, ESR.snoc hk hv c h3, rfl⟩
/-- A block that is no row of cells is written. -/
theorem Rep.setObj (r : Rep K w0 ι h w) {b c : Nat} (hb : ι.blk b = some c) (hd : h.t.get b ≠ .dead) {old : Obj} (hold : w.heap[c]? = some old) (hnc : ∀ a t f, old ≠ .cells a t f) {a : O} {o : Obj} (ho : OR ι a o) : (setObj c o).run P w = .ok () { w with heap := w.heap.setIfInBounds c o } ∧ Rep K w0 ι (h.put b a) { w with heap := w.heap.setIfInBounds c o } := by
  obtain ⟨e1, e2⟩ := heap_set (o' := o) hold
  refine ⟨?_, r.upd hb hd ho (by simp) e1 e2 (fun arr t f e => by
    rw [hold] at e
    cases e
    exact absurd rfl (hnc arr t f)) rfl rfl rfl⟩
  cases old with
  | cells x t f => exact absurd rfl (hnc x t f)
  | _ => simp [Go.setObj, Sem.run, hold]
theorem find_ix {T : Tb TI} {kt : Nat} {k : V} : ∀ {es : List Ent} {i : Nat} {p : Nat × V}, findV T kt k es i = some (some p) → i ≤ p.1
  | [], _, _, h => by cases h
  | e :: es, i, p, h => by
    unfold findV at h
    split at h
    · cases h; exact Nat.le_refl _
    · have := find_ix h; omega
    · cases h
theorem upd_sound {T : Tb TI} (hT : TOk P T) (r : Rep K w0 ι h w) {t : TypeId} {ti : TI} (ht : tiOf P t = some ti) {x k v : V} {h' : H} (hv : updV T h ti x k v = some h') {y kx vx : Value} (hx : VR ι x y) (hk : VR ι k kx) (hvv : VR ι v vx) : ∃ w', (Instr.mapUpdate t y kx vx).run P w = .ok () w' ∧ Rep K w0 ι h' w' := by
  unfold updV at hv
  split at hv
  rotate_left
  · cases hv
  rename_i kt et b hd
  split at hv
  rotate_left
  · cases hv
  rename_i es ck hm
  split at hv
  rotate_left
  · cases hv
  rename_i tk htk
  split at hv
  rotate_left
  · cases hv
  rename_i hkd hkv
  simp only [VR] at hx
  obtain ⟨c, hb, rfl⟩ := hx
  obtain ⟨E, hE, hg0, _⟩ := r.map_at hb hm
  have hg : (getObj c).run P w = .ok (.map E.toArray ck) w := by simp [getObj, Sem.run, hg0]
  have hck : (Instr.checkKey false 10000 kt kx).run P w = .ok () w := keyV_sound (w := w) hT false 5 kt k kx 9995 hkv hk
  split at hv
  · cases hv
  · rename_i hf
    cases hv
    obtain ⟨y', y1, y2⟩ := find_sound (w := w) hT htk hkd hk hf hE
    obtain rfl : y' = none := y2
    obtain ⟨s1, s2⟩ := r.setObj (P := P) hb (by rw [hm]; simp) hg0 (by simp) (a := .map (es ++ [(k, v, ck)]) (ck + 1)) (o := .map (E ++ [(⟨kx, vx, ck⟩ : MapEntry)]).toArray (ck + 1)) ⟨_, ESR.snoc hk hvv ck hE, rfl⟩
    refine ⟨_, ?_, s2⟩
    have e : E.toArray.push ⟨kx, vx, ck⟩ = (E ++ [(⟨kx, vx, ck⟩ : MapEntry)]).toArray := by simp
    simp only [Instr.mapUpdate, Sem.run_bind, run_underlying (under_map ht hd), Result.andThen_ok, hg, hck, y1, e]
    exact s1
  · rename_i p hf
    split at hv
    · cases hv
    rename_i e he
    split at hv
    rotate_left
    · cases hv
    rename_i hsame
    cases hv
    obtain ⟨y', y1, y2⟩ := find_sound (w := w) hT htk hkd hk hf hE
    obtain ⟨x2, rfl, _⟩ := y2
    obtain ⟨m, m1, m2, m3, m4⟩ := nthE_sound hE he
    have hbits : Instr.sameBits 10000 m.key kx = true := sameV_sound hsame m2 hk 9999
    obtain ⟨s1, s2⟩ := r.setObj (P := P) hb (by rw [hm]; simp) hg0 (by simp) (a := .map (updE k v es p.1) ck) (o := .map (E.modify p.1 fun e => { e with key := kx, val := vx }).toArray ck) ⟨_, updE_sound hk hvv p.1 hE, rfl⟩
    refine ⟨_, ?_, s2⟩
    have e2 : E.toArray.modify p.1 (fun e => { e with key := kx, val := vx }) = (E.modify p.1 fun e => { e with key := kx, val := vx }).toArray := by
      apply Array.ext'; simp
    have e3 : (((E.toArray[p.1]?).map (·.key)).getD kx) = m.key := by simp [m1]
    simp only [Instr.mapUpdate, Sem.run_bind, run_underlying (under_map ht hd), Result.andThen_ok, hg, hck, y1, e3, Instr.keyThatStays, hbits, if_true, Sem.run_pure, e2]
    exact s1
theorem del_sound {T : Tb TI} (hT : TOk P T) (r : Rep K w0 ι h w) {t ty : TypeId} {ts : Array TypeId} {ti : TI} (hts : ts[0]? = some t) (ht : tiOf P t = some ti) {x k : V} {h' : H} (hv : delV T h ti x k = some h') {y kx : Value} (hx : VR ι x y) (hk : VR ι k kx) : ∃ w', (Builtin.delete_ ts ty #[y, kx]).run P w = .ok (.tuple #[]) w' ∧ Rep K w0 ι h' w' := by
  unfold delV at hv
  split at hv
  rotate_left
  · cases hv
  rename_i kt et b hd
  split at hv
  rotate_left
  · cases hv
  rename_i es ck hm
  split at hv
  rotate_left
  · cases hv
  rename_i tk htk
  split at hv
  rotate_left
  · cases hv
  rename_i hkd hkv
  simp only [VR] at hx
  obtain ⟨c, hb, rfl⟩ := hx
  obtain ⟨E, hE, hg0, _⟩ := r.map_at hb hm
  have hg : (getObj c).run P w = .ok (.map E.toArray ck) w := by simp [getObj, Sem.run, hg0]
  have hck : (Instr.checkKey E.isEmpty 10000 kt kx).run P w = .ok () w := keyV_sound (w := w) hT E.isEmpty 5 kt k kx 9995 hkv hk
  split at hv
  · cases hv
  · rename_i hf
    cases hv
    obtain ⟨y', y1, y2⟩ := find_sound (w := w) hT htk hkd hk hf hE
    obtain rfl : y' = none := y2
    obtain ⟨s1, s2⟩ := r.setObj (P := P) hb (by rw [hm]; simp) hg0 (by simp) (a := .map es ck) (o := .map E.toArray ck) ⟨_, hE, rfl⟩
    refine ⟨_, ?_, s2⟩
    simp [Builtin.delete_, hts, run_underlying (under_map ht hd), hg, hck, y1, s1]
  · rename_i p hf
    cases hv
    obtain ⟨y', y1, y2⟩ := find_sound (w := w) hT htk hkd hk hf hE
    obtain ⟨x2, rfl, _⟩ := y2
    obtain ⟨s1, s2⟩ := r.setObj (P := P) hb (by rw [hm]; simp) hg0 (by simp) (a := .map (delE es p.1) ck) (o := .map (E.eraseIdx p.1).toArray ck) ⟨_, delE_sound p.1 hE, rfl⟩
    refine ⟨_, ?_, s2⟩
    simp [Builtin.delete_, hts, run_underlying (under_map ht hd), hg, hck, y1, s1]
end
end Go.Proofs.Ytamhijbnmhdhbaa.E
