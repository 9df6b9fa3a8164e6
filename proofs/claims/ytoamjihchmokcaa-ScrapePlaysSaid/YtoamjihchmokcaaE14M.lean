/- The executor's maps written and gone through. No condition. || The executor goes through maps. No condition. -/
import Derived.Test.YtoamjihchmokcaaE12M
namespace Go.Proofs.Ytoamjihchmokcaa.E
open Go.ChangeShapes Go.WideShapes Go.ChangeAt Go.RowKit Go.Deep Go.MapKept

def sameC : V → V → Bool
  | .int k a, .int j b => match kEq k j with
    | true => iEq a b
    | false => false
  | .str a, .str b => sEq a b
  | .bool a, .bool b => match a with | true => b | false => !b
  | _, _ => false
def sameCs : List V → List V → Bool
  | [], [] => true
  | a :: l, b :: m => match sameC a b with
    | true => sameCs l m
    | false => false
  | _, _ => false
def sameV : V → V → Bool
  | .agg l, .agg m => sameCs l m
  | a, b => sameC a b
def nthE : List Ent → Nat → Option Ent
  | [], _ => none
  | e :: _, 0 => some e
  | _ :: l, n + 1 => nthE l n
def updE (k v : V) : List Ent → Nat → List Ent
  | [], _ => []
  | e :: l, 0 => (k, v, e.2.2) :: l
  | e :: l, n + 1 => e :: updE k v l n
def delE : List Ent → Nat → List Ent
  | [], _ => []
  | _ :: l, 0 => l
  | e :: l, n + 1 => e :: delE l n
noncomputable def updV (T : Tb TI) (h : H) (ti : TI) (x k v : V) : Option H :=
  match ti.d, x with
  | .map kt _, .map b => match h.t.get b with
    | .map es ck => match T.at_ kt with
      | some tk => match keyD tk.d, keyV T 5 kt k with
        | true, true => match findV T kt k es 0 with
          | none => none
          | some none => some (h.put b (.map (es ++ [(k, v, ck)]) (Nat.succ ck)))
          | some (some p) => match nthE es p.1 with
            | none => none
            | some e => match sameV e.1 k with
              | true => some (h.put b (.map (updE k v es p.1) ck))
              | false => none
        | _, _ => none
      | none => none
    | _ => none
  | _, _ => none
noncomputable def delV (T : Tb TI) (h : H) (ti : TI) (x k : V) : Option H :=
  match ti.d, x with
  | .map kt _, .map b => match h.t.get b with
    | .map es ck => match T.at_ kt with
      | some tk => match keyD tk.d, keyV T 5 kt k with
        | true, true => match findV T kt k es 0 with
          | none => none
          | some none => some (h.put b (.map es ck))
          | some (some p) => some (h.put b (.map (delE es p.1) ck))
        | _, _ => none
      | none => none
    | _ => none
  | _, _ => none
section
variable {P : Program} {K : Ker} {w0 w : World} {ι : I} {h : H}
theorem sEq_true {a b : List Nat} : sEq a b = true → a = b := by
  induction a generalizing b with
  | nil => intro h; cases b <;> first | rfl | cases h
  | cons x l ih =>
    intro h
    cases b with
    | nil => cases h
    | cons y r =>
      unfold sEq at h
      split at h
      · rename_i hb
        rw [Nat.eq_of_beq_eq_true hb, ih h]
      · cases h
theorem sameC_sound {a b : V} (h : sameC a b = true) {x y : Value} (hx : VR ι a x) (hy : VR ι b y) (n : Nat) : Instr.sameBits n x y = true := by
  unfold sameC at h
  split at h
  · split at h
    · rename_i hk
      have hk := kEq_eq hk
      simp only [VR] at hx hy
      subst hx hy hk
      rw [iEq_eq] at h
      cases n <;> simpa [Instr.sameBits] using h
    · cases h
  · simp only [VR] at hx hy
    obtain ⟨_, rfl⟩ := hx
    obtain ⟨_, rfl⟩ := hy
    have := sEq_true h
    subst this
    cases n <;> simp [Instr.sameBits, beq_toListBytes]
  · rename_i a b
    simp only [VR] at hx hy
    subst hx hy
    cases n <;> cases a <;> cases b <;> first | rfl | cases h
  · cases h
theorem sameCs_sound : ∀ {l m : List V} {xs ys : List Value}, sameCs l m = true → VRs ι l xs → VRs ι m ys → ∀ n, xs.length = ys.length ∧ (xs.zip ys).all (fun p => Instr.sameBits n p.1 p.2) = true
  | [], [], _, _, _, hx, hy, n => by rw [VRs.nil_iff.1 hx, VRs.nil_iff.1 hy]; simp
  | [], _ :: _, _, _, h, _, _, _ => by cases h
  | _ :: _, [], _, _, h, _, _, _ => by cases h
  | a :: l, b :: m, _, _, h, hx, hy, n => by
    obtain ⟨x, xs, h1, h2, rfl⟩ := VRs.cons_iff.1 hx
    obtain ⟨y, ys, h3, h4, rfl⟩ := VRs.cons_iff.1 hy
    unfold sameCs at h
    split at h
    · rename_i hc
      obtain ⟨e1, e2⟩ := sameCs_sound h h2 h4 n
      simp [e1, sameC_sound hc h1 h3, e2]
    · cases h
theorem sameV_sound {a b : V} (h : sameV a b = true) {x y : Value} (hx : VR ι a x) (hy : VR ι b y) (n : Nat) : Instr.sameBits (n + 1) x y = true := by
  unfold sameV at h
  split at h
  · simp only [VR] at hx hy
    obtain ⟨xs, h1, rfl⟩ := hx
    obtain ⟨ys, h2, rfl⟩ := hy
    obtain ⟨e1, e2⟩ := sameCs_sound h h1 h2 n
    simp only [Instr.sameBits, List.size_toArray, e1, beq_self_eq_true, Bool.true_and]
    exact e2
  · exact sameC_sound h hx hy _
theorem nthE_sound : ∀ {l : List Ent} {E : List MapEntry} {i : Nat} {e : Ent}, ESR ι l E → nthE l i = some e → ∃ m : MapEntry, E[i]? = some m ∧ VR ι e.1 m.key ∧ VR ι e.2.1 m.val ∧ m.born = e.2.2
  | [], _, _, _, _, h => by cases h
  | e :: l, _, 0, e', h, hn => by
    obtain ⟨k, v, q, h1, h2, h3, rfl⟩ := h
    cases hn
    exact ⟨_, rfl, h1, h2, rfl⟩
  | e :: l, _, n + 1, e', h, hn => by
    obtain ⟨k, v, q, h1, h2, h3, rfl⟩ := h
    obtain ⟨m, g1, g2⟩ := nthE_sound h3 hn
    exact ⟨m, by simpa using g1, g2⟩
theorem updE_sound {k v : V} {kx vx : Value} (hk : VR ι k kx) (hv : VR ι v vx) : ∀ {l : List Ent} {E : List MapEntry} (i : Nat), ESR ι l E → ESR ι (updE k v l i) (E.modify i fun e => { e with key := kx, val := vx })
  | [], _, _, h => by cases h; simp [updE, ESR]
  | e :: l, _, 0, h => by
    obtain ⟨k2, v2, q, h1, h2, h3, rfl⟩ := h
    exact ⟨kx, vx, q, hk, hv, h3, by simp⟩
  | e :: l, _, n + 1, h => by
    obtain ⟨k2, v2, q, h1, h2, h3, rfl⟩ := h
    exact ⟨k2, v2, _, h1, h2, updE_sound hk hv n h3, by simp⟩
theorem delE_sound : ∀ {l : List Ent} {E : List MapEntry} (i : Nat), ESR ι l E → ESR ι (delE l i) (E.eraseIdx i)
  | [], _, _, h => by cases h; simp [delE, ESR]
  | e :: l, _, 0, h => by
    obtain ⟨k2, v2, q, h1, h2, h3, rfl⟩ := h
    simpa [delE] using h3
  | e :: l, _, n + 1, h => by
    obtain ⟨k2, v2, q, h1, h2, h3, rfl⟩ := h
    exact ⟨k2, v2, _, h1, h2, delE_sound n h3, by simp⟩
theorem ESR.snoc {k v : V} {kx vx : Value} (hk : VR ι k kx) (hv : VR ι v vx) (c : Nat) : ∀ {l : List Ent} {E : List MapEntry}, ESR ι l E → ESR ι (l ++ [(k, v, c)]) (E ++ [⟨kx, vx, c⟩])
  | [], _, h => by cases h; exact ⟨kx, vx, [], hk, hv, rfl, rfl⟩
  | e :: l, _, h => by
    obtain ⟨k2, v2, q, h1, h2, h3, rfl⟩ := h
    exact ⟨k2, v2, _, h1, h2, ESR.snoc hk hv c h3, rfl⟩
theorem Rep.setObj (r : Rep K w0 ι h w) {b c : Nat} (hb : ι.blk b = some c) (hd : h.t.get b ≠ .dead) {old : Obj} (hold : w.heap[c]? = some old) (hnc : ∀ a t f, old ≠ .cells a t f) {a : O} {o : Obj} (ho : OR ι a o) : (setObj c o).run P w = .ok () { w with heap := w.heap.setIfInBounds c o } ∧ Rep K w0 ι (h.put b a) { w with heap := w.heap.setIfInBounds c o } := by
  obtain ⟨e1, e2⟩ := heap_set (o' := o) hold
  refine ⟨?_, r.upd hb hd ho (by simp) e1 e2 (fun arr t f e => by
    rw [hold] at e
    cases e
    exact absurd rfl (hnc arr t f)) rfl rfl rfl⟩
  cases old with
  | cells x t f => exact absurd rfl (hnc x t f)
  | _ => simp [Go.setObj, Sem.run, hold]
theorem upd_sound {T : Tb TI} (hT : TOk P T) (r : Rep K w0 ι h w) {t : TypeId} {ti : TI} (ht : tiOf P t = some ti) {x k v : V} {h' : H} (hv : updV T h ti x k v = some h') {y kx vx : Value} (hx : VR ι x y) (hk : VR ι k kx) (hvv : VR ι v vx) : ∃ w', (Instr.mapUpdate t y kx vx).run P w = .ok () w' ∧ Rep K w0 ι h' w' := by
  unfold updV at hv
  split at hv
  rotate_left
  · cases hv
  rename_i kt et b hd
  split at hv
  rotate_left
  · cases hv
  rename_i es ck hm
  split at hv
  rotate_left
  · cases hv
  rename_i tk htk
  split at hv
  rotate_left
  · cases hv
  rename_i hkd hkv
  simp only [VR] at hx
  obtain ⟨c, hb, rfl⟩ := hx
  obtain ⟨E, hE, hg0, _⟩ := r.map_at hb hm
  have hg : (getObj c).run P w = .ok (.map E.toArray ck) w := by simp [getObj, Sem.run, hg0]
  have hck : (Instr.checkKey false 10000 kt kx).run P w = .ok () w := keyV_sound (w := w) hT false 5 kt k kx 9995 hkv hk
  split at hv
  · cases hv
  · rename_i hf
    cases hv
    obtain ⟨y', y1, y2⟩ := find_sound (w := w) hT htk hkd hk hf hE
    obtain rfl : y' = none := y2
    obtain ⟨s1, s2⟩ := r.setObj (P := P) hb (by rw [hm]; simp) hg0 (by simp) (a := .map (es ++ [(k, v, ck)]) (ck + 1)) (o := .map (E ++ [(⟨kx, vx, ck⟩ : MapEntry)]).toArray (ck + 1)) ⟨_, ESR.snoc hk hvv ck hE, rfl⟩
    refine ⟨_, ?_, s2⟩
    have e : E.toArray.push ⟨kx, vx, ck⟩ = (E ++ [(⟨kx, vx, ck⟩ : MapEntry)]).toArray := by simp
    simp only [Instr.mapUpdate, Sem.run_bind, run_underlying (under_map ht hd), Result.andThen_ok, hg, hck, y1, e]
    exact s1
  · rename_i p hf
    split at hv
    · cases hv
    rename_i e he
    split at hv
    rotate_left
    · cases hv
    rename_i hsame
    cases hv
    obtain ⟨y', y1, y2⟩ := find_sound (w := w) hT htk hkd hk hf hE
    obtain ⟨x2, rfl, _⟩ := y2
    obtain ⟨m, m1, m2, m3, m4⟩ := nthE_sound hE he
    have hbits : Instr.sameBits 10000 m.key kx = true := sameV_sound hsame m2 hk 9999
    obtain ⟨s1, s2⟩ := r.setObj (P := P) hb (by rw [hm]; simp) hg0 (by simp) (a := .map (updE k v es p.1) ck) (o := .map (E.modify p.1 fun e => { e with key := kx, val := vx }).toArray ck) ⟨_, updE_sound hk hvv p.1 hE, rfl⟩
    refine ⟨_, ?_, s2⟩
    have e2 : E.toArray.modify p.1 (fun e => { e with key := kx, val := vx }) = (E.modify p.1 fun e => { e with key := kx, val := vx }).toArray := by
      apply Array.ext'; simp
    have e3 : (((E.toArray[p.1]?).map (·.key)).getD kx) = m.key := by simp [m1]
    simp only [Instr.mapUpdate, Sem.run_bind, run_underlying (under_map ht hd), Result.andThen_ok, hg, hck, y1, e3, Instr.keyThatStays, hbits, if_true, Sem.run_pure, e2]
    exact s1
theorem del_sound {T : Tb TI} (hT : TOk P T) (r : Rep K w0 ι h w) {t ty : TypeId} {ts : Array TypeId} {ti : TI} (hts : ts[0]? = some t) (ht : tiOf P t = some ti) {x k : V} {h' : H} (hv : delV T h ti x k = some h') {y kx : Value} (hx : VR ι x y) (hk : VR ι k kx) : ∃ w', (Builtin.delete_ ts ty #[y, kx]).run P w = .ok (.tuple #[]) w' ∧ Rep K w0 ι h' w' := by
  unfold delV at hv
  split at hv
  rotate_left
  · cases hv
  rename_i kt et b hd
  split at hv
  rotate_left
  · cases hv
  rename_i es ck hm
  split at hv
  rotate_left
  · cases hv
  rename_i tk htk
  split at hv
  rotate_left
  · cases hv
  rename_i hkd hkv
  simp only [VR] at hx
  obtain ⟨c, hb, rfl⟩ := hx
  obtain ⟨E, hE, hg0, _⟩ := r.map_at hb hm
  have hg : (getObj c).run P w = .ok (.map E.toArray ck) w := by simp [getObj, Sem.run, hg0]
  have hck : (Instr.checkKey E.isEmpty 10000 kt kx).run P w = .ok () w := keyV_sound (w := w) hT E.isEmpty 5 kt k kx 9995 hkv hk
  split at hv
  · cases hv
  · rename_i hf
    cases hv
    obtain ⟨y', y1, y2⟩ := find_sound (w := w) hT htk hkd hk hf hE
    obtain rfl : y' = none := y2
    obtain ⟨s1, s2⟩ := r.setObj (P := P) hb (by rw [hm]; simp) hg0 (by simp) (a := .map es ck) (o := .map E.toArray ck) ⟨_, hE, rfl⟩
    refine ⟨_, ?_, s2⟩
    simp [Builtin.delete_, hts, run_underlying (under_map ht hd), hg, hck, y1, s1]
  · rename_i p hf
    cases hv
    obtain ⟨y', y1, y2⟩ := find_sound (w := w) hT htk hkd hk hf hE
    obtain ⟨x2, rfl, _⟩ := y2
    obtain ⟨s1, s2⟩ := r.setObj (P := P) hb (by rw [hm]; simp) hg0 (by simp) (a := .map (delE es p.1) ck) (o := .map (E.eraseIdx p.1).toArray ck) ⟨_, delE_sound p.1 hE, rfl⟩
    refine ⟨_, ?_, s2⟩
    simp [Builtin.delete_, hts, run_underlying (under_map ht hd), hg, hck, y1, s1]
end
end Go.Proofs.Ytoamjihchmokcaa.E
namespace Go.Proofs.Ytoamjihchmokcaa.E
open Go.ChangeShapes Go.WideShapes Go.ChangeAt Go.RowKit Go.Deep Go.MapKept

def memB : List Nat → Nat → Bool
  | [], _ => false
  | x :: r, y => match Nat.beq x y with
    | true => true
    | false => memB r y
def leftE (since : Nat) (seen : List Nat) : List Ent → Option (List Ent)
  | [] => some []
  | e :: r => match Nat.blt e.2.2 since with
    | false => none
    | true => match leftE since seen r with
      | none => none
      | some l => match memB seen e.2.2 with
        | true => some l
        | false => some (e :: l)
noncomputable def rangeV (h : H) (ti : TI) (x : V) : Option R :=
  match ti.d, x with
  | .map _ _, .nilmap => newB h .iter0 (.ptr h.n 0)
  | .map _ _, .map b => match h.t.get b with
    | .map _ ck => newB h (.iter b ck [] ck) (.ptr h.n 0)
    | _ => none
  | _, _ => none
noncomputable def outs (h : H) (i m since ck : Nat) (seen : List Nat) : List Ent → List (V × H)
  | [] => []
  | e :: r => (.tup [.bool true, e.1, e.2.1], h.put i (.iter m since (seen ++ [e.2.2]) ck)) :: outs h i m since ck seen r
noncomputable def nextV (h : H) (x : V) : Option R :=
  match x with
  | .ptr i 0 => match h.t.get i with
    | .iter0 => some (.val (.tup [.bool false]))
    | .iter m since seen last => match h.t.get m with
      | .map es ck => match Nat.ble since last, leftE since seen es with
        | true, some [] => some (.val (.tup [.bool false]))
        | true, some (e :: l) => some (.many (outs h i m since ck seen (e :: l)))
        | _, _ => none
      | _ => none
    | _ => none
  | _ => none
def lastN : List Nat → Option Nat
  | [] => none
  | [x] => some x
  | _ :: r => lastN r
def findB (st : Nat) : List Ent → Option Ent
  | [] => none
  | e :: r => match Nat.beq e.2.2 st with
    | true => some e
    | false => findB st r
noncomputable def entryV (h : H) (x : V) : Option V :=
  match x with
  | .ptr i 0 => match h.t.get i with
    | .iter m _ seen last => match h.t.get m with
      | .map es ck => match Nat.beq ck last, lastN seen with
        | true, some st => match findB st es with
          | some e => some (.tup [e.1, e.2.1])
          | none => none
        | _, _ => none
      | _ => none
    | _ => none
  | _ => none
section
variable {P : Program} {K : Ker} {w0 w : World} {ι : I} {h : H}
theorem memB_eq : ∀ (l : List Nat) (y : Nat), memB l y = l.contains y
  | [], y => by simp [memB]
  | x :: r, y => by
    unfold memB
    rw [List.contains_cons]
    cases hb : Nat.beq x y
    · have := Nat.ne_of_beq_eq_false hb
      rw [memB_eq r y]
      have : (y == x) = false := by rw [beq_eq_false_iff_ne]; exact fun e => this e.symm
      rw [this, Bool.false_or]
    · have := Nat.eq_of_beq_eq_true hb
      subst this
      simp
theorem range_sound (r : Rep K w0 ι h w) {t : TypeId} {ti : TI} (ht : tiOf P t = some ti) {x : V} {res : R} (hv : rangeV h ti x = some res) {y : Value} (hx : VR ι x y) : VOk K w0 ι w res ((Instr.range t y).run P w) := by
  unfold rangeV at hv
  split at hv
  · rename_i hd
    unfold newB at hv
    split at hv
    · rename_i hr
      cases hv
      simp only [VR] at hx
      subst hx
      refine ⟨.pointer (some ⟨w.heap.size, 0, none⟩), w.alloc (.mapIter none 0 #[] 0), ι.new h.n w.heap.size, ?_, r.le_new _, r.alloc (room_lt hr) rfl, new_ptr ι _ _⟩
      simp [Instr.range, run_underlying (under_map ht hd)]
    · cases hv
  · rename_i b hd
    split at hv
    · rename_i es ck hm
      unfold newB at hv
      split at hv
      · rename_i hr
        cases hv
        simp only [VR] at hx
        obtain ⟨c, hb, rfl⟩ := hx
        obtain ⟨E, hE, hg0, _⟩ := r.map_at hb hm
        have hg : (getObj c).run P w = .ok (.map E.toArray ck) w := by simp [getObj, Sem.run, hg0]
        refine ⟨.pointer (some ⟨w.heap.size, 0, none⟩), w.alloc (.mapIter (some c) ck #[] ck), ι.new h.n w.heap.size, ?_, r.le_new _, r.alloc (room_lt hr) ⟨c, (r.le_new _).blk _ _ hb, rfl⟩, new_ptr ι _ _⟩
        simp [Instr.range, run_underlying (under_map ht hd), hg]
      · cases hv
    · cases hv
  · cases hv
theorem leftE_sound {since : Nat} {seen : List Nat} : ∀ {es l : List Ent} {E : List MapEntry}, leftE since seen es = some l → ESR ι es E → ESR ι l (E.filter fun e => !seen.contains e.born) ∧ ∀ e ∈ E, e.born < since
  | [], l, E, h, hE => by cases h; cases hE; exact ⟨rfl, by simp⟩
  | e :: es, l, E, h, hE => by
    obtain ⟨k, v, q, h1, h2, h3, rfl⟩ := hE
    unfold leftE at h
    split at h
    · cases h
    rename_i hlt
    have hlt : e.2.2 < since := by simpa [Nat.blt_eq] using hlt
    split at h
    · cases h
    rename_i l' hl
    obtain ⟨i1, i2⟩ := leftE_sound hl h3
    have hall : ∀ m ∈ (⟨k, v, e.2.2⟩ : MapEntry) :: q, m.born < since := fun m hm => by
      rcases List.mem_cons.1 hm with rfl | hm
      · exact hlt
      · exact i2 m hm
    rw [memB_eq] at h
    split at h
    · rename_i hs
      cases h
      refine ⟨?_, hall⟩
      rw [List.filter_cons_of_neg (by simpa using hs)]
      exact i1
    · rename_i hs
      cases h
      refine ⟨?_, hall⟩
      rw [List.filter_cons_of_pos (by simpa using hs)]
      exact ⟨k, v, _, h1, h2, i1, rfl⟩
theorem outs_at {i m since ck : Nat} {seen : List Nat} : ∀ {l : List Ent} {L : List MapEntry} {j : Nat} {e : MapEntry}, ESR ι l L → L[j]? = some e → ∃ f : Ent, (V.tup [.bool true, f.1, f.2.1], h.put i (.iter m since (seen ++ [f.2.2]) ck)) ∈ outs h i m since ck seen l ∧ VR ι f.1 e.key ∧ VR ι f.2.1 e.val ∧ f.2.2 = e.born
  | [], _, _, _, hE, hj => by cases hE; simp at hj
  | f :: l, _, 0, e, hE, hj => by
    obtain ⟨k, v, q, h1, h2, h3, rfl⟩ := hE
    simp at hj
    subst hj
    exact ⟨f, by simp [outs], h1, h2, rfl⟩
  | f :: l, _, j + 1, e, hE, hj => by
    obtain ⟨k, v, q, h1, h2, h3, rfl⟩ := hE
    obtain ⟨g, g1, g2⟩ := outs_at (i := i) (m := m) (since := since) (ck := ck) (seen := seen) h3 (by simpa using hj)
    exact ⟨g, List.mem_cons_of_mem _ g1, g2⟩
def MOk (K : Ker) (w0 : World) (ι : I) (w : World) (res : R) (run : Result Value) : Prop :=
  match res with
  | .val v => ∃ y, run = .ok y w ∧ VR ι v y
  | .many l => ∃ p ∈ l, ∃ y w' κ, run = .ok y w' ∧ ι.Le κ ∧ Rep K w0 κ p.2 w' ∧ VR κ p.1 y
  | _ => False
theorem Rep.iter_at (r : Rep K w0 ι h w) {b c : Nat} (hb : ι.blk b = some c) {m since last : Nat} {seen : List Nat} (hd : h.t.get b = .iter m since seen last) : ∃ d, ι.blk m = some d ∧ w.heap[c]? = some (.mapIter (some d) since seen.toArray last) := by
  obtain ⟨o, _, ho, hor⟩ := r.at_ hb (by rw [hd]; simp)
  rw [hd] at hor
  obtain ⟨d, h1, rfl⟩ := hor
  exact ⟨d, h1, ho⟩
theorem choose_next (n : Nat) (h0 : 0 < n) (w : World) : ∃ (j : Nat) (w1 : World), j < n ∧ (w1 = w ∨ w1 = { w with drawn := w.drawn + 1 }) ∧ (choose (.mapNext n)).run P w = .ok j w1 := by
  by_cases hf : n ≤ 1
  · exact ⟨0, w, h0, .inl rfl, by simp [choose, Sem.run, Question.forced, hf]⟩
  · exact ⟨w.tape w.drawn (.mapNext n) % n, { w with drawn := w.drawn + 1 }, Nat.mod_lt _ h0, .inr rfl, by simp [choose, Sem.run, Question.forced, hf, Question.cut]⟩
theorem next_run {c d since last ck : Nat} {seen : List Nat} {E L : List MapEntry} (hgi : (getObj c).run P w = .ok (.mapIter (some d) since seen.toArray last) w) (hg : (getObj d).run P w = .ok (.map E.toArray ck) w) (hsl : since ≤ last) (hall : ∀ e ∈ E, e.born < since) (hL : (E.filter fun e => !seen.contains e.born) = L) (ty : TypeId) :
    (L = [] → (Instr.next (.pointer (some ⟨c, 0, none⟩)) false ty).run P w = .ok (.tuple #[.bool false]) w) ∧
    (L ≠ [] → ∃ (j : Nat) (e : MapEntry) (w1 : World), L[j]? = some e ∧ (w1 = w ∨ w1 = { w with drawn := w.drawn + 1 }) ∧ (Instr.next (.pointer (some ⟨c, 0, none⟩)) false ty).run P w = ((setObj c (.mapIter (some d) since (seen ++ [e.born]).toArray ck)).run P w1).andThen fun _ w2 => .ok (.tuple #[.bool true, e.key, e.val]) w2) := by
  have hbad : (!seen.toArray.isEmpty && !E.toArray.isEmpty && E.toArray.all (fun e => decide (e.born ≥ last))) = false := by
    cases E with
    | nil => simp
    | cons e q =>
      have := hall e (by simp)
      have hn : decide (last ≤ e.born) = false := by rw [decide_eq_false_iff_not]; omega
      simp [hn]
  have hleft : (E.toArray.filter fun e => !seen.toArray.contains e.born) = L.toArray := by rw [← hL]; simp
  have hsub : ∀ e ∈ L, e.born < since := fun e he => hall e (by rw [← hL] at he; exact (List.mem_filter.1 he).1)
  have hold : (L.toArray.filter fun e => decide (e.born < since)) = L.toArray := by
    rw [List.filter_toArray]
    congr 1
    rw [List.filter_eq_self]
    intro e he; simpa using hsub e he
  have hnew : (L.toArray.filter fun e => decide (e.born ≥ since)) = #[] := by
    rw [List.filter_toArray]
    congr 1
    rw [List.filter_eq_nil_iff]
    intro e he
    have := hsub e he
    simp; omega
  refine ⟨fun h0 => ?_, fun h0 => ?_⟩
  · subst h0
    simp only [Instr.next, Sem.run_bind, hgi, hg, Result.andThen_ok, hbad, Bool.false_eq_true, if_false, hleft, hold, hnew]
    simp [choose, Sem.run, Question.forced]
  · have hne : L.toArray.isEmpty = false := by cases L <;> simp_all
    have hpos : 0 < L.length := by cases L <;> simp_all
    obtain ⟨j, w1, hj, hw1, hch⟩ := choose_next (P := P) L.length hpos w
    refine ⟨j, L[j], w1, List.getElem?_eq_getElem hj, hw1, ?_⟩
    simp only [Instr.next, Sem.run_bind, hgi, hg, Result.andThen_ok, hbad, Bool.false_eq_true, if_false, hleft, hold, hnew, hne, Array.append_empty, Array.empty_append, List.map_toArray]
    simp only [List.size_toArray, List.length_map, hch, Result.andThen_ok, List.getElem?_toArray, List.getElem?_map, List.getElem?_eq_getElem hj, Option.map_some, Sem.run_bind, Sem.run_pure]
    simp
theorem next_sound (r : Rep K w0 ι h w) {x : V} {res : R} (hv : nextV h x = some res) {y : Value} (hx : VR ι x y) (ty : TypeId) : MOk K w0 ι w res ((Instr.next y false ty).run P w) := by
  unfold nextV at hv
  split at hv
  rotate_left
  · cases hv
  rename_i i
  simp only [VR] at hx
  obtain ⟨c, hb, rfl⟩ := hx
  have vfalse : VR ι (.tup [.bool false]) (.tuple #[.bool false]) := by
    simp only [VR]
    exact ⟨[.bool false], VRs.cons_iff.2 ⟨_, _, by simp only [VR], VRs.nil_iff.2 rfl, rfl⟩, rfl⟩
  split at hv
  · rename_i hi
    cases hv
    obtain ⟨o, _, ho, hor⟩ := r.at_ hb (by rw [hi]; simp)
    rw [hi] at hor
    obtain rfl : o = _ := hor
    have hg : (getObj c).run P w = .ok (.mapIter none 0 #[] 0) w := by simp [getObj, Sem.run, ho]
    exact ⟨.tuple #[.bool false], by simp [Instr.next, hg], vfalse⟩
  · rename_i m since seen last hi
    split at hv
    rotate_left
    · cases hv
    rename_i es ck hm
    obtain ⟨d, hd, hit⟩ := r.iter_at hb hi
    obtain ⟨E, hE, hg0, _⟩ := r.map_at hd hm
    have hg : (getObj d).run P w = .ok (.map E.toArray ck) w := by simp [getObj, Sem.run, hg0]
    have hgi : (getObj c).run P w = .ok (.mapIter (some d) since seen.toArray last) w := by simp [getObj, Sem.run, hit]
    split at hv
    · rename_i hsl hl
      cases hv
      obtain ⟨hL, hall⟩ := leftE_sound hl hE
      have := (next_run hgi hg (Nat.le_of_ble_eq_true hsl) hall rfl ty).1 hL
      exact ⟨_, this, vfalse⟩
    · rename_i e l hsl hl
      cases hv
      obtain ⟨hL, hall⟩ := leftE_sound hl hE
      have hne : (E.filter fun e => !seen.contains e.born) ≠ [] := by
        obtain ⟨_, _, _, _, _, _, e1⟩ := hL
        rw [e1]; simp
      obtain ⟨j, f, w1, hj, hw1, hrun⟩ := (next_run hgi hg (Nat.le_of_ble_eq_true hsl) hall rfl ty).2 hne
      obtain ⟨g, g1, g2, g3, g4⟩ := outs_at (h := h) (i := i) (m := m) (since := since) (ck := ck) (seen := seen) hL hj
      refine ⟨_, g1, ?_⟩
      have r1 : Rep K w0 ι h w1 := by
        rcases hw1 with rfl | rfl
        · exact r
        · exact r.drawn
      have hit1 : w1.heap[c]? = some (.mapIter (some d) since seen.toArray last) := by
        rcases hw1 with rfl | rfl <;> exact hit
      obtain ⟨s1, s2⟩ := r1.setObj (P := P) hb (by rw [hi]; simp) hit1 (by simp) (a := .iter m since (seen ++ [g.2.2]) ck) (o := .mapIter (some d) since (seen ++ [f.born]).toArray ck) ⟨d, hd, by rw [g4]⟩
      rw [s1] at hrun
      refine ⟨_, _, ι, hrun, .refl _, s2, ?_⟩
      simp only [VR]
      exact ⟨[.bool true, f.key, f.val], VRs.cons_iff.2 ⟨_, _, by simp only [VR], VRs.cons_iff.2 ⟨_, _, g2, VRs.cons_iff.2 ⟨_, _, g3, VRs.nil_iff.2 rfl, rfl⟩, rfl⟩, rfl⟩, rfl⟩
    · cases hv
  · cases hv
theorem lastN_eq : ∀ {l : List Nat} {x : Nat}, lastN l = some x → l.toArray.back? = some x
  | [], _, h => by cases h
  | [a], _, h => by cases h; rfl
  | a :: b :: l, x, h => by
    have := lastN_eq (l := b :: l) h
    simpa using this
theorem findB_sound {st : Nat} : ∀ {es : List Ent} {E : List MapEntry} {e : Ent}, findB st es = some e → ESR ι es E → ∃ m : MapEntry, E.find? (fun e => e.born == st) = some m ∧ VR ι e.1 m.key ∧ VR ι e.2.1 m.val
  | [], _, _, h, _ => by cases h
  | f :: es, E, e, h, hE => by
    obtain ⟨k, v, q, h1, h2, h3, rfl⟩ := hE
    unfold findB at h
    split at h
    · rename_i hb
      cases h
      have := Nat.eq_of_beq_eq_true hb
      exact ⟨⟨k, v, f.2.2⟩, by simp [this], h1, h2⟩
    · rename_i hb
      have := Nat.ne_of_beq_eq_false hb
      obtain ⟨m, m1, m2⟩ := findB_sound h h3
      exact ⟨m, by rw [List.find?_cons_of_neg (by simpa using this)]; exact m1, m2⟩
theorem entry_sound (r : Rep K w0 ι h w) {x v : V} (hv : entryV h x = some v) {y : Value} (hx : VR ι x y) : ∃ z, (Instr.entry y).run P w = .ok z w ∧ VR ι v z := by
  unfold entryV at hv
  split at hv
  rotate_left
  · cases hv
  rename_i i
  simp only [VR] at hx
  obtain ⟨c, hb, rfl⟩ := hx
  split at hv
  rotate_left
  · cases hv
  rename_i m since seen last hi
  split at hv
  rotate_left
  · cases hv
  rename_i es ck hm
  split at hv
  rotate_left
  · cases hv
  rename_i st hck hst
  split at hv
  rotate_left
  · cases hv
  rename_i e he
  cases hv
  obtain ⟨d, hd, hit⟩ := r.iter_at hb hi
  obtain ⟨E, hE, hg0, _⟩ := r.map_at hd hm
  have hg : (getObj d).run P w = .ok (.map E.toArray ck) w := by simp [getObj, Sem.run, hg0]
  have hgi : (getObj c).run P w = .ok (.mapIter (some d) since seen.toArray last) w := by simp [getObj, Sem.run, hit]
  have hck := Nat.eq_of_beq_eq_true hck
  subst hck
  obtain ⟨f, f1, f2, f3⟩ := findB_sound he hE
  refine ⟨.tuple #[f.key, f.val], ?_, ?_⟩
  · have hb2 := lastN_eq hst
    simp [Instr.entry, hgi, hg, hb2, f1]
  · simp only [VR]
    exact ⟨[f.key, f.val], VRs.cons_iff.2 ⟨_, _, f2, VRs.cons_iff.2 ⟨_, _, f3, VRs.nil_iff.2 rfl, rfl⟩, rfl⟩, rfl⟩
end
end Go.Proofs.Ytoamjihchmokcaa.E
