/- The executor on regions that draw: who is ahead of whom. No condition. || The executor on regions that draw: the items of a region. No condition. || The executor on regions that draw: a heap apart, and put together again. No condition. || The executor on regions that draw: blocks at numbers that were set aside. No condition. -/
import Derived.Test.YtoamjihchmokcaaE27M
namespace Go.Proofs.Ytoamjihchmokcaa.E
open Go.ChangeShapes Go.WideShapes Go.ChangeAt Go.RowKit Go.Deep

theorem bitB_eq (m i : Nat) : bitB m i = m.testBit i := by
  unfold bitB
  have h1 : Nat.land (Nat.shiftRight m i) 1 = (m >>> i) % 2 := Nat.and_one_is_mod _
  rw [h1, Nat.testBit_eq_decide_div_mod_eq, Nat.shiftRight_eq_div_pow]
  rw [Bool.eq_iff_iff, Nat.beq_eq, decide_eq_true_iff]
theorem bitB_or (a b i : Nat) : bitB (Nat.lor a b) i = (bitB a i || bitB b i) := by
  rw [bitB_eq, bitB_eq, bitB_eq]
  exact Nat.testBit_or a b i
theorem bitB_one (j i : Nat) : bitB (Nat.shiftLeft 1 j) i = true ↔ i = j := by
  rw [bitB_eq]
  show (1 <<< j).testBit i = true ↔ i = j
  rw [Nat.testBit_shiftLeft]
  simp only [Bool.and_eq_true, decide_eq_true_iff, Nat.testBit_one_eq_true_iff_self_eq_zero]
  omega
theorem bitB_zero (i : Nat) : bitB 0 i = false := by rw [bitB_eq]; exact Nat.zero_testBit i
theorem befOf_sound {T : Tr Nat} {i : Nat} : ∀ (l : List Edge) {m : Nat}, befOf T i l = some m →
    (∀ e ∈ l, Region.binds .any e = true → e.on < i) ∧ ∀ j, bitB m j = true → ∃ e ∈ l, Region.binds .any e = true ∧ e.on < i ∧ (j = e.on ∨ bitB (T.get e.on) j = true)
  | [], m, h => by
    cases h
    exact ⟨(fun _ h => by cases h), (fun j hj => by rw [bitB_zero] at hj; cases hj)⟩
  | e :: l, m, h => by
    unfold befOf at h
    split at h
    · rename_i hb
      obtain ⟨h1, h2⟩ := befOf_sound l h
      refine ⟨fun e' he' hb' => ?_, fun j hj => ?_⟩
      · rcases List.mem_cons.1 he' with rfl | he'
        · rw [hb] at hb'; cases hb'
        · exact h1 e' he' hb'
      · obtain ⟨e', q1, q2⟩ := h2 j hj
        exact ⟨e', List.mem_cons_of_mem _ q1, q2⟩
    · rename_i hb
      split at h
      · rename_i m' hlt hm'
        cases h
        have hlt : e.on < i := by simpa [Nat.blt_eq] using hlt
        obtain ⟨h1, h2⟩ := befOf_sound l hm'
        refine ⟨fun e' he' hb' => ?_, fun j hj => ?_⟩
        · rcases List.mem_cons.1 he' with rfl | he'
          · exact hlt
          · exact h1 e' he' hb'
        · rw [bitB_or, bitB_or, Bool.or_eq_true, Bool.or_eq_true] at hj
          rcases hj with (hj | hj) | hj
          · exact ⟨e, List.mem_cons_self .., hb, hlt, .inl ((bitB_one _ _).1 hj)⟩
          · exact ⟨e, List.mem_cons_self .., hb, hlt, .inr hj⟩
          · obtain ⟨e', q1, q2⟩ := h2 j hj
            exact ⟨e', List.mem_cons_of_mem _ q1, q2⟩
      · cases h
structure ItOk (all : List Oper) (get : Nat → Option It) (i : Nat) (x : It) : Prop where
  at_ : x.i = i
  o : all[i]? = some x.o
  looks : x.looks = looksL all x.o
  rk : x.rk = freshN (all.take i)
  edges : ∀ e ∈ x.o.after.toList, Region.binds .any e = true → e.on < i
  bef : ∀ j, bitB x.m j = true → ∃ e ∈ x.o.after.toList, Region.binds .any e = true ∧ e.on < i ∧ (j = e.on ∨ ∃ y, get e.on = some y ∧ bitB y.m j = true)
theorem freshN_append : ∀ (a b : List Oper), freshN (a ++ b) = freshN a + freshN b
  | [], b => by simp [freshN]
  | o :: a, b => by
    simp only [List.cons_append, freshN]
    split <;> rw [freshN_append a b] <;> omega
theorem itsA_sound {all : List Oper} : ∀ (l done : List Oper) (rd r : List It) (T : Tr Nat), all = done ++ l → all.length ≤ 256 → itsA all l done.length (freshN done) T = some r → Perf 8 T →
    rd.length = done.length → (∀ j y, rd[j]? = some y → T.get j = y.m) → (∀ k x, rd[k]? = some x → ItOk all (fun j => (rd ++ r)[j]?) k x) → ∀ k x, (rd ++ r)[k]? = some x → ItOk all (fun j => (rd ++ r)[j]?) k x
  | [], done, rd, r, T, ha, hl, h, hT, hrd, hTm, hok => by
    cases h
    intro k x hx
    rw [List.append_nil] at hx
    exact hok k x hx
  | o :: l, done, rd, r, T, ha, hl, h, hT, hrd, hTm, hok => by
    unfold itsA at h
    split at h
    · cases h
    rename_i m hm
    split at h
    rotate_left
    · cases h
    rename_i r' hr'
    cases h
    obtain ⟨b1, b2⟩ := befOf_sound _ hm
    have hlen : done.length < 256 := by rw [ha] at hl; simp at hl; omega
    have e0 : rd ++ (⟨done.length, o, m, freshN done, looksL all o⟩ :: r') = (rd ++ [⟨done.length, o, m, freshN done, looksL all o⟩]) ++ r' := by simp
    rw [e0] at hok ⊢
    refine itsA_sound l (done ++ [o]) _ r' (T.set done.length m) (by rw [ha]; simp) hl ?_ (hT.set _ _) (by simp [hrd]) (fun j y hj => ?_) (fun k x hx => ?_)
    · rw [← hr']
      simp only [List.length_append, List.length_cons, List.length_nil, freshN_append, freshN]
      congr 1
      split <;> rfl
    · have hj' : j < done.length + 1 := by
        have := (List.getElem?_eq_some_iff.1 hj).1
        simpa [hrd] using this
      rw [hT.get_set _ _ _ hlen (by have : (2:Nat)^8 = 256 := rfl; omega)]
      by_cases e : j = done.length
      · subst e
        rw [if_pos rfl]
        rw [← hrd] at hj
        simp at hj
        rw [← hj]
      · rw [if_neg e]
        rw [List.getElem?_append_left (by omega)] at hj
        exact hTm j y hj
    · by_cases e : k = rd.length
      · subst e
        simp at hx
        subst hx
        refine ⟨hrd.symm, ?_, rfl, ?_, by rw [hrd]; exact b1, fun j hj => ?_⟩
        · rw [ha, hrd]; simp
        · rw [ha, hrd]; simp
        · obtain ⟨e, q1, q2, q3, q4⟩ := b2 j hj
          refine ⟨e, q1, q2, by rw [hrd]; exact q3, ?_⟩
          rcases q4 with q4 | q4
          · exact .inl q4
          · have hlt : e.on < rd.length := by omega
            refine .inr ⟨rd[e.on], ?_, ?_⟩
            · rw [List.append_assoc, List.getElem?_append_left hlt, List.getElem?_eq_getElem hlt]
            · rw [← hTm e.on rd[e.on] (List.getElem?_eq_getElem hlt)]
              exact q4
      · have hk : k < rd.length := by
          have := (List.getElem?_eq_some_iff.1 hx).1
          simp at this
          omega
        rw [List.getElem?_append_left hk] at hx
        exact hok k x hx
end Go.Proofs.Ytoamjihchmokcaa.E
namespace Go.Proofs.Ytoamjihchmokcaa.E
open Go.ChangeShapes Go.WideShapes Go.ChangeAt Go.RowKit Go.Deep

theorem itsA_length {all : List Oper} : ∀ (l : List Oper) (i rk : Nat) (T : Tr Nat) (r : List It), itsA all l i rk T = some r → r.length = l.length
  | [], _, _, _, _, h => by cases h; rfl
  | o :: l, i, rk, T, r, h => by
    unfold itsA at h
    split at h
    · cases h
    split at h
    rotate_left
    · cases h
    rename_i r' hr'
    cases h
    rw [List.length_cons, List.length_cons, itsA_length l _ _ _ _ hr']
theorem memN_mem {d : Nat} : ∀ {l : List Nat}, d ∈ l → memN d l = true
  | a :: l, h => by
    unfold memN
    split
    · rfl
    · rename_i hn
      rcases List.mem_cons.1 h with rfl | h
      · exact absurd rfl (Nat.ne_of_beq_eq_false hn)
      · exact memN_mem h
structure ItsOk (all : List Oper) (l : List It) : Prop where
  len : l.length = all.length
  le : all.length ≤ 256
  it : ∀ k x, l[k]? = some x → ItOk all (fun j => l[j]?) k x
  pair : ∀ a ∈ l, ∀ b ∈ l, pairOk a b = true
theorem its_sound {all : List Oper} {l : List It} (h : its all = some l) : ItsOk all l := by
  unfold its at h
  split at h
  · cases h
  rename_i hle
  have hle := Nat.le_of_ble_eq_true hle
  split at h
  · cases h
  rename_i r hr
  split at h
  rotate_left
  · cases h
  rename_i hp
  cases h
  have h1 := itsA_sound all [] [] l (Tr.full 0 8) rfl hle hr (Perf.full _ _) rfl (fun j y hj => by simp at hj) (fun k x hx => by simp at hx)
  exact ⟨itsA_length _ _ _ _ _ hr, hle, by simpa using h1, fun a ha b hb => allB_mem (allB_mem hp a ha) b hb⟩
section
variable {all : List Oper} {l : List It}
theorem ItsOk.closed (q : ItsOk all l) {L : Nat → Prop} (hL : ∀ (k : Nat) (x : It), l[k]? = some x → L k → ∀ e ∈ x.o.after.toList, Region.binds .any e = true → L e.on) :
    ∀ (k : Nat) (x : It), l[k]? = some x → (∀ e ∈ x.o.after.toList, Region.binds .any e = true → L e.on) → ∀ j, bitB x.m j = true → L j := by
  intro k
  induction k using Nat.strongRecOn with
  | _ k ih =>
    intro x hx he j hj
    obtain ⟨e, e1, e2, e3, e4⟩ := (q.it k x hx).bef j hj
    rcases e4 with rfl | ⟨y, y1, y2⟩
    · exact he e e1 e2
    · exact ih e.on e3 y y1 (hL e.on y y1 (he e e1 e2)) j y2
theorem ItsOk.one (q : ItsOk all l) {i j : Nat} {x y : It} (hx : l[i]? = some x) (hy : l[j]? = some y) {d : Nat} (h1 : x.o.dst = some d) (h2 : y.o.dst = some d) : i = j := by
  have hp := q.pair x (List.mem_of_getElem? hx) y (List.mem_of_getElem? hy)
  unfold pairOk at hp
  rw [(q.it i x hx).at_, (q.it j y hy).at_] at hp
  split at hp
  · rename_i h; exact Nat.eq_of_beq_eq_true h
  · rw [h2] at hp
    dsimp only at hp
    rw [h1] at hp
    have : oEq (some d) (some d) = true := by simp [oEq]
    rw [this] at hp
    cases hp
theorem ItsOk.look (q : ItsOk all l) {i j : Nat} {x y : It} (hx : l[i]? = some x) (hy : l[j]? = some y) (hij : i ≠ j) {d : Nat} (h1 : d ∈ x.looks) (h2 : y.o.dst = some d) : (i < j ∧ bitB y.m i = true) ∨ (j < i ∧ bitB x.m j = true) := by
  have hp := q.pair x (List.mem_of_getElem? hx) y (List.mem_of_getElem? hy)
  unfold pairOk at hp
  rw [(q.it i x hx).at_, (q.it j y hy).at_] at hp
  split at hp
  · rename_i h; exact absurd (Nat.eq_of_beq_eq_true h) hij
  · rw [h2] at hp
    dsimp only at hp
    split at hp
    · cases hp
    rw [memN_mem h1] at hp
    dsimp only at hp
    split at hp
    · rename_i hlt
      exact .inl ⟨by simpa [Nat.blt_eq] using hlt, hp⟩
    · rename_i hlt
      refine .inr ⟨?_, hp⟩
      have : ¬ i < j := by
        intro h
        have : Nat.blt i j = true := by rw [Nat.blt_eq]; exact h
        rw [this] at hlt
        cases hlt
      omega
end
end Go.Proofs.Ytoamjihchmokcaa.E
namespace Go.Proofs.Ytoamjihchmokcaa.E
open Go.ChangeShapes Go.WideShapes Go.ChangeAt Go.RowKit Go.Deep

section
variable {K : Ker} {w0 w w' : World} {ι κ : I} {h M M' G : H} {R : Nat → Prop}
def KOut (K : Ker) (ι : I) (h M : H) (R : Nat → Prop) : Ker := ⟨fun c => K c ∨ ∃ b, b < h.n ∧ h.t.get b ≠ .dead ∧ M.t.get b = .dead ∧ ι.blk b = some c, fun b => K.rs b ∨ R b⟩
theorem Rep.part (r : Rep K w0 ι h w) (hp : Perf DH M.t) (hn : M.n = h.n) (hs : ∀ b, b < h.n → M.t.get b = .dead ∨ M.t.get b = h.t.get b) (hR : ∀ b, R b → b < h.n ∧ ι.blk b = none ∧ ι.ext b = none) : Rep (KOut K ι h M R) w ι M w := by
  have key : ∀ b, b < h.n → M.t.get b ≠ .dead → M.t.get b = h.t.get b := fun b hb hd => (hs b hb).resolve_left hd
  refine ⟨hp, by rw [hn]; exact r.fit, ⟨rfl, rfl, rfl, Nat.le_refl _, fun c hc => ⟨?_, rfl⟩⟩, fun b hb hd => ?_, fun p q c hp hq hpd hqd ep eq => ?_, fun b c e => by rw [hn]; exact r.lt b c e, fun b q e => by rw [hn]; exact r.lps b q e, fun b E e => by rw [hn]; exact r.ext b E e, fun b hb => by rw [hn]; exact hb.elim (r.resv b) (hR b)⟩
  · rcases hc with hc | ⟨b, _, _, _, e⟩
    · exact r.base.lt hc
    · exact (r.lt b c e).2
  · rw [hn] at hb
    have e := key b hb hd
    rw [e] at hd ⊢
    obtain ⟨c, o, e1, e2, e3, e4⟩ := r.live b hb hd
    refine ⟨c, o, e1, fun hk => ?_, e3, e4⟩
    rcases hk with hk | ⟨b', h1, h2, h3, h4⟩
    · exact e2 hk
    · have := r.inj b b' c hb h1 hd h2 e1 h4
      subst this
      rw [h3] at e
      exact hd e.symm
  · rw [hn] at hp hq
    exact r.inj p q c hp hq (key p hp hpd ▸ hpd) (key q hq hqd ▸ hqd) ep eq
theorem Rep.glue (r : Rep K w0 ι h w) (hle : ι.Le κ) (r' : Rep (KOut K ι h M R) w κ M' w') (hp : Perf DH G.t) (hG : G.n = M'.n)
    (hs : ∀ b, b < M'.n → G.t.get b = .dead ∨ G.t.get b = M'.t.get b ∨ (b < h.n ∧ M.t.get b = .dead ∧ G.t.get b = h.t.get b)) : Rep K w0 κ G w' := by
  have hb0 : Base K w0 w' := ⟨r'.base.os.trans r.base.os, r'.base.tape.trans r.base.tape, r'.base.output.trans r.base.output, Nat.le_trans r.base.size r'.base.size, fun c hc => ⟨(r.base.kept c hc).1, ((r'.base.kept c (.inl hc)).2).trans (r.base.kept c hc).2⟩⟩
  have key : ∀ b, b < M'.n → G.t.get b ≠ .dead → ∃ c o, κ.blk b = some c ∧ ¬ K c ∧ w'.heap[c]? = some o ∧ OR κ (G.t.get b) o ∧ ((M'.t.get b ≠ .dead ∧ ¬ KOut K ι h M R c) ∨ (b < h.n ∧ h.t.get b ≠ .dead ∧ ι.blk b = some c ∧ KOut K ι h M R c)) := by
    intro b hb hd
    rcases hs b hb with e | e | ⟨e1, e2, e3⟩
    · exact absurd e hd
    · rw [e] at hd ⊢
      obtain ⟨c, o, q1, q2, q3, q4⟩ := r'.live b hb hd
      exact ⟨c, o, q1, fun hk => q2 (.inl hk), q3, q4, .inl ⟨hd, q2⟩⟩
    · rw [e3] at hd ⊢
      obtain ⟨c, o, q1, q2, q3, q4⟩ := r.live b e1 hd
      have hk : KOut K ι h M R c := .inr ⟨b, e1, hd, e2, q1⟩
      exact ⟨c, o, hle.blk _ _ q1, q2, (r'.base.kept c hk).2.trans q3, q4.mono hle, .inr ⟨e1, hd, q1, hk⟩⟩
  refine ⟨hp, by rw [hG]; exact r'.fit, hb0, fun b hb hd => ?_, fun p q c hp hq hpd hqd ep eq => ?_, fun b c e => by rw [hG]; exact r'.lt b c e, fun b q e => by rw [hG]; exact r'.lps b q e, fun b E e => by rw [hG]; exact r'.ext b E e, fun b hb => by rw [hG]; exact r'.resv b (.inl hb)⟩
  · rw [hG] at hb
    obtain ⟨c, o, q1, q2, q3, q4, _⟩ := key b hb hd
    exact ⟨c, o, q1, q2, q3, q4⟩
  · rw [hG] at hp hq
    obtain ⟨c1, _, a1, _, _, _, a2⟩ := key p hp hpd
    obtain ⟨c2, _, b1, _, _, _, b2⟩ := key q hq hqd
    rw [ep] at a1
    rw [eq] at b1
    cases a1
    cases b1
    rcases a2 with ⟨a3, a4⟩ | ⟨a3, a4, a5, a6⟩ <;> rcases b2 with ⟨b3, b4⟩ | ⟨b3, b4, b5, b6⟩
    · exact r'.inj p q c hp hq a3 b3 ep eq
    · exact absurd b6 a4
    · exact absurd a6 b4
    · exact r.inj p q c a3 b3 a4 b4 a5 b5
end
end Go.Proofs.Ytoamjihchmokcaa.E
namespace Go.Proofs.Ytoamjihchmokcaa.E
open Go.ChangeShapes Go.WideShapes Go.ChangeAt Go.RowKit Go.Deep

section
variable {K : Ker} {w0 w : World} {ι : I} {h : H}
theorem le_new_at {b : Nat} (hn : ι.blk b = none) (c : Nat) : ι.Le (ι.new b c) := by
  refine ⟨fun k c' e => ?_, fun _ _ e => e, fun _ _ e => e, rfl⟩
  show (if k = b then some c else ι.blk k) = some c'
  rw [if_neg (fun h => by rw [h, hn] at e; cases e)]
  exact e
theorem Rep.layAt (r : Rep K w0 ι h w) {b : Nat} (hb : b < h.n) (hn : ι.blk b = none) (hr : ¬ K.rs b) (hx : ι.ext b = none) {a : O} {o : Obj} (ho : OR (ι.new b w.heap.size) a o) : Rep K w0 (ι.new b w.heap.size) (h.put b a) (w.alloc o) := by
  have hl := r.fit
  have hle := le_new_at hn w.heap.size
  have hg : ∀ k, k < h.n → (h.t.set b a).get k = if k = b then a else h.t.get k := fun k hk => r.perf.get_set _ _ _ (by omega) (by omega)
  have hbb : (ι.new b w.heap.size).blk b = some w.heap.size := if_pos rfl
  have hv : ∀ k c, (ι.new b w.heap.size).blk k = some c → (k = b ∧ c = w.heap.size) ∨ (k ≠ b ∧ ι.blk k = some c) := by
    intro k c e
    have e : (if k = b then some w.heap.size else ι.blk k) = some c := e
    by_cases hk : k = b
    · rw [if_pos hk] at e; cases e; exact .inl ⟨hk, rfl⟩
    · rw [if_neg hk] at e; exact .inr ⟨hk, e⟩
  refine ⟨r.perf.set _ _, r.fit, r.base.next rfl rfl rfl (by simp) (fun c hc => Below.heap_alloc _ _ _ (r.base.lt hc)), fun k hk hd => ?_, fun p q c hp hq hpd hqd ep eq => ?_, fun k c e => ?_, r.lps, fun k E e => ?_, fun k hk => ?_⟩
  · have hk : k < h.n := hk
    have hd : (h.t.set b a).get k ≠ .dead := hd
    show ∃ c o, _ ∧ _ ∧ _ ∧ OR _ ((h.t.set b a).get k) o
    rw [hg k hk] at hd ⊢
    by_cases e : k = b
    · subst e
      rw [if_pos rfl]
      exact ⟨w.heap.size, o, hbb, fun hk => Nat.lt_irrefl _ (r.base.lt hk), heap_alloc_new w o, ho⟩
    · rw [if_neg e] at hd ⊢
      obtain ⟨c, o', e1, e2, e3, e4⟩ := r.live k hk hd
      exact ⟨c, o', hle.blk _ _ e1, e2, by rw [Below.heap_alloc _ _ _ (r.lt k c e1).2]; exact e3, e4.mono hle⟩
  · have hp : p < h.n := hp
    have hq : q < h.n := hq
    have hpd' : (h.t.set b a).get p ≠ .dead := hpd
    have hqd' : (h.t.set b a).get q ≠ .dead := hqd
    rw [hg p hp] at hpd'
    rw [hg q hq] at hqd'
    rcases hv p c ep with ⟨rfl, rfl⟩ | ⟨hp1, ep1⟩ <;> rcases hv q _ eq with ⟨rfl, e2⟩ | ⟨hq1, eq1⟩
    · rfl
    · exact absurd (r.lt _ _ eq1).2 (Nat.lt_irrefl _)
    · rw [e2] at ep1
      exact absurd (r.lt _ _ ep1).2 (Nat.lt_irrefl _)
    · rw [if_neg hp1] at hpd'
      rw [if_neg hq1] at hqd'
      exact r.inj p q c hp hq hpd' hqd' ep1 eq1
  · rcases hv k c e with ⟨rfl, rfl⟩ | ⟨_, e⟩
    · exact ⟨hb, by simp⟩
    · have := r.lt k c e
      exact ⟨this.1, by simp; omega⟩
  · obtain ⟨e1, e2⟩ := r.ext k E e
    refine ⟨e1, fun c hc => ?_⟩
    rcases hv k c hc with ⟨rfl, rfl⟩ | ⟨_, hc⟩
    · have e : ι.ext k = some E := e
      rw [hx] at e
      cases e
    · obtain ⟨arr, t, f, q1, q2⟩ := e2 c hc
      exact ⟨arr, t, f, by rw [Below.heap_alloc _ _ _ (r.lt k c hc).2]; exact q1, q2⟩
  · have q := r.resv k hk
    refine ⟨q.1, ?_, q.2.2⟩
    show (if k = b then some w.heap.size else ι.blk k) = none
    rw [if_neg (show ¬ k = b from fun e => hr (e ▸ hk))]
    exact q.2.1
end
end Go.Proofs.Ytoamjihchmokcaa.E
