/- The executor on regions that draw: a heap apart, and put together again. No condition. || The executor on regions that draw: blocks at numbers that were set aside. No condition. -/
import Derived.Test.YtcjehedciijhfaaGreatDoorE29M
namespace Go.Proofs.YtcjehedciijhfaaGreatDoor.E
open Go.ChangeShapes Go.WideShapes Go.ChangeAt Go.RowKit Go.Deep

section
variable {K : Ker} {w0 w w' : World} {ι κ : I} {h M M' G : H} {R : Nat → Prop}
/-- What is kept: what was kept, and the blocks that are left out. -/
def KOut (K : Ker) (ι : I) (h M : H) (R : Nat → Prop) : Ker := ⟨fun c => K c ∨ ∃ b, b < h.n ∧ h.t.get b ≠ .dead ∧ M.t.get b = .dead ∧ ι.blk b = some c, fun b => K.rs b ∨ R b⟩
theorem Rep.part (r : Rep K w0 ι h w) (hp : Perf DH M.t) (hn : M.n = h.n) (hs : ∀ b, b < h.n → M.t.get b = .dead ∨ M.t.get b = h.t.get b) (hR : ∀ b, R b → b < h.n ∧ ι.blk b = none ∧ ι.ext b = none) : Rep (KOut K ι h M R) w ι M w := by
  have key : ∀ b, b < h.n → M.t.get b ≠ .dead → M.t.get b = h.t.get b := fun b hb hd => (hs b hb).resolve_left hd
  refine ⟨hp, by rw [hn]; exact r.fit, ⟨rfl, rfl, rfl, Nat.le_refl _, fun c hc => ⟨?_, rfl⟩⟩, fun b hb hd => ?_, fun p q c hp hq hpd hqd ep eq => ?_, fun b c e => by rw [hn]; exact r.lt b c e, fun b q e => by rw [hn]; exact r.lps b q e, fun b E e => by rw [hn]; exact r.ext b E e, fun b hb => by rw [hn]; exact hb.elim (r.resv b) (hR b)⟩
  · rcases hc with hc | ⟨b, _, _, _, e⟩
    · exact r.base.lt hc
    · exact (r.lt b c e).2
  · rw [hn] at hb
    have e := key b hb hd
    rw [e] at hd ⊢
    obtain ⟨c, o, e1, e2, e3, e4⟩ := r.live b hb hd
    refine ⟨c, o, e1, fun hk => ?_, e3, e4⟩
    rcases hk with hk | ⟨b', h1, h2, h3, h4⟩
    · exact e2 hk
    · have := r.inj b b' c hb h1 hd h2 e1 h4
      subst this
      rw [h3] at e
      exact hd e.symm
  · rw [hn] at hp hq
    exact r.inj p q c hp hq (key p hp hpd ▸ hpd) (key q hq hqd ▸ hqd) ep eq
theorem Rep.glue (r : Rep K w0 ι h w) (hle : ι.Le κ) (r' : Rep (KOut K ι h M R) w κ M' w') (hp : Perf DH G.t) (hG : G.n = M'.n)
    (hs : ∀ b, b < M'.n → G.t.get b = .dead ∨ G.t.get b = M'.t.get b ∨ (b < h.n ∧ M.t.get b = .dead ∧ G.t.get b = h.t.get b)) : Rep K w0 κ G w' := by
  have hb0 : Base K w0 w' := ⟨r'.base.os.trans r.base.os, r'.base.tape.trans r.base.tape, r'.base.output.trans r.base.output, Nat.le_trans r.base.size r'.base.size, fun c hc => ⟨(r.base.kept c hc).1, ((r'.base.kept c (.inl hc)).2).trans (r.base.kept c hc).2⟩⟩
  have key : ∀ b, b < M'.n → G.t.get b ≠ .dead → ∃ c o, κ.blk b = some c ∧ ¬ K c ∧ w'.heap[c]? = some o ∧ OR κ (G.t.get b) o ∧ ((M'.t.get b ≠ .dead ∧ ¬ KOut K ι h M R c) ∨ (b < h.n ∧ h.t.get b ≠ .dead ∧ ι.blk b = some c ∧ KOut K ι h M R c)) := by
    intro b hb hd
    rcases hs b hb with e | e | ⟨e1, e2, e3⟩
    · exact absurd e hd
    · rw [e] at hd ⊢
      obtain ⟨c, o, q1, q2, q3, q4⟩ := r'.live b hb hd
      exact ⟨c, o, q1, fun hk => q2 (.inl hk), q3, q4, .inl ⟨hd, q2⟩⟩
    · rw [e3] at hd ⊢
      obtain ⟨c, o, q1, q2, q3, q4⟩ := r.live b e1 hd
      have hk : KOut K ι h M R c := .inr ⟨b, e1, hd, e2, q1⟩
      exact ⟨c, o, hle.blk _ _ q1, q2, (r'.base.kept c hk).2.trans q3, q4.mono hle, .inr ⟨e1, hd, q1, hk⟩⟩
  refine ⟨hp, by rw [hG]; exact r'.fit, hb0, fun b hb hd => ?_, fun p q c hp hq hpd hqd ep eq => ?_, fun b c e => by rw [hG]; exact r'.lt b c e, fun b q e => by rw [hG]; exact r'.lps b q e, fun b E e => by rw [hG]; exact r'.ext b E e, fun b hb => by rw [hG]; exact r'.resv b (.inl hb)⟩
  · rw [hG] at hb
    obtain ⟨c, o, q1, q2, q3, q4, _⟩ := key b hb hd
    exact ⟨c, o, q1, q2, q3, q4⟩
  · rw [hG] at hp hq
    obtain ⟨c1, _, a1, _, _, _, a2⟩ := key p hp hpd
    obtain ⟨c2, _, b1, _, _, _, b2⟩ := key q hq hqd
    rw [ep] at a1
    rw [eq] at b1
    cases a1
    cases b1
    rcases a2 with ⟨a3, a4⟩ | ⟨a3, a4, a5, a6⟩ <;> rcases b2 with ⟨b3, b4⟩ | ⟨b3, b4, b5, b6⟩
    · exact r'.inj p q c hp hq a3 b3 ep eq
    · exact absurd b6 a4
    · exact absurd a6 b4
    · exact r.inj p q c a3 b3 a4 b4 a5 b5
end
end Go.Proofs.YtcjehedciijhfaaGreatDoor.E
namespace Go.Proofs.YtcjehedciijhfaaGreatDoor.E
open Go.ChangeShapes Go.WideShapes Go.ChangeAt Go.RowKit Go.Deep

section
variable {K : Ker} {w0 w : World} {ι : I} {h : H}
theorem le_new_at {b : Nat} (hn : ι.blk b = none) (c : Nat) : ι.Le (ι.new b c) := by
  refine ⟨fun k c' e => ?_, fun _ _ e => e, fun _ _ e => e, rfl⟩
  show (if k = b then some c else ι.blk k) = some c'
  rw [if_neg (fun h => by rw [h, hn] at e; cases e)]
  exact e
theorem Rep.layAt (r : Rep K w0 ι h w) {b : Nat} (hb : b < h.n) (hn : ι.blk b = none) (hr : ¬ K.rs b) (hx : ι.ext b = none) {a : O} {o : Obj} (ho : OR (ι.new b w.heap.size) a o) : Rep K w0 (ι.new b w.heap.size) (h.put b a) (w.alloc o) := by
  have hl := r.fit
  have hle := le_new_at hn w.heap.size
  have hg : ∀ k, k < h.n → (h.t.set b a).get k = if k = b then a else h.t.get k := fun k hk => r.perf.get_set _ _ _ (by omega) (by omega)
  have hbb : (ι.new b w.heap.size).blk b = some w.heap.size := if_pos rfl
  have hv : ∀ k c, (ι.new b w.heap.size).blk k = some c → (k = b ∧ c = w.heap.size) ∨ (k ≠ b ∧ ι.blk k = some c) := by
    intro k c e
    have e : (if k = b then some w.heap.size else ι.blk k) = some c := e
    by_cases hk : k = b
    · rw [if_pos hk] at e; cases e; exact .inl ⟨hk, rfl⟩
    · rw [if_neg hk] at e; exact .inr ⟨hk, e⟩
  refine ⟨r.perf.set _ _, r.fit, r.base.next rfl rfl rfl (by simp) (fun c hc => Below.heap_alloc _ _ _ (r.base.lt hc)), fun k hk hd => ?_, fun p q c hp hq hpd hqd ep eq => ?_, fun k c e => ?_, r.lps, fun k E e => ?_, fun k hk => ?_⟩
  · have hk : k < h.n := hk
    have hd : (h.t.set b a).get k ≠ .dead := hd
    show ∃ c o, _ ∧ _ ∧ _ ∧ OR _ ((h.t.set b a).get k) o
    rw [hg k hk] at hd ⊢
    by_cases e : k = b
    · subst e
      rw [if_pos rfl]
      exact ⟨w.heap.size, o, hbb, fun hk => Nat.lt_irrefl _ (r.base.lt hk), heap_alloc_new w o, ho⟩
    · rw [if_neg e] at hd ⊢
      obtain ⟨c, o', e1, e2, e3, e4⟩ := r.live k hk hd
      exact ⟨c, o', hle.blk _ _ e1, e2, by rw [Below.heap_alloc _ _ _ (r.lt k c e1).2]; exact e3, e4.mono hle⟩
  · have hp : p < h.n := hp
    have hq : q < h.n := hq
    have hpd' : (h.t.set b a).get p ≠ .dead := hpd
    have hqd' : (h.t.set b a).get q ≠ .dead := hqd
    rw [hg p hp] at hpd'
    rw [hg q hq] at hqd'
    rcases hv p c ep with ⟨rfl, rfl⟩ | ⟨hp1, ep1⟩ <;> rcases hv q _ eq with ⟨rfl, e2⟩ | ⟨hq1, eq1⟩
    · rfl
    · exact absurd (r.lt _ _ eq1).2 (Nat.lt_irrefl _)
    · rw [e2] at ep1
      exact absurd (r.lt _ _ ep1).2 (Nat.lt_irrefl _)
    · rw [if_neg hp1] at hpd'
      rw [if_neg hq1] at hqd'
      exact r.inj p q c hp hq hpd' hqd' ep1 eq1
  · rcases hv k c e with ⟨rfl, rfl⟩ | ⟨_, e⟩
    · exact ⟨hb, by simp⟩
    · have := r.lt k c e
      exact ⟨this.1, by simp; omega⟩
  · obtain ⟨e1, e2⟩ := r.ext k E e
    refine ⟨e1, fun c hc => ?_⟩
    rcases hv k c hc with ⟨rfl, rfl⟩ | ⟨_, hc⟩
    · have e : ι.ext k = some E := e
      rw [hx] at e
      cases e
    · obtain ⟨arr, t, f, q1, q2⟩ := e2 c hc
      exact ⟨arr, t, f, by rw [Below.heap_alloc _ _ _ (r.lt k c hc).2]; exact q1, q2⟩
  · have q := r.resv k hk
    refine ⟨q.1, ?_, q.2.2⟩
    show (if k = b then some w.heap.size else ι.blk k) = none
    rw [if_neg (show ¬ k = b from fun e => hr (e ▸ hk))]
    exact q.2.1
end
end Go.Proofs.YtcjehedciijhfaaGreatDoor.E
