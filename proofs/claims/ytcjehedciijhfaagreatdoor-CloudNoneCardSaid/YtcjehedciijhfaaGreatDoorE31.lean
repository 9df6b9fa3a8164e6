/- The executor on regions that draw: blocks at numbers that were set aside. No condition. -/
import Derived.Test.YtcjehedciijhfaaGreatDoorE30
namespace Go.Proofs.YtcjehedciijhfaaGreatDoor.E
open Go.ChangeShapes Go.WideShapes Go.ChangeAt Go.RowKit Go.Deep

section
variable {K : Ker} {w0 w : World} {ι : I} {h : H}
theorem le_new_at {b : Nat} (hn : ι.blk b = none) (c : Nat) : ι.Le (ι.new b c) := by
  refine ⟨fun k c' e => ?_, fun _ _ e => e, fun _ _ e => e, rfl⟩
  show (if k = b then some c else ι.blk k) = some c'
  rw [if_neg (fun h => by rw [h, hn] at e; cases e)]
  exact e
theorem Rep.layAt (r : Rep K w0 ι h w) {b : Nat} (hb : b < h.n) (hn : ι.blk b = none) (hr : ¬ K.rs b) (hx : ι.ext b = none) {a : O} {o : Obj} (ho : OR (ι.new b w.heap.size) a o) : Rep K w0 (ι.new b w.heap.size) (h.put b a) (w.alloc o) := by
  have hl := r.fit
  have hle := le_new_at hn w.heap.size
  have hg : ∀ k, k < h.n → (h.t.set b a).get k = if k = b then a else h.t.get k := fun k hk => r.perf.get_set _ _ _ (by omega) (by omega)
  have hbb : (ι.new b w.heap.size).blk b = some w.heap.size := if_pos rfl
  have hv : ∀ k c, (ι.new b w.heap.size).blk k = some c → (k = b ∧ c = w.heap.size) ∨ (k ≠ b ∧ ι.blk k = some c) := by
    intro k c e
    have e : (if k = b then some w.heap.size else ι.blk k) = some c := e
    by_cases hk : k = b
    · rw [if_pos hk] at e; cases e; exact .inl ⟨hk, rfl⟩
    · rw [if_neg hk] at e; exact .inr ⟨hk, e⟩
  refine ⟨r.perf.set _ _, r.fit, r.base.next rfl rfl rfl (by simp) (fun c hc => Below.heap_alloc _ _ _ (r.base.lt hc)), fun k hk hd => ?_, fun p q c hp hq hpd hqd ep eq => ?_, fun k c e => ?_, r.lps, fun k E e => ?_, fun k hk => ?_⟩
  · have hk : k < h.n := hk
    have hd : (h.t.set b a).get k ≠ .dead := hd
    show ∃ c o, _ ∧ _ ∧ _ ∧ OR _ ((h.t.set b a).get k) o
    rw [hg k hk] at hd ⊢
    by_cases e : k = b
    · subst e
      rw [if_pos rfl]
      exact ⟨w.heap.size, o, hbb, fun hk => Nat.lt_irrefl _ (r.base.lt hk), heap_alloc_new w o, ho⟩
    · rw [if_neg e] at hd ⊢
      obtain ⟨c, o', e1, e2, e3, e4⟩ := r.live k hk hd
      exact ⟨c, o', hle.blk _ _ e1, e2, by rw [Below.heap_alloc _ _ _ (r.lt k c e1).2]; exact e3, e4.mono hle⟩
  · have hp : p < h.n := hp
    have hq : q < h.n := hq
    have hpd' : (h.t.set b a).get p ≠ .dead := hpd
    have hqd' : (h.t.set b a).get q ≠ .dead := hqd
    rw [hg p hp] at hpd'
    rw [hg q hq] at hqd'
    rcases hv p c ep with ⟨rfl, rfl⟩ | ⟨hp1, ep1⟩ <;> rcases hv q _ eq with ⟨rfl, e2⟩ | ⟨hq1, eq1⟩
    · rfl
    · exact absurd (r.lt _ _ eq1).2 (Nat.lt_irrefl _)
    · rw [e2] at ep1
      exact absurd (r.lt _ _ ep1).2 (Nat.lt_irrefl _)
    · rw [if_neg hp1] at hpd'
      rw [if_neg hq1] at hqd'
      exact r.inj p q c hp hq hpd' hqd' ep1 eq1
  · rcases hv k c e with ⟨rfl, rfl⟩ | ⟨_, e⟩
    · exact ⟨hb, by simp⟩
    · have := r.lt k c e
      exact ⟨this.1, by simp; omega⟩
  · obtain ⟨e1, e2⟩ := r.ext k E e
    refine ⟨e1, fun c hc => ?_⟩
    rcases hv k c hc with ⟨rfl, rfl⟩ | ⟨_, hc⟩
    · have e : ι.ext k = some E := e
      rw [hx] at e
      cases e
    · obtain ⟨arr, t, f, q1, q2⟩ := e2 c hc
      exact ⟨arr, t, f, by rw [Below.heap_alloc _ _ _ (r.lt k c hc).2]; exact q1, q2⟩
  · have q := r.resv k hk
    refine ⟨q.1, ?_, q.2.2⟩
    show (if k = b then some w.heap.size else ι.blk k) = none
    rw [if_neg (show ¬ k = b from fun e => hr (e ▸ hk))]
    exact q.2.1
end
end Go.Proofs.YtcjehedciijhfaaGreatDoor.E
