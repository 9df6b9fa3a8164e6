/- The contract of ring.Ring's Put, and what a ring holds. Condition: the ring lies in blocks of the call's own. -/
import Derived.Test.YtolgkehlnhkgiaaRing2
namespace Go.Proofs.Ytolgkehlnhkgiaa
open Go.ChangeShapes Go.WideShapes Go.ChangeAt Go.RowKit Go.Deep

theorem mod_once {a m : Nat} (h : a < 2 * m) : a % m = if a < m then a else a - m := by
  by_cases q : a < m
  · rw [if_pos q, Nat.mod_eq_of_lt q]
  · rw [if_neg q, Nat.mod_eq_sub_mod (by omega), Nat.mod_eq_of_lt (by omega)]

theorem ringL_len (buf : List Sm) (first n : Nat) : (ringL buf first n).length = n := by simp [ringL]

theorem ringL_get (buf : List Sm) (first n : Nat) {i : Nat} (hi : i < n) (hf : first < buf.length) : (ringL buf first n)[i]'(by rw [ringL_len]; exact hi) = buf[(first + i) % buf.length]'(Nat.mod_lt _ (by omega)) := by
  have := Nat.mod_lt (first + i) (show 0 < buf.length by omega)
  simp only [ringL, List.getElem_map, List.getElem_range]
  exact getElem!_pos buf _ this

theorem ringL_put (buf : List Sm) (first n : Nat) (x : Sm) (hf : first < buf.length) (hn : n < buf.length) : ringL (buf.set ((first + n) % buf.length) x) first (n + 1) = ringL buf first n ++ [x] := by
  refine List.ext_getElem (by rw [List.length_append, ringL_len, ringL_len]; rfl) fun i h1 h2 => ?_
  rw [ringL_len] at h1
  rw [ringL_get _ _ _ h1 (by rw [List.length_set]; exact hf)]
  simp only [List.length_set]
  by_cases hi : i < n
  · rw [List.getElem_append_left (by rw [ringL_len]; exact hi), ringL_get _ _ _ hi hf, List.getElem_set]
    rw [if_neg]
    intro e
    rw [mod_once (show first + n < 2 * buf.length by omega), mod_once (show first + i < 2 * buf.length by omega)] at e
    split at e <;> split at e <;> omega
  · obtain rfl : i = n := by omega
    rw [List.getElem_append_right (by rw [ringL_len]; exact Nat.le_refl _)]
    simp [ringL_len]

theorem ringL_drop (buf : List Sm) (first n : Nat) (z : Sm) (hf : first < buf.length) (h1 : 1 ≤ n) (hn : n ≤ buf.length) : ringL (buf.set first z) ((first + 1) % buf.length) (n - 1) = (ringL buf first n).tail := by
  refine List.ext_getElem (by rw [List.length_tail, ringL_len, ringL_len]) fun i h2 h3 => ?_
  rw [ringL_len] at h2
  have hlt := Nat.mod_lt (first + 1) (show 0 < buf.length by omega)
  rw [ringL_get _ _ _ h2 (by rw [List.length_set]; exact hlt), List.getElem_tail, ringL_get _ _ _ (by omega) hf]
  simp only [List.length_set]
  have e1 : ((first + 1) % buf.length + i) % buf.length = (first + (i + 1)) % buf.length := by
    rw [Nat.mod_add_mod]
    congr 1
    omega
  rw [List.getElem_set, if_neg]
  · simp only [e1]
  · rw [e1, mod_once (show first + (i + 1) < 2 * buf.length by omega)]
    split <;> omega

theorem ringL_last (buf : List Sm) (first m : Nat) (hf : first < buf.length) (hm : m < buf.length) : ∃ x, buf[(first + m) % buf.length]? = some x ∧ (ringL buf first (m + 1)).getLast? = some x := by
  have hlt := Nat.mod_lt (first + m) (show 0 < buf.length by omega)
  refine ⟨buf[(first + m) % buf.length], List.getElem?_eq_getElem hlt, ?_⟩
  rw [List.getLast?_eq_getElem?, ringL_len, Nat.add_sub_cancel, List.getElem?_eq_getElem (by rw [ringL_len]; omega), ringL_get _ _ _ (by omega) hf]

/-- A ring that holds these. -/
def RingIs (w : World) (rb lb most : Nat) (L : List Sm) : Prop := ∃ first buf, RingAt w rb lb most first L.length buf ∧ ringL buf first L.length = L

theorem RingIs.fr {S : Nat → Prop} {w w' : World} {rb lb most : Nat} {L : List Sm} (h : RingIs w rb lb most L) (hf : Fr S w w') (h1 : ¬ S rb) (h2 : ¬ S lb) : RingIs w' rb lb most L :=
  let ⟨f, b, q1, q2⟩ := h; ⟨f, b, q1.fr hf h1 h2, q2⟩
theorem RingIs.below {w w' : World} {rb lb most : Nat} {L : List Sm} (h : RingIs w rb lb most L) (hb : Below w.heap.size w w') : RingIs w' rb lb most L :=
  let ⟨f, b, q1, q2⟩ := h; ⟨f, b, q1.below hb, q2⟩
theorem RingIs.lt {w : World} {rb lb most : Nat} {L : List Sm} (h : RingIs w rb lb most L) : rb < w.heap.size ∧ lb < w.heap.size := let ⟨_, _, q1, _⟩ := h; q1.lt

/-- What Put answers, and what the ring holds then. -/
def putOf (most : Nat) (L : List Sm) (x : Sm) : Int × List Sm :=
  if (match L.getLast? with | some y => decide (x.at0 ≤ y.at0) | none => false) = true then (13, L) else (0, (if L.length = most then L.tail else L) ++ [x])

def PutPost (rb lb most : Nat) (L : List Sm) (x : Sm) (w : World) (e : Ending) (w' : World) : Prop :=
  e = .returned (.int .i64 (putOf most L x).1) ∧ RingIs w' rb lb most (putOf most L x).2 ∧ Fr (fun k => k = rb ∨ k = lb) w w'

theorem RingIs.full {w : World} {rb lb most first n : Nat} {buf : List Sm} {L : List Sm} (h : RingAt w rb lb most first n buf) (hl : ringL buf first n = L) : RingIs w rb lb most L := by
  subst hl
  exact ⟨first, buf, by rw [ringL_len]; exact h, by rw [ringL_len]⟩

set_option maxRecDepth 100000 in
set_option maxHeartbeats 1000000 in
/-- The place is free: what Put does at its end. -/
theorem put_stale (rb lb most : Nat) (L : List Sm) (x y : Sm) (w : World) (h : RingIs w rb lb most L) (h0 : 0 ≤ x.at0) (hy : L.getLast? = some y) (hs : x.at0 ≤ y.at0) :
    Calls Try.prog 21 #[.pointer (some ⟨rb, 0, none⟩), .int .i64 x.at0, .int .i64 x.v] w (PutPost rb lb most L x w) := by
  have hp : putOf most L x = (13, L) := by unfold putOf; rw [hy]; rw [if_pos (decide_eq_true hs)]
  have HI := Lib.hid h
  obtain ⟨first, buf, hR, hL⟩ := h
  have hm := hR.len
  have hn := hR.hn
  have hf := hR.hf
  obtain ⟨m, hm1⟩ : ∃ m, m + 1 = L.length := by
    cases L with
    | nil => cases hy
    | cons a t => exact ⟨t.length, rfl⟩
  obtain ⟨z, hz1, hz2⟩ := ringL_last buf first m (by omega) (by omega)
  rw [hm1, hL, hy] at hz2
  obtain rfl : y = z := Option.some.inj hz2
  rw [hm] at hz1
  have HC := Lib.hid (last_some rb lb most first L.length m hm1 buf y w hR hz1)
  have Hp := Lib.hid hp
  obtain ⟨xa, xv⟩ := x
  obtain ⟨ya, yv⟩ := y
  dsimp only at h0 hs HC
  clear hy hR hL hm hn hf hm1 hz1 hz2 hp
  go_enter Try.func21, Try.ntmps21
  go_wp2_with fail
  refine HC.out.mono ?_
  rintro e w1 ⟨rfl, hb⟩
  have Hb := Lib.hid hb
  clear hb
  go_wp2_with fail
  go_ret
  unfold PutPost
  rw [Hp.out]
  exact ⟨rfl, HI.out.below (Hb.out.alloc Hb.out.size _), Fr.of_below (Hb.out.alloc Hb.out.size _) _⟩

theorem buildSm (a v : Int) (w : World) : (Instr.build 72 [(0, .int .i64 a), (1, .int .i64 v)].toArray).run Try.prog w = .ok (.agg #[.int .i64 a, .int .i64 v]) w := by kernel_rfl
end Go.Proofs.Ytolgkehlnhkgiaa
