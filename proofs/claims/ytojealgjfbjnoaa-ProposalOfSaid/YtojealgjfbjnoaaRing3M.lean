/- Contracts of ring.Ring: Last, Put. Condition: the ring lies in blocks of the call's own. || The contract of ring.Ring's Put, and what a ring holds. Condition: the ring lies in blocks of the call's own. -/
import Derived.Test.YtojealgjfbjnoaaRing
import Derived.Test.YtojealgjfbjnoaaHeadLitM
namespace Go.Proofs.Ytojealgjfbjnoaa
open Go.ChangeShapes Go.WideShapes Go.ChangeAt Go.RowKit Go.Deep

theorem at_dn {rb lb most first n : Nat} {buf : List Sm} {w : World} (h : RingAt w rb lb most first n buf) (i r : Nat) (hi : i ≤ 32) (hr : (first + i) % most = r) (p : Nat) :
    Calls Try.prog 47 #[.pointer (some ⟨rb, 0, none⟩), .int .i64 i] (w.drewN p) fun e w' => e = .returned (.int .i64 r) ∧ ∃ q, w' = w.drewN q := by
  subst hr
  refine (at_any rb lb most first n i buf _ (h.drewN p) hi).mono ?_
  rintro e w' ⟨rfl, q, rfl⟩
  exact ⟨rfl, p + q, World.drewN_drewN ..⟩

set_option maxRecDepth 100000 in
theorem last_none (rb lb most first : Nat) (buf : List Sm) (w : World) (h : RingAt w rb lb most first 0 buf) :
    Calls Try.prog 55 #[.pointer (some ⟨rb, 0, none⟩)] w fun e w' => e = .returned (.tuple #[.agg #[.int .i64 0, .int .i64 0], .bool false]) ∧ Below w.heap.size w w' := by
  have k0 : (w.alloc (.cells #[.int .i64 0, .int .i64 0] 91)).cell? ⟨w.heap.size, 0, none⟩ = some (.int .i64 0) := cell_new w _ _ 0
  have k1 : (w.alloc (.cells #[.int .i64 0, .int .i64 0] 91)).cell? ⟨w.heap.size, 1, none⟩ = some (.int .i64 0) := cell_new w _ _ 1
  have HR := Lib.hid h
  clear h
  go_enter Try.func55, Try.ntmps55
  go_wp2_with fail
  refine (ringLen_any rb lb most first 0 buf _ (HR.out.below ((Below.refl _ _).alloc (Nat.le_refl _) _))).mono ?_
  rintro e w1 ⟨rfl, rfl⟩
  go_wp2_with fail
  exact bodyPost_ret (v := .tuple #[.agg #[.int .i64 0, .int .i64 0], .bool false]) (by simp [results, Try.results55, go_sem, k0, k1]) rfl ⟨rfl, (Below.refl _ _).alloc (Nat.le_refl _) _⟩

set_option maxRecDepth 100000 in
set_option maxHeartbeats 1000000 in
theorem last_some (rb lb most first n m : Nat) (hnm : m + 1 = n) (buf : List Sm) (x : Sm) (w : World) (h : RingAt w rb lb most first n buf) (hx : buf[(first + m) % most]? = some x) :
    Calls Try.prog 55 #[.pointer (some ⟨rb, 0, none⟩)] w fun e w' => e = .returned (.tuple #[.agg #[.int .i64 x.at0, .int .i64 x.v], .bool true]) ∧ Below w.heap.size w w' := by
  have h1 := h.hf
  have h2 := h.hm
  have h4 := h.hn
  have hb0 : Below w.heap.size w (w.alloc (.cells #[.int .i64 0, .int .i64 0] 91)) := (Below.refl _ _).alloc (Nat.le_refl _) _
  have k0 : (w.alloc (.cells #[.int .i64 0, .int .i64 0] 91)).heap[w.heap.size]? = some (.cells #[.int .i64 0, .int .i64 0] 91 (0, 0)) := heap_alloc_new w _
  have HR := Lib.hid (h.below hb0)
  go_enter Try.func55, Try.ntmps55
  go_wp2_with fail
  refine (ringLen_any rb lb most first n buf _ HR.out).mono ?_
  rintro e w1 ⟨rfl, rfl⟩
  obtain ⟨w1, hw1⟩ : ∃ w1, w.alloc (.cells #[.int .i64 0, .int .i64 0] 91) = w1 := ⟨_, rfl⟩
  rw [hw1] at HR hb0 k0 ⊢
  obtain ⟨r, hr⟩ : ∃ r, (first + m) % most = r := ⟨_, rfl⟩
  rw [hr] at hx
  have hrl : r < buf.length := (List.getElem?_eq_some_iff.1 hx).1
  obtain ⟨e0, e1⟩ := HR.out.cell hrl
  have hxe : buf[r] = x := (List.getElem?_eq_some_iff.1 hx).2
  rw [hxe] at e0 e1
  have hrm : r < most := by have := HR.out.len; omega
  have hA := at_dn HR.out m r (by omega) hr
  obtain ⟨c0, c1, c2⟩ := cells3 HR.out.blk
  have HA := Lib.hid hA
  have Hb0 := Lib.hid hb0
  have z0 := row_free k0 0
  have z1 := row_free k0 1
  have hne : ((n : Int) == 0) = false := beq_eq_false_iff_ne.2 (by omega)
  have hm1 : IntKind.i64.wrap ((n : Int) - 1) = (m : Int) := by rw [IntWalk.i64_in _ (by omega)]; omega
  have hr0 : (0 : Int) ≤ (r : Int) := by omega
  have hr1 : (r : Int) < (most : Int) := by omega
  obtain ⟨lastB, hlb⟩ : ∃ q, w.heap.size = q := ⟨_, rfl⟩
  rw [hlb] at k0 z0 z1 ⊢
  have y0 := cell_of_row w1 lastB 0 _ _ _ k0
  have y1 := cell_of_row w1 lastB 1 _ _ _ k0
  have Hk0 := Lib.hid k0
  have Hlb := Lib.hid hlb
  clear hw1 hb0 hx hxe hr HR h hA k0 hlb hnm
  go_upto_region 3 with fail
  refine wp_region_head_lit 13 (fun w' => ∃ p : Nat, w' = w1.drewN p) (by kernel_rfl) (by kernel_rfl) ⟨1, rfl⟩ ?_
  simp only [List.take_succ_cons, List.take_zero, List.drop_succ_cons, List.drop_zero]
  repeat (quiet_step (first | (go_at_call 47; exact HA.out _) | exact rfl))
  refine wpQuiet_nil ?_
  rintro w' ⟨p, rfl⟩
  go_wp2_with fail
  have hrow := row_setCell (i := 1) (row_setCell (i := 0) (show (w1.drewN p).heap[lastB]? = _ from Hk0.out) (.int .i64 x.at0)) (.int .i64 x.v)
  have q0 := cell_of_row _ lastB 0 _ _ _ hrow
  have q1 := cell_of_row _ lastB 1 _ _ _ hrow
  simp only [Array.setIfInBounds, Array.set] at q0 q1
  simp at q0 q1
  refine bodyPost_ret (v := .tuple #[.agg #[.int .i64 x.at0, .int .i64 x.v], .bool true]) (by simp [results, Try.results55, go_sem, q0, q1]) rfl ⟨rfl, ?_⟩
  exact ((drewN_below Hb0.out p).setCell (p := ⟨lastB, 0, none⟩) (by show w.heap.size ≤ lastB; rw [Hlb.out]; exact Nat.le_refl _) _).setCell (p := ⟨lastB, 1, none⟩) (by show w.heap.size ≤ lastB; rw [Hlb.out]; exact Nat.le_refl _) _
end Go.Proofs.Ytojealgjfbjnoaa
namespace Go.Proofs.Ytojealgjfbjnoaa
open Go.ChangeShapes Go.WideShapes Go.ChangeAt Go.RowKit Go.Deep

theorem mod_once {a m : Nat} (h : a < 2 * m) : a % m = if a < m then a else a - m := by
  by_cases q : a < m
  · rw [if_pos q, Nat.mod_eq_of_lt q]
  · rw [if_neg q, Nat.mod_eq_sub_mod (by omega), Nat.mod_eq_of_lt (by omega)]

theorem ringL_len (buf : List Sm) (first n : Nat) : (ringL buf first n).length = n := by simp [ringL]

theorem ringL_get (buf : List Sm) (first n : Nat) {i : Nat} (hi : i < n) (hf : first < buf.length) : (ringL buf first n)[i]'(by rw [ringL_len]; exact hi) = buf[(first + i) % buf.length]'(Nat.mod_lt _ (by omega)) := by
  have := Nat.mod_lt (first + i) (show 0 < buf.length by omega)
  simp only [ringL, List.getElem_map, List.getElem_range]
  exact getElem!_pos buf _ this

theorem ringL_put (buf : List Sm) (first n : Nat) (x : Sm) (hf : first < buf.length) (hn : n < buf.length) : ringL (buf.set ((first + n) % buf.length) x) first (n + 1) = ringL buf first n ++ [x] := by
  refine List.ext_getElem (by rw [List.length_append, ringL_len, ringL_len]; rfl) fun i h1 h2 => ?_
  rw [ringL_len] at h1
  rw [ringL_get _ _ _ h1 (by rw [List.length_set]; exact hf)]
  simp only [List.length_set]
  by_cases hi : i < n
  · rw [List.getElem_append_left (by rw [ringL_len]; exact hi), ringL_get _ _ _ hi hf, List.getElem_set]
    rw [if_neg]
    intro e
    rw [mod_once (show first + n < 2 * buf.length by omega), mod_once (show first + i < 2 * buf.length by omega)] at e
    split at e <;> split at e <;> omega
  · obtain rfl : i = n := by omega
    rw [List.getElem_append_right (by rw [ringL_len]; exact Nat.le_refl _)]
    simp [ringL_len]

theorem ringL_drop (buf : List Sm) (first n : Nat) (z : Sm) (hf : first < buf.length) (h1 : 1 ≤ n) (hn : n ≤ buf.length) : ringL (buf.set first z) ((first + 1) % buf.length) (n - 1) = (ringL buf first n).tail := by
  refine List.ext_getElem (by rw [List.length_tail, ringL_len, ringL_len]) fun i h2 h3 => ?_
  rw [ringL_len] at h2
  have hlt := Nat.mod_lt (first + 1) (show 0 < buf.length by omega)
  rw [ringL_get _ _ _ h2 (by rw [List.length_set]; exact hlt), List.getElem_tail, ringL_get _ _ _ (by omega) hf]
  simp only [List.length_set]
  have e1 : ((first + 1) % buf.length + i) % buf.length = (first + (i + 1)) % buf.length := by
    rw [Nat.mod_add_mod]
    congr 1
    omega
  rw [List.getElem_set, if_neg]
  · simp only [e1]
  · rw [e1, mod_once (show first + (i + 1) < 2 * buf.length by omega)]
    split <;> omega

theorem ringL_last (buf : List Sm) (first m : Nat) (hf : first < buf.length) (hm : m < buf.length) : ∃ x, buf[(first + m) % buf.length]? = some x ∧ (ringL buf first (m + 1)).getLast? = some x := by
  have hlt := Nat.mod_lt (first + m) (show 0 < buf.length by omega)
  refine ⟨buf[(first + m) % buf.length], List.getElem?_eq_getElem hlt, ?_⟩
  rw [List.getLast?_eq_getElem?, ringL_len, Nat.add_sub_cancel, List.getElem?_eq_getElem (by rw [ringL_len]; omega), ringL_get _ _ _ (by omega) hf]

/-- A ring that holds these. -/
def RingIs (w : World) (rb lb most : Nat) (L : List Sm) : Prop := ∃ first buf, RingAt w rb lb most first L.length buf ∧ ringL buf first L.length = L

theorem RingIs.fr {S : Nat → Prop} {w w' : World} {rb lb most : Nat} {L : List Sm} (h : RingIs w rb lb most L) (hf : Fr S w w') (h1 : ¬ S rb) (h2 : ¬ S lb) : RingIs w' rb lb most L :=
  let ⟨f, b, q1, q2⟩ := h; ⟨f, b, q1.fr hf h1 h2, q2⟩
theorem RingIs.below {w w' : World} {rb lb most : Nat} {L : List Sm} (h : RingIs w rb lb most L) (hb : Below w.heap.size w w') : RingIs w' rb lb most L :=
  let ⟨f, b, q1, q2⟩ := h; ⟨f, b, q1.below hb, q2⟩
theorem RingIs.lt {w : World} {rb lb most : Nat} {L : List Sm} (h : RingIs w rb lb most L) : rb < w.heap.size ∧ lb < w.heap.size := let ⟨_, _, q1, _⟩ := h; q1.lt

/-- What Put answers, and what the ring holds then. -/
def putOf (most : Nat) (L : List Sm) (x : Sm) : Int × List Sm :=
  if (match L.getLast? with | some y => decide (x.at0 ≤ y.at0) | none => false) = true then (13, L) else (0, (if L.length = most then L.tail else L) ++ [x])

def PutPost (rb lb most : Nat) (L : List Sm) (x : Sm) (w : World) (e : Ending) (w' : World) : Prop :=
  e = .returned (.int .i64 (putOf most L x).1) ∧ RingIs w' rb lb most (putOf most L x).2 ∧ Fr (fun k => k = rb ∨ k = lb) w w'

theorem RingIs.full {w : World} {rb lb most first n : Nat} {buf : List Sm} {L : List Sm} (h : RingAt w rb lb most first n buf) (hl : ringL buf first n = L) : RingIs w rb lb most L := by
  subst hl
  exact ⟨first, buf, by rw [ringL_len]; exact h, by rw [ringL_len]⟩

set_option maxRecDepth 100000 in
set_option maxHeartbeats 1000000 in
/-- The place is free: what Put does at its end. -/
theorem put_stale (rb lb most : Nat) (L : List Sm) (x y : Sm) (w : World) (h : RingIs w rb lb most L) (h0 : 0 ≤ x.at0) (hy : L.getLast? = some y) (hs : x.at0 ≤ y.at0) :
    Calls Try.prog 36 #[.pointer (some ⟨rb, 0, none⟩), .int .i64 x.at0, .int .i64 x.v] w (PutPost rb lb most L x w) := by
  have hp : putOf most L x = (13, L) := by unfold putOf; rw [hy]; rw [if_pos (decide_eq_true hs)]
  have HI := Lib.hid h
  obtain ⟨first, buf, hR, hL⟩ := h
  have hm := hR.len
  have hn := hR.hn
  have hf := hR.hf
  obtain ⟨m, hm1⟩ : ∃ m, m + 1 = L.length := by
    cases L with
    | nil => cases hy
    | cons a t => exact ⟨t.length, rfl⟩
  obtain ⟨z, hz1, hz2⟩ := ringL_last buf first m (by omega) (by omega)
  rw [hm1, hL, hy] at hz2
  obtain rfl : y = z := Option.some.inj hz2
  rw [hm] at hz1
  have HC := Lib.hid (last_some rb lb most first L.length m hm1 buf y w hR hz1)
  have Hp := Lib.hid hp
  obtain ⟨xa, xv⟩ := x
  obtain ⟨ya, yv⟩ := y
  dsimp only at h0 hs HC
  clear hy hR hL hm hn hf hm1 hz1 hz2 hp
  go_enter Try.func36, Try.ntmps36
  go_wp2_with fail
  refine HC.out.mono ?_
  rintro e w1 ⟨rfl, hb⟩
  have Hb := Lib.hid hb
  clear hb
  go_wp2_with fail
  go_ret
  unfold PutPost
  rw [Hp.out]
  exact ⟨rfl, HI.out.below (Hb.out.alloc Hb.out.size _), Fr.of_below (Hb.out.alloc Hb.out.size _) _⟩

theorem buildSm (a v : Int) (w : World) : (Instr.build 91 [(0, .int .i64 a), (1, .int .i64 v)].toArray).run Try.prog w = .ok (.agg #[.int .i64 a, .int .i64 v]) w := by kernel_rfl
end Go.Proofs.Ytojealgjfbjnoaa
