/- Contracts of ring.Ring: Last, Put. Condition: the ring lies in blocks of the call's own. || The contract of ring.Ring's Put, and what a ring holds. Condition: the ring lies in blocks of the call's own. || The contract of ring.Ring's Put, where it goes in. Condition: the ring lies in blocks of the call's own. -/
import Derived.Test.YtoamjihchmokcaaRing
import Derived.Test.YtoamjihchmokcaaHeadLitM
namespace Go.Proofs.Ytoamjihchmokcaa
open Go.ChangeShapes Go.WideShapes Go.ChangeAt Go.RowKit Go.Deep

theorem at_dn {rb lb most first n : Nat} {buf : List Sm} {w : World} (h : RingAt w rb lb most first n buf) (i r : Nat) (hi : i ≤ 32) (hr : (first + i) % most = r) (p : Nat) :
    Calls Try.prog 38 #[.pointer (some ⟨rb, 0, none⟩), .int .i64 i] (w.drewN p) fun e w' => e = .returned (.int .i64 r) ∧ ∃ q, w' = w.drewN q := by
  subst hr
  refine (at_any rb lb most first n i buf _ (h.drewN p) hi).mono ?_
  rintro e w' ⟨rfl, q, rfl⟩
  exact ⟨rfl, p + q, World.drewN_drewN ..⟩

set_option maxRecDepth 100000 in
theorem last_none (rb lb most first : Nat) (buf : List Sm) (w : World) (h : RingAt w rb lb most first 0 buf) :
    Calls Try.prog 36 #[.pointer (some ⟨rb, 0, none⟩)] w fun e w' => e = .returned (.tuple #[.agg #[.int .i64 0, .int .i64 0], .bool false]) ∧ Below w.heap.size w w' := by
  have k0 : (w.alloc (.cells #[.int .i64 0, .int .i64 0] 64)).cell? ⟨w.heap.size, 0, none⟩ = some (.int .i64 0) := cell_new w _ _ 0
  have k1 : (w.alloc (.cells #[.int .i64 0, .int .i64 0] 64)).cell? ⟨w.heap.size, 1, none⟩ = some (.int .i64 0) := cell_new w _ _ 1
  have HR := Lib.hid h
  clear h
  go_enter Try.func36, Try.ntmps36
  go_wp2_with fail
  refine (ringLen_any rb lb most first 0 buf _ (HR.out.below ((Below.refl _ _).alloc (Nat.le_refl _) _))).mono ?_
  rintro e w1 ⟨rfl, rfl⟩
  go_wp2_with fail
  exact bodyPost_ret (v := .tuple #[.agg #[.int .i64 0, .int .i64 0], .bool false]) (by simp [results, Try.results36, go_sem, k0, k1]) rfl ⟨rfl, (Below.refl _ _).alloc (Nat.le_refl _) _⟩

set_option maxRecDepth 100000 in
set_option maxHeartbeats 1000000 in
theorem last_some (rb lb most first n m : Nat) (hnm : m + 1 = n) (buf : List Sm) (x : Sm) (w : World) (h : RingAt w rb lb most first n buf) (hx : buf[(first + m) % most]? = some x) :
    Calls Try.prog 36 #[.pointer (some ⟨rb, 0, none⟩)] w fun e w' => e = .returned (.tuple #[.agg #[.int .i64 x.at0, .int .i64 x.v], .bool true]) ∧ Below w.heap.size w w' := by
  have h1 := h.hf
  have h2 := h.hm
  have h4 := h.hn
  have hb0 : Below w.heap.size w (w.alloc (.cells #[.int .i64 0, .int .i64 0] 64)) := (Below.refl _ _).alloc (Nat.le_refl _) _
  have k0 : (w.alloc (.cells #[.int .i64 0, .int .i64 0] 64)).heap[w.heap.size]? = some (.cells #[.int .i64 0, .int .i64 0] 64 (0, 0)) := heap_alloc_new w _
  have HR := Lib.hid (h.below hb0)
  go_enter Try.func36, Try.ntmps36
  go_wp2_with fail
  refine (ringLen_any rb lb most first n buf _ HR.out).mono ?_
  rintro e w1 ⟨rfl, rfl⟩
  obtain ⟨w1, hw1⟩ : ∃ w1, w.alloc (.cells #[.int .i64 0, .int .i64 0] 64) = w1 := ⟨_, rfl⟩
  rw [hw1] at HR hb0 k0 ⊢
  obtain ⟨r, hr⟩ : ∃ r, (first + m) % most = r := ⟨_, rfl⟩
  rw [hr] at hx
  have hrl : r < buf.length := (List.getElem?_eq_some_iff.1 hx).1
  obtain ⟨e0, e1⟩ := HR.out.cell hrl
  have hxe : buf[r] = x := (List.getElem?_eq_some_iff.1 hx).2
  rw [hxe] at e0 e1
  have hrm : r < most := by have := HR.out.len; omega
  have hA := at_dn HR.out m r (by omega) hr
  obtain ⟨cp, hcp⟩ := HR.out.blk'
  obtain ⟨c0, c1, c2⟩ := cells3 hcp
  clear hcp
  have HA := Lib.hid hA
  have Hb0 := Lib.hid hb0
  have z0 := row_free k0 0
  have z1 := row_free k0 1
  have hne : ((n : Int) == 0) = false := beq_eq_false_iff_ne.2 (by omega)
  have hm1 : IntKind.i64.wrap ((n : Int) - 1) = (m : Int) := by rw [IntWalk.i64_in _ (by omega)]; omega
  have hr0 : (0 : Int) ≤ (r : Int) := by omega
  have hr1 : (r : Int) < (most : Int) := by omega
  obtain ⟨lastB, hlb⟩ : ∃ q, w.heap.size = q := ⟨_, rfl⟩
  rw [hlb] at k0 z0 z1 ⊢
  have y0 := cell_of_row w1 lastB 0 _ _ _ k0
  have y1 := cell_of_row w1 lastB 1 _ _ _ k0
  have Hk0 := Lib.hid k0
  have Hlb := Lib.hid hlb
  clear hw1 hb0 hx hxe hr HR h hA k0 hlb hnm
  go_upto_region 3 with fail
  refine wp_region_head_lit 13 (fun w' => ∃ p : Nat, w' = w1.drewN p) (by kernel_rfl) (by kernel_rfl) ⟨1, rfl⟩ ?_
  simp only [List.take_succ_cons, List.take_zero, List.drop_succ_cons, List.drop_zero]
  repeat (quiet_step (first | (go_at_call 38; exact HA.out _) | exact rfl))
  refine wpQuiet_nil ?_
  rintro w' ⟨p, rfl⟩
  go_wp2_with fail
  have hrow := row_setCell (i := 1) (row_setCell (i := 0) (show (w1.drewN p).heap[lastB]? = _ from Hk0.out) (.int .i64 x.at0)) (.int .i64 x.v)
  have q0 := cell_of_row _ lastB 0 _ _ _ hrow
  have q1 := cell_of_row _ lastB 1 _ _ _ hrow
  simp only [Array.setIfInBounds, Array.set] at q0 q1
  simp at q0 q1
  refine bodyPost_ret (v := .tuple #[.agg #[.int .i64 x.at0, .int .i64 x.v], .bool true]) (by simp [results, Try.results36, go_sem, q0, q1]) rfl ⟨rfl, ?_⟩
  exact ((drewN_below Hb0.out p).setCell (p := ⟨lastB, 0, none⟩) (by show w.heap.size ≤ lastB; rw [Hlb.out]; exact Nat.le_refl _) _).setCell (p := ⟨lastB, 1, none⟩) (by show w.heap.size ≤ lastB; rw [Hlb.out]; exact Nat.le_refl _) _
end Go.Proofs.Ytoamjihchmokcaa
namespace Go.Proofs.Ytoamjihchmokcaa
open Go.ChangeShapes Go.WideShapes Go.ChangeAt Go.RowKit Go.Deep

theorem mod_once {a m : Nat} (h : a < 2 * m) : a % m = if a < m then a else a - m := by
  by_cases q : a < m
  · rw [if_pos q, Nat.mod_eq_of_lt q]
  · rw [if_neg q, Nat.mod_eq_sub_mod (by omega), Nat.mod_eq_of_lt (by omega)]

theorem ringL_len (buf : List Sm) (first n : Nat) : (ringL buf first n).length = n := by simp [ringL]

theorem ringL_get (buf : List Sm) (first n : Nat) {i : Nat} (hi : i < n) (hf : first < buf.length) : (ringL buf first n)[i]'(by rw [ringL_len]; exact hi) = buf[(first + i) % buf.length]'(Nat.mod_lt _ (by omega)) := by
  have := Nat.mod_lt (first + i) (show 0 < buf.length by omega)
  simp only [ringL, List.getElem_map, List.getElem_range]
  exact getElem!_pos buf _ this

theorem ringL_put (buf : List Sm) (first n : Nat) (x : Sm) (hf : first < buf.length) (hn : n < buf.length) : ringL (buf.set ((first + n) % buf.length) x) first (n + 1) = ringL buf first n ++ [x] := by
  refine List.ext_getElem (by rw [List.length_append, ringL_len, ringL_len]; rfl) fun i h1 h2 => ?_
  rw [ringL_len] at h1
  rw [ringL_get _ _ _ h1 (by rw [List.length_set]; exact hf)]
  simp only [List.length_set]
  by_cases hi : i < n
  · rw [List.getElem_append_left (by rw [ringL_len]; exact hi), ringL_get _ _ _ hi hf, List.getElem_set]
    rw [if_neg]
    intro e
    rw [mod_once (show first + n < 2 * buf.length by omega), mod_once (show first + i < 2 * buf.length by omega)] at e
    split at e <;> split at e <;> omega
  · obtain rfl : i = n := by omega
    rw [List.getElem_append_right (by rw [ringL_len]; exact Nat.le_refl _)]
    simp [ringL_len]

theorem ringL_drop (buf : List Sm) (first n : Nat) (z : Sm) (hf : first < buf.length) (h1 : 1 ≤ n) (hn : n ≤ buf.length) : ringL (buf.set first z) ((first + 1) % buf.length) (n - 1) = (ringL buf first n).tail := by
  refine List.ext_getElem (by rw [List.length_tail, ringL_len, ringL_len]) fun i h2 h3 => ?_
  rw [ringL_len] at h2
  have hlt := Nat.mod_lt (first + 1) (show 0 < buf.length by omega)
  rw [ringL_get _ _ _ h2 (by rw [List.length_set]; exact hlt), List.getElem_tail, ringL_get _ _ _ (by omega) hf]
  simp only [List.length_set]
  have e1 : ((first + 1) % buf.length + i) % buf.length = (first + (i + 1)) % buf.length := by
    rw [Nat.mod_add_mod]
    congr 1
    omega
  rw [List.getElem_set, if_neg]
  · simp only [e1]
  · rw [e1, mod_once (show first + (i + 1) < 2 * buf.length by omega)]
    split <;> omega

theorem ringL_last (buf : List Sm) (first m : Nat) (hf : first < buf.length) (hm : m < buf.length) : ∃ x, buf[(first + m) % buf.length]? = some x ∧ (ringL buf first (m + 1)).getLast? = some x := by
  have hlt := Nat.mod_lt (first + m) (show 0 < buf.length by omega)
  refine ⟨buf[(first + m) % buf.length], List.getElem?_eq_getElem hlt, ?_⟩
  rw [List.getLast?_eq_getElem?, ringL_len, Nat.add_sub_cancel, List.getElem?_eq_getElem (by rw [ringL_len]; omega), ringL_get _ _ _ (by omega) hf]

def RingIs (w : World) (rb lb most : Nat) (L : List Sm) : Prop := ∃ first buf, RingAt w rb lb most first L.length buf ∧ ringL buf first L.length = L

theorem RingIs.fr {S : Nat → Prop} {w w' : World} {rb lb most : Nat} {L : List Sm} (h : RingIs w rb lb most L) (hf : Fr S w w') (h1 : ¬ S rb) (h2 : ¬ S lb) : RingIs w' rb lb most L :=
  let ⟨f, b, q1, q2⟩ := h; ⟨f, b, q1.fr hf h1 h2, q2⟩
theorem RingIs.below {w w' : World} {rb lb most : Nat} {L : List Sm} (h : RingIs w rb lb most L) (hb : Below w.heap.size w w') : RingIs w' rb lb most L :=
  let ⟨f, b, q1, q2⟩ := h; ⟨f, b, q1.below hb, q2⟩
theorem RingIs.lt {w : World} {rb lb most : Nat} {L : List Sm} (h : RingIs w rb lb most L) : rb < w.heap.size ∧ lb < w.heap.size := let ⟨_, _, q1, _⟩ := h; q1.lt

def putOf (most : Nat) (L : List Sm) (x : Sm) : Int × List Sm :=
  if (match L.getLast? with | some y => decide (x.at0 ≤ y.at0) | none => false) = true then (13, L) else (0, (if L.length = most then L.tail else L) ++ [x])

def PutPost (rb lb most : Nat) (L : List Sm) (x : Sm) (w : World) (e : Ending) (w' : World) : Prop :=
  e = .returned (.int .i64 (putOf most L x).1) ∧ RingIs w' rb lb most (putOf most L x).2 ∧ Fr (fun k => k = rb ∨ k = lb) w w'

theorem RingIs.full {w : World} {rb lb most first n : Nat} {buf : List Sm} {L : List Sm} (h : RingAt w rb lb most first n buf) (hl : ringL buf first n = L) : RingIs w rb lb most L := by
  subst hl
  exact ⟨first, buf, by rw [ringL_len]; exact h, by rw [ringL_len]⟩

set_option maxRecDepth 100000 in
set_option maxHeartbeats 1000000 in
theorem put_stale (rb lb most : Nat) (L : List Sm) (x y : Sm) (w : World) (h : RingIs w rb lb most L) (h0 : 0 ≤ x.at0) (hy : L.getLast? = some y) (hs : x.at0 ≤ y.at0) :
    Calls Try.prog 17 #[.pointer (some ⟨rb, 0, none⟩), .int .i64 x.at0, .int .i64 x.v] w (PutPost rb lb most L x w) := by
  have hp : putOf most L x = (13, L) := by unfold putOf; rw [hy]; rw [if_pos (decide_eq_true hs)]
  have HI := Lib.hid h
  obtain ⟨first, buf, hR, hL⟩ := h
  have hm := hR.len
  have hn := hR.hn
  have hf := hR.hf
  obtain ⟨m, hm1⟩ : ∃ m, m + 1 = L.length := by
    cases L with
    | nil => cases hy
    | cons a t => exact ⟨t.length, rfl⟩
  obtain ⟨z, hz1, hz2⟩ := ringL_last buf first m (by omega) (by omega)
  rw [hm1, hL, hy] at hz2
  obtain rfl : y = z := Option.some.inj hz2
  rw [hm] at hz1
  have HC := Lib.hid (last_some rb lb most first L.length m hm1 buf y w hR hz1)
  have Hp := Lib.hid hp
  obtain ⟨xa, xv⟩ := x
  obtain ⟨ya, yv⟩ := y
  dsimp only at h0 hs HC
  clear hy hR hL hm hn hf hm1 hz1 hz2 hp
  go_enter Try.func17, Try.ntmps17
  go_wp2_with fail
  refine HC.out.mono ?_
  rintro e w1 ⟨rfl, hb⟩
  have Hb := Lib.hid hb
  clear hb
  go_wp2_with fail
  go_ret
  unfold PutPost
  rw [Hp.out]
  exact ⟨rfl, HI.out.below (Hb.out.alloc Hb.out.size _), Fr.of_below (Hb.out.alloc Hb.out.size _) _⟩

theorem buildSm (a v : Int) (w : World) : (Instr.build 64 [(0, .int .i64 a), (1, .int .i64 v)].toArray).run Try.prog w = .ok (.agg #[.int .i64 a, .int .i64 v]) w := by kernel_rfl
end Go.Proofs.Ytoamjihchmokcaa
namespace Go.Proofs.Ytoamjihchmokcaa
open Go.ChangeShapes Go.WideShapes Go.ChangeAt Go.RowKit Go.Deep


set_option maxRecDepth 100000 in
set_option maxHeartbeats 1600000 in
theorem put_empty (rb lb most : Nat) (x : Sm) (w : World) (h : RingIs w rb lb most []) (h0 : 0 ≤ x.at0) :
    Calls Try.prog 17 #[.pointer (some ⟨rb, 0, none⟩), .int .i64 x.at0, .int .i64 x.v] w (PutPost rb lb most [] x w) := by
  obtain ⟨first, buf, hR, hL⟩ := h
  have hm := hR.len
  have hf := hR.hf
  have hm32 := hR.hm
  have hp : putOf most [] x = (0, [x]) := by
    unfold putOf
    rw [if_neg (by simp)]
    congr 1
    split <;> rfl
  have HC := Lib.hid (last_none rb lb most first buf w hR)
  have Hp := Lib.hid hp
  have HR := Lib.hid hR
  have hne : ((0 : Int) == (most : Int)) = false := beq_eq_false_iff_ne.2 (by omega)
  obtain ⟨xa, xv⟩ := x
  dsimp only at h0
  clear hR hL hp
  go_enter Try.func17, Try.ntmps17
  go_wp2_with fail
  refine HC.out.mono ?_
  rintro e w1 ⟨rfl, hb⟩
  go_upto_region 6 with fail
  have hb2 : Below w.heap.size w (w1.alloc (.cells #[.int .i64 0, .int .i64 0] 64)) := hb.alloc hb.size _
  obtain ⟨w2, hw2⟩ : ∃ w2, w1.alloc (.cells #[.int .i64 0, .int .i64 0] 64) = w2 := ⟨_, rfl⟩
  rw [hw2] at hb2 ⊢
  have hR2 := HR.out.below hb2
  obtain ⟨cp, hcp⟩ := hR2.blk'
  obtain ⟨c0, c1, c2⟩ := cells3 hcp
  clear hcp
  have HR2 := Lib.hid hR2
  have Hb2 := Lib.hid hb2
  clear hw2 hb hb2 hR2
  go_quiet (fail)
  rename_i nq
  obtain ⟨w3, hw3⟩ : ∃ w3, w2.drewN nq = w3 := ⟨_, rfl⟩
  have HRz : Hid (RingAt w3 rb lb most first 0 buf) := by rw [← hw3]; exact HR2.out.drewN nq
  have HFz : Hid (Fr (fun k => k = rb ∨ k = lb) w w3) := by rw [← hw3]; exact (Fr.of_below Hb2.out _).drewN nq
  rw [hw3]
  clear hw3 c0 c1 c2
  go_wp2_with fail
  obtain ⟨cp, hcp⟩ := HRz.out.blk'
  obtain ⟨c0, c1, c2⟩ := cells3 hcp
  clear hcp
  have hrl : (first + 0) % most < most := Nat.mod_lt _ (by omega)
  obtain ⟨r, hr⟩ : ∃ r, (first + 0) % most = r := ⟨_, rfl⟩
  rw [hr] at hrl
  have HA := Lib.hid (at_dn HRz.out 0 r (by omega) hr)
  have hrz0 : (0 : Int) ≤ (r : Int) := by omega
  have hrz1 : (r : Int) < (most : Int) := by omega
  have Hr := Lib.hid hr
  have hbl := HRz.out.len
  clear hr
  go_upto_region 8 with fail
  refine wp_region_head_lit 14 (fun w' => ∃ p : Nat, w' = w3.drewN p) (by kernel_rfl) (by kernel_rfl) ⟨1, rfl⟩ ?_
  simp only [List.take_succ_cons, List.take_zero, List.drop_succ_cons, List.drop_zero]
  repeat (quiet_step (first | (go_at_call 38; exact HA.out _) | exact rfl))
  refine wpQuiet_nil ?_
  rintro w' ⟨p, rfl⟩
  refine wpList_store_row aggSm rfl _ _ rfl rfl lb (r * 2) _ (Sm.cells ⟨xa, xv⟩).toArray rfl rfl (show (w3.drewN p).heap[lb]? = _ from HRz.out.row) rfl (by simp [flatMap_len (f := Sm.cells) (sz := 2) (fun _ => rfl)]; omega) rfl ?_
  rw [set_row_eq buf _ r ⟨xa, xv⟩ (by omega)]
  have hR5 : RingAt ((w3.drewN p).setRow lb (((buf).set r ⟨xa, xv⟩).flatMap Sm.cells ++ slackOf w3 lb (buf).length).toArray) rb lb most _ _ (buf.set r ⟨xa, xv⟩) := (HRz.out.drewN p).put r ⟨xa, xv⟩
  have hF5 : Fr (fun k => k = rb ∨ k = lb) w ((w3.drewN p).setRow lb (((buf).set r ⟨xa, xv⟩).flatMap Sm.cells ++ slackOf w3 lb (buf).length).toArray) := (HFz.out.drewN p).trans (Fr.setRow (fun k => k = rb ∨ k = lb) _ lb _ (.inr rfl)) (fun _ h => .inl h)
  obtain ⟨w5, hw5⟩ : ∃ w5, (w3.drewN p).setRow lb (((buf).set r ⟨xa, xv⟩).flatMap Sm.cells ++ slackOf w3 lb (buf).length).toArray = w5 := ⟨_, rfl⟩
  rw [hw5] at hR5 hF5 ⊢
  obtain ⟨cp, hcp⟩ := hR5.blk'
  obtain ⟨d0, d1, d2⟩ := cells3 hcp
  clear hcp
  have e2 := row_free hR5.blk 2
  have HR5 := Lib.hid hR5
  have HF5 := Lib.hid hF5
  clear hw5 hR5 hF5 c0 c1 c2
  go_wp2_with fail
  go_ret
  unfold PutPost
  rw [Hp.out]
  have hnn : ((0 : Nat) : Int) + 1 = ((0 + 1 : Nat) : Int) := by omega
  try rw [hnn]
  have hR6 := HR5.out.set2 (n2 := 0 + 1) (by omega)
  refine ⟨rfl, RingIs.full hR6 ?_, HF5.out.set1 (.inl rfl) _⟩
  rw [← Hr.out]
  have := ringL_put buf first 0 ⟨xa, xv⟩ (by omega) (by omega)
  rw [hbl] at this
  exact this

set_option maxRecDepth 100000 in
set_option maxHeartbeats 1600000 in
theorem put_more (rb lb most : Nat) (L : List Sm) (x y : Sm) (w : World) (h : RingIs w rb lb most L) (h0 : 0 ≤ x.at0) (hy : L.getLast? = some y) (hs : y.at0 < x.at0) :
    Calls Try.prog 17 #[.pointer (some ⟨rb, 0, none⟩), .int .i64 x.at0, .int .i64 x.v] w (PutPost rb lb most L x w) := by
  have hp : putOf most L x = (0, (if L.length = most then L.tail else L) ++ [x]) := by unfold putOf; rw [hy]; rw [if_neg (by simp; omega)]
  obtain ⟨first, buf, hR, hL⟩ := h
  have hm := hR.len
  have hn := hR.hn
  have hf := hR.hf
  have hm32 := hR.hm
  obtain ⟨m, hm1⟩ : ∃ m, m + 1 = L.length := by
    cases L with
    | nil => cases hy
    | cons a t => exact ⟨t.length, rfl⟩
  obtain ⟨z, hz1, hz2⟩ := ringL_last buf first m (by omega) (by omega)
  rw [hm1, hL, hy] at hz2
  obtain rfl : y = z := Option.some.inj hz2
  rw [hm] at hz1
  obtain ⟨n, hln⟩ : ∃ n, L.length = n := ⟨_, rfl⟩
  rw [hln] at hR hL hn hm1 hp
  have HC := Lib.hid (last_some rb lb most first n m hm1 buf y w hR hz1)
  have Hp := Lib.hid hp
  have HR := Lib.hid hR
  have HL := Lib.hid hL
  have Hm1 := Lib.hid hm1
  obtain ⟨xa, xv⟩ := x
  obtain ⟨ya, yv⟩ := y
  dsimp only at h0 hs HC
  clear hy hR hL hz1 hz2 hp hln
  have hnm : n < most ∨ n = most := by omega
  rcases hnm with hlt | rfl
  · have hne : ((n : Int) == (most : Int)) = false := beq_eq_false_iff_ne.2 (by omega)
    clear hm1
    go_enter Try.func17, Try.ntmps17
    go_wp2_with fail
    refine HC.out.mono ?_
    rintro e w1 ⟨rfl, hb⟩
    go_upto_region 6 with fail
    have hb2 : Below w.heap.size w (w1.alloc (.cells #[.int .i64 ya, .int .i64 yv] 64)) := hb.alloc hb.size _
    obtain ⟨w2, hw2⟩ : ∃ w2, w1.alloc (.cells #[.int .i64 ya, .int .i64 yv] 64) = w2 := ⟨_, rfl⟩
    rw [hw2] at hb2 ⊢
    have hR2 := HR.out.below hb2
    obtain ⟨cp, hcp⟩ := hR2.blk'
    obtain ⟨c0, c1, c2⟩ := cells3 hcp
    clear hcp
    have HR2 := Lib.hid hR2
    have Hb2 := Lib.hid hb2
    clear hw2 hb hb2 hR2
    go_quiet (fail)
    rename_i nq
    obtain ⟨w3, hw3⟩ : ∃ w3, w2.drewN nq = w3 := ⟨_, rfl⟩
    have HRz : Hid (RingAt w3 rb lb most first n buf) := by rw [← hw3]; exact HR2.out.drewN nq
    have HFz : Hid (Fr (fun k => k = rb ∨ k = lb) w w3) := by rw [← hw3]; exact (Fr.of_below Hb2.out _).drewN nq
    rw [hw3]
    clear hw3 c0 c1 c2
    go_wp2_with fail
    obtain ⟨cp, hcp⟩ := HRz.out.blk'
    obtain ⟨c0, c1, c2⟩ := cells3 hcp
    clear hcp
    have hrl : (first + n) % most < most := Nat.mod_lt _ (by omega)
    obtain ⟨r, hr⟩ : ∃ r, (first + n) % most = r := ⟨_, rfl⟩
    rw [hr] at hrl
    have HA := Lib.hid (at_dn HRz.out n r (by omega) hr)
    have hrz0 : (0 : Int) ≤ (r : Int) := by omega
    have hrz1 : (r : Int) < (most : Int) := by omega
    have Hr := Lib.hid hr
    have hbl := HRz.out.len
    clear hr
    go_upto_region 8 with fail
    refine wp_region_head_lit 14 (fun w' => ∃ p : Nat, w' = w3.drewN p) (by kernel_rfl) (by kernel_rfl) ⟨1, rfl⟩ ?_
    simp only [List.take_succ_cons, List.take_zero, List.drop_succ_cons, List.drop_zero]
    repeat (quiet_step (first | (go_at_call 38; exact HA.out _) | exact rfl))
    refine wpQuiet_nil ?_
    rintro w' ⟨p, rfl⟩
    refine wpList_store_row aggSm rfl _ _ rfl rfl lb (r * 2) _ (Sm.cells ⟨xa, xv⟩).toArray rfl rfl (show (w3.drewN p).heap[lb]? = _ from HRz.out.row) rfl (by simp [flatMap_len (f := Sm.cells) (sz := 2) (fun _ => rfl)]; omega) rfl ?_
    rw [set_row_eq buf _ r ⟨xa, xv⟩ (by omega)]
    have hR5 : RingAt ((w3.drewN p).setRow lb (((buf).set r ⟨xa, xv⟩).flatMap Sm.cells ++ slackOf w3 lb (buf).length).toArray) rb lb most _ _ (buf.set r ⟨xa, xv⟩) := (HRz.out.drewN p).put r ⟨xa, xv⟩
    have hF5 : Fr (fun k => k = rb ∨ k = lb) w ((w3.drewN p).setRow lb (((buf).set r ⟨xa, xv⟩).flatMap Sm.cells ++ slackOf w3 lb (buf).length).toArray) := (HFz.out.drewN p).trans (Fr.setRow (fun k => k = rb ∨ k = lb) _ lb _ (.inr rfl)) (fun _ h => .inl h)
    obtain ⟨w5, hw5⟩ : ∃ w5, (w3.drewN p).setRow lb (((buf).set r ⟨xa, xv⟩).flatMap Sm.cells ++ slackOf w3 lb (buf).length).toArray = w5 := ⟨_, rfl⟩
    rw [hw5] at hR5 hF5 ⊢
    obtain ⟨cp, hcp⟩ := hR5.blk'
    obtain ⟨d0, d1, d2⟩ := cells3 hcp
    clear hcp
    have e2 := row_free hR5.blk 2
    have HR5 := Lib.hid hR5
    have HF5 := Lib.hid hF5
    clear hw5 hR5 hF5 c0 c1 c2
    go_wp2_with fail
    go_ret
    unfold PutPost
    rw [Hp.out]
    have hnn : ((n : Nat) : Int) + 1 = ((n + 1 : Nat) : Int) := by omega
    try rw [hnn]
    have hR6 := HR5.out.set2 (n2 := n + 1) (by omega)
    refine ⟨rfl, RingIs.full hR6 ?_, HF5.out.set1 (.inl rfl) _⟩
    rw [← Hr.out]
    have := ringL_put buf first n ⟨xa, xv⟩ (by omega) (by omega)
    rw [hbl, HL.out] at this
    rw [if_neg (by omega)]
    exact this
  · clear hm1
    have heq : ((n : Int) == (n : Int)) = true := beq_self_eq_true _
    go_enter Try.func17, Try.ntmps17
    go_wp2_with fail
    refine HC.out.mono ?_
    rintro e w1 ⟨rfl, hb⟩
    go_upto_region 6 with fail
    have hb2 : Below w.heap.size w (w1.alloc (.cells #[.int .i64 ya, .int .i64 yv] 64)) := hb.alloc hb.size _
    obtain ⟨w2, hw2⟩ : ∃ w2, w1.alloc (.cells #[.int .i64 ya, .int .i64 yv] 64) = w2 := ⟨_, rfl⟩
    rw [hw2] at hb2 ⊢
    have hR2 := HR.out.below hb2
    obtain ⟨cp, hcp⟩ := hR2.blk'
    obtain ⟨c0, c1, c2⟩ := cells3 hcp
    clear hcp
    have HR2 := Lib.hid hR2
    have Hb2 := Lib.hid hb2
    clear hw2 hb hb2 hR2
    go_quiet (fail)
    rename_i nq
    obtain ⟨w3, hw3⟩ : ∃ w3, w2.drewN nq = w3 := ⟨_, rfl⟩
    have HR3 : Hid (RingAt w3 rb lb n first n buf) := by rw [← hw3]; exact HR2.out.drewN nq
    have HF3 : Hid (Fr (fun k => k = rb ∨ k = lb) w w3) := by rw [← hw3]; exact (Fr.of_below Hb2.out _).drewN nq
    rw [hw3]
    clear hw3 c0 c1 c2 heq
    go_wp2_with fail
    refine (drop_any rb lb n first n buf w3 HR3.out (by have := Hm1.out; omega)).mono ?_
    rintro e w4 ⟨⟨vd, rfl⟩, hR4, hF4⟩
    obtain ⟨f2, hf2⟩ : ∃ f2, (first + 1) % n = f2 := ⟨_, rfl⟩
    rw [hf2] at hR4
    have hf2l : f2 < n := by rw [← hf2]; exact Nat.mod_lt _ (by omega)
    obtain ⟨n2, hn2⟩ : ∃ n2, n - 1 = n2 := ⟨_, rfl⟩
    rw [hn2] at hR4
    have HRz := Lib.hid hR4
    have HFz := Lib.hid (HF3.out.trans hF4 (fun _ h => .inl h))
    have Hf2 := Lib.hid hf2
    have Hn2 := Lib.hid hn2
    have hn2l : n2 < n := by have := Hm1.out; omega
    obtain ⟨bu2, hbu2⟩ : ∃ b, buf.set first Sm.zero = b := ⟨_, rfl⟩
    rw [hbu2] at HRz
    have Hbu2 := Lib.hid hbu2
    obtain ⟨most, hmost⟩ : ∃ q, n = q := ⟨_, rfl⟩
    clear hR4 hF4 hf2 hn2 hbu2
    have hn1 : 1 ≤ n := by have := Hm1.out; omega
    clear hmost
    go_wp2_with fail
    obtain ⟨cp, hcp⟩ := HRz.out.blk'
    obtain ⟨c0, c1, c2⟩ := cells3 hcp
    clear hcp
    have hrl : (f2 + n2) % n < n := Nat.mod_lt _ (by omega)
    obtain ⟨r, hr⟩ : ∃ r, (f2 + n2) % n = r := ⟨_, rfl⟩
    rw [hr] at hrl
    have HA := Lib.hid (at_dn HRz.out n2 r (by omega) hr)
    have hrz0 : (0 : Int) ≤ (r : Int) := by omega
    have hrz1 : (r : Int) < (n : Int) := by omega
    have Hr := Lib.hid hr
    have hbl := HRz.out.len
    clear hr
    go_upto_region 8 with fail
    refine wp_region_head_lit 14 (fun w' => ∃ p : Nat, w' = w4.drewN p) (by kernel_rfl) (by kernel_rfl) ⟨1, rfl⟩ ?_
    simp only [List.take_succ_cons, List.take_zero, List.drop_succ_cons, List.drop_zero]
    repeat (quiet_step (first | (go_at_call 38; exact HA.out _) | exact rfl))
    refine wpQuiet_nil ?_
    rintro w' ⟨p, rfl⟩
    refine wpList_store_row aggSm rfl _ _ rfl rfl lb (r * 2) _ (Sm.cells ⟨xa, xv⟩).toArray rfl rfl (show (w4.drewN p).heap[lb]? = _ from HRz.out.row) rfl (by simp [flatMap_len (f := Sm.cells) (sz := 2) (fun _ => rfl)]; omega) rfl ?_
    rw [set_row_eq bu2 _ r ⟨xa, xv⟩ (by omega)]
    have hR5 : RingAt ((w4.drewN p).setRow lb (((bu2).set r ⟨xa, xv⟩).flatMap Sm.cells ++ slackOf w4 lb (bu2).length).toArray) rb lb _ _ _ (bu2.set r ⟨xa, xv⟩) := (HRz.out.drewN p).put r ⟨xa, xv⟩
    have hF5 : Fr (fun k => k = rb ∨ k = lb) w ((w4.drewN p).setRow lb (((bu2).set r ⟨xa, xv⟩).flatMap Sm.cells ++ slackOf w4 lb (bu2).length).toArray) := (HFz.out.drewN p).trans (Fr.setRow (fun k => k = rb ∨ k = lb) _ lb _ (.inr rfl)) (fun _ h => .inl h)
    obtain ⟨w5, hw5⟩ : ∃ w5, (w4.drewN p).setRow lb (((bu2).set r ⟨xa, xv⟩).flatMap Sm.cells ++ slackOf w4 lb (bu2).length).toArray = w5 := ⟨_, rfl⟩
    rw [hw5] at hR5 hF5 ⊢
    obtain ⟨cp, hcp⟩ := hR5.blk'
    obtain ⟨d0, d1, d2⟩ := cells3 hcp
    clear hcp
    have e2 := row_free hR5.blk 2
    have HR5 := Lib.hid hR5
    have HF5 := Lib.hid hF5
    clear hw5 hR5 hF5 c0 c1 c2
    go_wp2_with fail
    go_ret
    unfold PutPost
    rw [Hp.out]
    have hnn : ((n2 : Nat) : Int) + 1 = ((n2 + 1 : Nat) : Int) := by omega
    try rw [hnn]
    have hR6 := HR5.out.set2 (n2 := n2 + 1) (by omega)
    refine ⟨rfl, RingIs.full hR6 ?_, HF5.out.set1 (.inl rfl) _⟩
    rw [← Hr.out]
    have h1 := ringL_put bu2 f2 n2 ⟨xa, xv⟩ (by omega) (by omega)
    rw [hbl] at h1
    have h2 := ringL_drop buf first n Sm.zero (by omega) (by omega) (by omega)
    rw [hm, Hf2.out, Hbu2.out, Hn2.out, HL.out] at h2
    rw [h2] at h1
    rw [if_pos trivial]
    exact h1

theorem put_any (rb lb most : Nat) (L : List Sm) (x : Sm) (w : World) (h : RingIs w rb lb most L) (h0 : 0 ≤ x.at0) :
    Calls Try.prog 17 #[.pointer (some ⟨rb, 0, none⟩), .int .i64 x.at0, .int .i64 x.v] w (PutPost rb lb most L x w) := by
  cases hy : L.getLast? with
  | none =>
    obtain rfl : L = [] := by
      cases L with
      | nil => rfl
      | cons a t => simp at hy
    exact put_empty rb lb most x w h h0
  | some y =>
    by_cases hs : x.at0 ≤ y.at0
    · exact put_stale rb lb most L x y w h h0 hy hs
    · exact put_more rb lb most L x y w h h0 hy (by omega)
end Go.Proofs.Ytoamjihchmokcaa
