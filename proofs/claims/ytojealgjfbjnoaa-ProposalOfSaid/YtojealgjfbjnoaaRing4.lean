/- The contract of ring.Ring's Put, where it goes in. Condition: the ring lies in blocks of the call's own. -/
import Derived.Test.YtojealgjfbjnoaaRing3M
namespace Go.Proofs.Ytojealgjfbjnoaa
open Go.ChangeShapes Go.WideShapes Go.ChangeAt Go.RowKit Go.Deep


set_option maxRecDepth 100000 in
set_option maxHeartbeats 1600000 in
theorem put_empty (rb lb most : Nat) (x : Sm) (w : World) (h : RingIs w rb lb most []) (h0 : 0 ≤ x.at0) :
    Calls Try.prog 36 #[.pointer (some ⟨rb, 0, none⟩), .int .i64 x.at0, .int .i64 x.v] w (PutPost rb lb most [] x w) := by
  obtain ⟨first, buf, hR, hL⟩ := h
  have hm := hR.len
  have hf := hR.hf
  have hm32 := hR.hm
  have hp : putOf most [] x = (0, [x]) := by
    unfold putOf
    rw [if_neg (by simp)]
    congr 1
    split <;> rfl
  have HC := Lib.hid (last_none rb lb most first buf w hR)
  have Hp := Lib.hid hp
  have HR := Lib.hid hR
  have hne : ((0 : Int) == (most : Int)) = false := beq_eq_false_iff_ne.2 (by omega)
  obtain ⟨xa, xv⟩ := x
  dsimp only at h0
  clear hR hL hp
  go_enter Try.func36, Try.ntmps36
  go_wp2_with fail
  refine HC.out.mono ?_
  rintro e w1 ⟨rfl, hb⟩
  go_upto_region 6 with fail
  have hb2 : Below w.heap.size w (w1.alloc (.cells #[.int .i64 0, .int .i64 0] 91)) := hb.alloc hb.size _
  obtain ⟨w2, hw2⟩ : ∃ w2, w1.alloc (.cells #[.int .i64 0, .int .i64 0] 91) = w2 := ⟨_, rfl⟩
  rw [hw2] at hb2 ⊢
  have hR2 := HR.out.below hb2
  obtain ⟨c0, c1, c2⟩ := cells3 hR2.blk
  have HR2 := Lib.hid hR2
  have Hb2 := Lib.hid hb2
  clear hw2 hb hb2 hR2
  go_quiet (fail)
  rename_i nq
  obtain ⟨w3, hw3⟩ : ∃ w3, w2.drewN nq = w3 := ⟨_, rfl⟩
  have HRz : Hid (RingAt w3 rb lb most first 0 buf) := by rw [← hw3]; exact HR2.out.drewN nq
  have HFz : Hid (Fr (fun k => k = rb ∨ k = lb) w w3) := by rw [← hw3]; exact (Fr.of_below Hb2.out _).drewN nq
  rw [hw3]
  clear hw3 c0 c1 c2
  go_wp2_with fail
  obtain ⟨c0, c1, c2⟩ := cells3 HRz.out.blk
  have hrl : (first + 0) % most < most := Nat.mod_lt _ (by omega)
  obtain ⟨r, hr⟩ : ∃ r, (first + 0) % most = r := ⟨_, rfl⟩
  rw [hr] at hrl
  have HA := Lib.hid (at_dn HRz.out 0 r (by omega) hr)
  have hrz0 : (0 : Int) ≤ (r : Int) := by omega
  have hrz1 : (r : Int) < (most : Int) := by omega
  have Hr := Lib.hid hr
  have hbl := HRz.out.len
  clear hr
  go_upto_region 8 with fail
  refine wp_region_head_lit 14 (fun w' => ∃ p : Nat, w' = w3.drewN p) (by kernel_rfl) (by kernel_rfl) ⟨1, rfl⟩ ?_
  simp only [List.take_succ_cons, List.take_zero, List.drop_succ_cons, List.drop_zero]
  repeat (quiet_step (first | (go_at_call 47; exact HA.out _) | exact rfl))
  refine wpQuiet_nil ?_
  rintro w' ⟨p, rfl⟩
  refine wpList_store_row aggSm rfl _ _ rfl rfl lb (r * 2) _ (Sm.cells ⟨xa, xv⟩).toArray rfl rfl (show (w3.drewN p).heap[lb]? = _ from HRz.out.row) rfl (by simp [flatMap_len (f := Sm.cells) (sz := 2) (fun _ => rfl)]; omega) rfl ?_
  rw [set_row_eq buf r ⟨xa, xv⟩ (by omega)]
  have hR5 := (HRz.out.drewN p).put r ⟨xa, xv⟩
  have hF5 : Fr (fun k => k = rb ∨ k = lb) w ((w3.drewN p).setRow lb (((buf).set r ⟨xa, xv⟩).flatMap Sm.cells).toArray) := (HFz.out.drewN p).trans (Fr.setRow (fun k => k = rb ∨ k = lb) _ lb _ (.inr rfl)) (fun _ h => .inl h)
  obtain ⟨w5, hw5⟩ : ∃ w5, (w3.drewN p).setRow lb (((buf).set r ⟨xa, xv⟩).flatMap Sm.cells).toArray = w5 := ⟨_, rfl⟩
  rw [hw5] at hR5 hF5 ⊢
  obtain ⟨d0, d1, d2⟩ := cells3 hR5.blk
  have e2 := row_free hR5.blk 2
  have HR5 := Lib.hid hR5
  have HF5 := Lib.hid hF5
  clear hw5 hR5 hF5 c0 c1 c2
  go_wp2_with fail
  go_ret
  unfold PutPost
  rw [Hp.out]
  have hnn : ((0 : Nat) : Int) + 1 = ((0 + 1 : Nat) : Int) := by omega
  try rw [hnn]
  have hR6 := HR5.out.set2 (n2 := 0 + 1) (by omega)
  refine ⟨rfl, RingIs.full hR6 ?_, HF5.out.set1 (.inl rfl) _⟩
  rw [← Hr.out]
  have := ringL_put buf first 0 ⟨xa, xv⟩ (by omega) (by omega)
  rw [hbl] at this
  exact this

set_option maxRecDepth 100000 in
set_option maxHeartbeats 1600000 in
theorem put_more (rb lb most : Nat) (L : List Sm) (x y : Sm) (w : World) (h : RingIs w rb lb most L) (h0 : 0 ≤ x.at0) (hy : L.getLast? = some y) (hs : y.at0 < x.at0) :
    Calls Try.prog 36 #[.pointer (some ⟨rb, 0, none⟩), .int .i64 x.at0, .int .i64 x.v] w (PutPost rb lb most L x w) := by
  have hp : putOf most L x = (0, (if L.length = most then L.tail else L) ++ [x]) := by unfold putOf; rw [hy]; rw [if_neg (by simp; omega)]
  obtain ⟨first, buf, hR, hL⟩ := h
  have hm := hR.len
  have hn := hR.hn
  have hf := hR.hf
  have hm32 := hR.hm
  obtain ⟨m, hm1⟩ : ∃ m, m + 1 = L.length := by
    cases L with
    | nil => cases hy
    | cons a t => exact ⟨t.length, rfl⟩
  obtain ⟨z, hz1, hz2⟩ := ringL_last buf first m (by omega) (by omega)
  rw [hm1, hL, hy] at hz2
  obtain rfl : y = z := Option.some.inj hz2
  rw [hm] at hz1
  obtain ⟨n, hln⟩ : ∃ n, L.length = n := ⟨_, rfl⟩
  rw [hln] at hR hL hn hm1 hp
  have HC := Lib.hid (last_some rb lb most first n m hm1 buf y w hR hz1)
  have Hp := Lib.hid hp
  have HR := Lib.hid hR
  have HL := Lib.hid hL
  have Hm1 := Lib.hid hm1
  obtain ⟨xa, xv⟩ := x
  obtain ⟨ya, yv⟩ := y
  dsimp only at h0 hs HC
  clear hy hR hL hz1 hz2 hp hln
  have hnm : n < most ∨ n = most := by omega
  rcases hnm with hlt | rfl
  · have hne : ((n : Int) == (most : Int)) = false := beq_eq_false_iff_ne.2 (by omega)
    clear hm1
    go_enter Try.func36, Try.ntmps36
    go_wp2_with fail
    refine HC.out.mono ?_
    rintro e w1 ⟨rfl, hb⟩
    go_upto_region 6 with fail
    have hb2 : Below w.heap.size w (w1.alloc (.cells #[.int .i64 ya, .int .i64 yv] 91)) := hb.alloc hb.size _
    obtain ⟨w2, hw2⟩ : ∃ w2, w1.alloc (.cells #[.int .i64 ya, .int .i64 yv] 91) = w2 := ⟨_, rfl⟩
    rw [hw2] at hb2 ⊢
    have hR2 := HR.out.below hb2
    obtain ⟨c0, c1, c2⟩ := cells3 hR2.blk
    have HR2 := Lib.hid hR2
    have Hb2 := Lib.hid hb2
    clear hw2 hb hb2 hR2
    go_quiet (fail)
    rename_i nq
    obtain ⟨w3, hw3⟩ : ∃ w3, w2.drewN nq = w3 := ⟨_, rfl⟩
    have HRz : Hid (RingAt w3 rb lb most first n buf) := by rw [← hw3]; exact HR2.out.drewN nq
    have HFz : Hid (Fr (fun k => k = rb ∨ k = lb) w w3) := by rw [← hw3]; exact (Fr.of_below Hb2.out _).drewN nq
    rw [hw3]
    clear hw3 c0 c1 c2
    go_wp2_with fail
    obtain ⟨c0, c1, c2⟩ := cells3 HRz.out.blk
    have hrl : (first + n) % most < most := Nat.mod_lt _ (by omega)
    obtain ⟨r, hr⟩ : ∃ r, (first + n) % most = r := ⟨_, rfl⟩
    rw [hr] at hrl
    have HA := Lib.hid (at_dn HRz.out n r (by omega) hr)
    have hrz0 : (0 : Int) ≤ (r : Int) := by omega
    have hrz1 : (r : Int) < (most : Int) := by omega
    have Hr := Lib.hid hr
    have hbl := HRz.out.len
    clear hr
    go_upto_region 8 with fail
    refine wp_region_head_lit 14 (fun w' => ∃ p : Nat, w' = w3.drewN p) (by kernel_rfl) (by kernel_rfl) ⟨1, rfl⟩ ?_
    simp only [List.take_succ_cons, List.take_zero, List.drop_succ_cons, List.drop_zero]
    repeat (quiet_step (first | (go_at_call 47; exact HA.out _) | exact rfl))
    refine wpQuiet_nil ?_
    rintro w' ⟨p, rfl⟩
    refine wpList_store_row aggSm rfl _ _ rfl rfl lb (r * 2) _ (Sm.cells ⟨xa, xv⟩).toArray rfl rfl (show (w3.drewN p).heap[lb]? = _ from HRz.out.row) rfl (by simp [flatMap_len (f := Sm.cells) (sz := 2) (fun _ => rfl)]; omega) rfl ?_
    rw [set_row_eq buf r ⟨xa, xv⟩ (by omega)]
    have hR5 := (HRz.out.drewN p).put r ⟨xa, xv⟩
    have hF5 : Fr (fun k => k = rb ∨ k = lb) w ((w3.drewN p).setRow lb (((buf).set r ⟨xa, xv⟩).flatMap Sm.cells).toArray) := (HFz.out.drewN p).trans (Fr.setRow (fun k => k = rb ∨ k = lb) _ lb _ (.inr rfl)) (fun _ h => .inl h)
    obtain ⟨w5, hw5⟩ : ∃ w5, (w3.drewN p).setRow lb (((buf).set r ⟨xa, xv⟩).flatMap Sm.cells).toArray = w5 := ⟨_, rfl⟩
    rw [hw5] at hR5 hF5 ⊢
    obtain ⟨d0, d1, d2⟩ := cells3 hR5.blk
    have e2 := row_free hR5.blk 2
    have HR5 := Lib.hid hR5
    have HF5 := Lib.hid hF5
    clear hw5 hR5 hF5 c0 c1 c2
    go_wp2_with fail
    go_ret
    unfold PutPost
    rw [Hp.out]
    have hnn : ((n : Nat) : Int) + 1 = ((n + 1 : Nat) : Int) := by omega
    try rw [hnn]
    have hR6 := HR5.out.set2 (n2 := n + 1) (by omega)
    refine ⟨rfl, RingIs.full hR6 ?_, HF5.out.set1 (.inl rfl) _⟩
    rw [← Hr.out]
    have := ringL_put buf first n ⟨xa, xv⟩ (by omega) (by omega)
    rw [hbl, HL.out] at this
    rw [if_neg (by omega)]
    exact this
  · clear hm1
    have heq : ((n : Int) == (n : Int)) = true := beq_self_eq_true _
    go_enter Try.func36, Try.ntmps36
    go_wp2_with fail
    refine HC.out.mono ?_
    rintro e w1 ⟨rfl, hb⟩
    go_upto_region 6 with fail
    have hb2 : Below w.heap.size w (w1.alloc (.cells #[.int .i64 ya, .int .i64 yv] 91)) := hb.alloc hb.size _
    obtain ⟨w2, hw2⟩ : ∃ w2, w1.alloc (.cells #[.int .i64 ya, .int .i64 yv] 91) = w2 := ⟨_, rfl⟩
    rw [hw2] at hb2 ⊢
    have hR2 := HR.out.below hb2
    obtain ⟨c0, c1, c2⟩ := cells3 hR2.blk
    have HR2 := Lib.hid hR2
    have Hb2 := Lib.hid hb2
    clear hw2 hb hb2 hR2
    go_quiet (fail)
    rename_i nq
    obtain ⟨w3, hw3⟩ : ∃ w3, w2.drewN nq = w3 := ⟨_, rfl⟩
    have HR3 : Hid (RingAt w3 rb lb n first n buf) := by rw [← hw3]; exact HR2.out.drewN nq
    have HF3 : Hid (Fr (fun k => k = rb ∨ k = lb) w w3) := by rw [← hw3]; exact (Fr.of_below Hb2.out _).drewN nq
    rw [hw3]
    clear hw3 c0 c1 c2 heq
    go_wp2_with fail
    refine (drop_any rb lb n first n buf w3 HR3.out (by have := Hm1.out; omega)).mono ?_
    rintro e w4 ⟨⟨vd, rfl⟩, hR4, hF4⟩
    obtain ⟨f2, hf2⟩ : ∃ f2, (first + 1) % n = f2 := ⟨_, rfl⟩
    rw [hf2] at hR4
    have hf2l : f2 < n := by rw [← hf2]; exact Nat.mod_lt _ (by omega)
    obtain ⟨n2, hn2⟩ : ∃ n2, n - 1 = n2 := ⟨_, rfl⟩
    rw [hn2] at hR4
    have HRz := Lib.hid hR4
    have HFz := Lib.hid (HF3.out.trans hF4 (fun _ h => .inl h))
    have Hf2 := Lib.hid hf2
    have Hn2 := Lib.hid hn2
    have hn2l : n2 < n := by have := Hm1.out; omega
    obtain ⟨bu2, hbu2⟩ : ∃ b, buf.set first Sm.zero = b := ⟨_, rfl⟩
    rw [hbu2] at HRz
    have Hbu2 := Lib.hid hbu2
    obtain ⟨most, hmost⟩ : ∃ q, n = q := ⟨_, rfl⟩
    clear hR4 hF4 hf2 hn2 hbu2
    have hn1 : 1 ≤ n := by have := Hm1.out; omega
    clear hmost
    go_wp2_with fail
    obtain ⟨c0, c1, c2⟩ := cells3 HRz.out.blk
    have hrl : (f2 + n2) % n < n := Nat.mod_lt _ (by omega)
    obtain ⟨r, hr⟩ : ∃ r, (f2 + n2) % n = r := ⟨_, rfl⟩
    rw [hr] at hrl
    have HA := Lib.hid (at_dn HRz.out n2 r (by omega) hr)
    have hrz0 : (0 : Int) ≤ (r : Int) := by omega
    have hrz1 : (r : Int) < (n : Int) := by omega
    have Hr := Lib.hid hr
    have hbl := HRz.out.len
    clear hr
    go_upto_region 8 with fail
    refine wp_region_head_lit 14 (fun w' => ∃ p : Nat, w' = w4.drewN p) (by kernel_rfl) (by kernel_rfl) ⟨1, rfl⟩ ?_
    simp only [List.take_succ_cons, List.take_zero, List.drop_succ_cons, List.drop_zero]
    repeat (quiet_step (first | (go_at_call 47; exact HA.out _) | exact rfl))
    refine wpQuiet_nil ?_
    rintro w' ⟨p, rfl⟩
    refine wpList_store_row aggSm rfl _ _ rfl rfl lb (r * 2) _ (Sm.cells ⟨xa, xv⟩).toArray rfl rfl (show (w4.drewN p).heap[lb]? = _ from HRz.out.row) rfl (by simp [flatMap_len (f := Sm.cells) (sz := 2) (fun _ => rfl)]; omega) rfl ?_
    rw [set_row_eq bu2 r ⟨xa, xv⟩ (by omega)]
    have hR5 := (HRz.out.drewN p).put r ⟨xa, xv⟩
    have hF5 : Fr (fun k => k = rb ∨ k = lb) w ((w4.drewN p).setRow lb (((bu2).set r ⟨xa, xv⟩).flatMap Sm.cells).toArray) := (HFz.out.drewN p).trans (Fr.setRow (fun k => k = rb ∨ k = lb) _ lb _ (.inr rfl)) (fun _ h => .inl h)
    obtain ⟨w5, hw5⟩ : ∃ w5, (w4.drewN p).setRow lb (((bu2).set r ⟨xa, xv⟩).flatMap Sm.cells).toArray = w5 := ⟨_, rfl⟩
    rw [hw5] at hR5 hF5 ⊢
    obtain ⟨d0, d1, d2⟩ := cells3 hR5.blk
    have e2 := row_free hR5.blk 2
    have HR5 := Lib.hid hR5
    have HF5 := Lib.hid hF5
    clear hw5 hR5 hF5 c0 c1 c2
    go_wp2_with fail
    go_ret
    unfold PutPost
    rw [Hp.out]
    have hnn : ((n2 : Nat) : Int) + 1 = ((n2 + 1 : Nat) : Int) := by omega
    try rw [hnn]
    have hR6 := HR5.out.set2 (n2 := n2 + 1) (by omega)
    refine ⟨rfl, RingIs.full hR6 ?_, HF5.out.set1 (.inl rfl) _⟩
    rw [← Hr.out]
    have h1 := ringL_put bu2 f2 n2 ⟨xa, xv⟩ (by omega) (by omega)
    rw [hbl] at h1
    have h2 := ringL_drop buf first n Sm.zero (by omega) (by omega) (by omega)
    rw [hm, Hf2.out, Hbu2.out, Hn2.out, HL.out] at h2
    rw [h2] at h1
    rw [if_pos trivial]
    exact h1

theorem put_any (rb lb most : Nat) (L : List Sm) (x : Sm) (w : World) (h : RingIs w rb lb most L) (h0 : 0 ≤ x.at0) :
    Calls Try.prog 36 #[.pointer (some ⟨rb, 0, none⟩), .int .i64 x.at0, .int .i64 x.v] w (PutPost rb lb most L x w) := by
  cases hy : L.getLast? with
  | none =>
    obtain rfl : L = [] := by
      cases L with
      | nil => rfl
      | cons a t => simp at hy
    exact put_empty rb lb most x w h h0
  | some y =>
    by_cases hs : x.at0 ≤ y.at0
    · exact put_stale rb lb most L x y w h h0 hy hs
    · exact put_more rb lb most L x y w h h0 hy (by omega)
end Go.Proofs.Ytojealgjfbjnoaa
