/- Contracts of ring.Ring: Last, Put. Condition: the ring lies in blocks of the call's own. -/
import Derived.Test.YtolgkehlnhkgiaaRing
import Derived.Test.YtolgkehlnhkgiaaHeadLit
namespace Go.Proofs.Ytolgkehlnhkgiaa
open Go.ChangeShapes Go.WideShapes Go.ChangeAt Go.RowKit Go.Deep

theorem at_dn {rb lb most first n : Nat} {buf : List Sm} {w : World} (h : RingAt w rb lb most first n buf) (i r : Nat) (hi : i ≤ 32) (hr : (first + i) % most = r) (p : Nat) :
    Calls Try.prog 41 #[.pointer (some ⟨rb, 0, none⟩), .int .i64 i] (w.drewN p) fun e w' => e = .returned (.int .i64 r) ∧ ∃ q, w' = w.drewN q := by
  subst hr
  refine (at_any rb lb most first n i buf _ (h.drewN p) hi).mono ?_
  rintro e w' ⟨rfl, q, rfl⟩
  exact ⟨rfl, p + q, World.drewN_drewN ..⟩

set_option maxRecDepth 100000 in
theorem last_none (rb lb most first : Nat) (buf : List Sm) (w : World) (h : RingAt w rb lb most first 0 buf) :
    Calls Try.prog 39 #[.pointer (some ⟨rb, 0, none⟩)] w fun e w' => e = .returned (.tuple #[.agg #[.int .i64 0, .int .i64 0], .bool false]) ∧ Below w.heap.size w w' := by
  have k0 : (w.alloc (.cells #[.int .i64 0, .int .i64 0] 72)).cell? ⟨w.heap.size, 0, none⟩ = some (.int .i64 0) := cell_new w _ _ 0
  have k1 : (w.alloc (.cells #[.int .i64 0, .int .i64 0] 72)).cell? ⟨w.heap.size, 1, none⟩ = some (.int .i64 0) := cell_new w _ _ 1
  have HR := Lib.hid h
  clear h
  go_enter Try.func39, Try.ntmps39
  go_wp2_with fail
  refine (ringLen_any rb lb most first 0 buf _ (HR.out.below ((Below.refl _ _).alloc (Nat.le_refl _) _))).mono ?_
  rintro e w1 ⟨rfl, rfl⟩
  go_wp2_with fail
  exact bodyPost_ret (v := .tuple #[.agg #[.int .i64 0, .int .i64 0], .bool false]) (by simp [results, Try.results39, go_sem, k0, k1]) rfl ⟨rfl, (Below.refl _ _).alloc (Nat.le_refl _) _⟩

set_option maxRecDepth 100000 in
set_option maxHeartbeats 1000000 in
theorem last_some (rb lb most first n m : Nat) (hnm : m + 1 = n) (buf : List Sm) (x : Sm) (w : World) (h : RingAt w rb lb most first n buf) (hx : buf[(first + m) % most]? = some x) :
    Calls Try.prog 39 #[.pointer (some ⟨rb, 0, none⟩)] w fun e w' => e = .returned (.tuple #[.agg #[.int .i64 x.at0, .int .i64 x.v], .bool true]) ∧ Below w.heap.size w w' := by
  have h1 := h.hf
  have h2 := h.hm
  have h4 := h.hn
  have hb0 : Below w.heap.size w (w.alloc (.cells #[.int .i64 0, .int .i64 0] 72)) := (Below.refl _ _).alloc (Nat.le_refl _) _
  have k0 : (w.alloc (.cells #[.int .i64 0, .int .i64 0] 72)).heap[w.heap.size]? = some (.cells #[.int .i64 0, .int .i64 0] 72 (0, 0)) := heap_alloc_new w _
  have HR := Lib.hid (h.below hb0)
  go_enter Try.func39, Try.ntmps39
  go_wp2_with fail
  refine (ringLen_any rb lb most first n buf _ HR.out).mono ?_
  rintro e w1 ⟨rfl, rfl⟩
  obtain ⟨w1, hw1⟩ : ∃ w1, w.alloc (.cells #[.int .i64 0, .int .i64 0] 72) = w1 := ⟨_, rfl⟩
  rw [hw1] at HR hb0 k0 ⊢
  obtain ⟨r, hr⟩ : ∃ r, (first + m) % most = r := ⟨_, rfl⟩
  rw [hr] at hx
  have hrl : r < buf.length := (List.getElem?_eq_some_iff.1 hx).1
  obtain ⟨e0, e1⟩ := HR.out.cell hrl
  have hxe : buf[r] = x := (List.getElem?_eq_some_iff.1 hx).2
  rw [hxe] at e0 e1
  have hrm : r < most := by have := HR.out.len; omega
  have hA := at_dn HR.out m r (by omega) hr
  obtain ⟨c0, c1, c2⟩ := cells3 HR.out.blk
  have HA := Lib.hid hA
  have Hb0 := Lib.hid hb0
  have z0 := row_free k0 0
  have z1 := row_free k0 1
  have hne : ((n : Int) == 0) = false := beq_eq_false_iff_ne.2 (by omega)
  have hm1 : IntKind.i64.wrap ((n : Int) - 1) = (m : Int) := by rw [IntWalk.i64_in _ (by omega)]; omega
  have hr0 : (0 : Int) ≤ (r : Int) := by omega
  have hr1 : (r : Int) < (most : Int) := by omega
  obtain ⟨lastB, hlb⟩ : ∃ q, w.heap.size = q := ⟨_, rfl⟩
  rw [hlb] at k0 z0 z1 ⊢
  have y0 := cell_of_row w1 lastB 0 _ _ _ k0
  have y1 := cell_of_row w1 lastB 1 _ _ _ k0
  have Hk0 := Lib.hid k0
  have Hlb := Lib.hid hlb
  clear hw1 hb0 hx hxe hr HR h hA k0 hlb hnm
  go_upto_region 3 with fail
  refine wp_region_head_lit 13 (fun w' => ∃ p : Nat, w' = w1.drewN p) (by kernel_rfl) (by kernel_rfl) ⟨1, rfl⟩ ?_
  simp only [List.take_succ_cons, List.take_zero, List.drop_succ_cons, List.drop_zero]
  repeat (quiet_step (first | (go_at_call 41; exact HA.out _) | exact rfl))
  refine wpQuiet_nil ?_
  rintro w' ⟨p, rfl⟩
  go_wp2_with fail
  have hrow := row_setCell (i := 1) (row_setCell (i := 0) (show (w1.drewN p).heap[lastB]? = _ from Hk0.out) (.int .i64 x.at0)) (.int .i64 x.v)
  have q0 := cell_of_row _ lastB 0 _ _ _ hrow
  have q1 := cell_of_row _ lastB 1 _ _ _ hrow
  simp only [Array.setIfInBounds, Array.set] at q0 q1
  simp at q0 q1
  refine bodyPost_ret (v := .tuple #[.agg #[.int .i64 x.at0, .int .i64 x.v], .bool true]) (by simp [results, Try.results39, go_sem, q0, q1]) rfl ⟨rfl, ?_⟩
  exact ((drewN_below Hb0.out p).setCell (p := ⟨lastB, 0, none⟩) (by show w.heap.size ≤ lastB; rw [Hlb.out]; exact Nat.le_refl _) _).setCell (p := ⟨lastB, 1, none⟩) (by show w.heap.size ≤ lastB; rw [Hlb.out]; exact Nat.le_refl _) _
end Go.Proofs.Ytolgkehlnhkgiaa
