/- The contract of ring.Ring's Since: all samples, one by one. Condition: the ring lies in blocks of the call's own, its ticks are not below 0. -/
import Derived.RangeFuncNested
import Derived.RangeFuncBound
import Derived.RangeFuncCalls
import Derived.RangeFuncLeaves
import Derived.RangeFuncFrom
import Derived.Shelf.Abstract
import Derived.Shelf.RegionOpen
import Derived.WalkKit
import Derived.OwnWalkIn
import Derived.TacticsInMore
import Derived.LoopNIn
import Derived.LoopIn
import Derived.ControlIn
import Derived.Test.YtojealgjfbjnoaaRing4
namespace Go.Proofs.Ytojealgjfbjnoaa
open Go.RowKit Go.Shelf

attribute [local go_sem] Oper.semAt_some

def encSm (x : Sm) : Array Value := #[.agg #[.int .i64 x.at0, .int .i64 x.v]]

theorem grown_below {w w' : World} (h : Below w.heap.size w w') : w.grownBy w' none := ⟨h.os, h.tape, h.output, h.size, fun k hk _ => h.block k hk⟩

set_option maxRecDepth 100000 in
set_option maxHeartbeats 4000000 in
theorem since1_in (m : Nat) (hm : 2 ≤ m) (lp b1 b2 rb lb most first n : Nat) (buf L : List Sm) (hL : ringL buf first n = L) (hL0 : ∀ x ∈ L, 0 ≤ x.at0) (S : Nat → Prop) (hb1 : ¬ S b1) (hb2 : ¬ S b2) (hrb : ¬ S rb) (hlb : ¬ S lb)
    (J Jx : List Sm → World → Prop) (hJd : ∀ pre A B, J pre A → Below A.heap.size A B → J pre B)
    (hY : ∀ pre x W, J pre W → pre.length < n → YieldAt Fence.wide (m - 1) Try.prog lp (encSm x) W fun e W' =>
      (e = .returned (.bool true) ∧ J (pre ++ [x]) W' ∧ Fr S W W') ∨ (e = .returned (.bool false) ∧ Jx (pre ++ [x]) W'))
    (W : World) (c1 : W.cell? ⟨b1, 0, none⟩ = some (.pointer (some ⟨rb, 0, none⟩))) (c2 : W.cell? ⟨b2, 0, none⟩ = some (.int .i64 0)) (hR : RingAt W rb lb most first n buf) (h0 : J [] W) :
    CallsIn Fence.wide m Try.prog 45 #[.func (.yield lp) #[] #[], .pointer (some ⟨b1, 0, none⟩), .pointer (some ⟨b2, 0, none⟩)] W fun e W' => (∃ v, e = .returned v) ∧
      ((∃ ys, ys = L ∧ J ys W') ∨ (∃ pre, pre <+: L ∧ Jx pre W')) := by
  have hro : Fence.wide.round = none := rfl
  have hm1 : 1 ≤ m := by omega
  have hmix : Try.prog.follows .mixedOrders = true := by kernel_rfl
  have hlenb := hR.len
  have hf := hR.hf
  have hnm := hR.hn
  have hm32 := hR.hm
  have HR := Lib.hid hR
  have HL0 := Lib.hid hL0
  have HL := Lib.hid hL
  have hLn : L.length = n := by rw [← hL, ringL_len]
  have hLen : CallsIn Fence.wide (m - 1) Try.prog 46 #[.pointer (some ⟨rb, 0, none⟩)] W fun e w' => e = .returned (.int .i64 n) ∧ W = w' := callsIn_wide.2 (ringLen_any rb lb most first n buf W hR)
  refine callsIn_of_wp Try.func45 rfl trivial ?_ hro
  simp only [Try.ntmps45, List.size_toArray, List.length_cons, List.length_nil, Nat.reduceAdd, Nat.reduceSub, Array.replicate_succ, Array.replicate_zero, List.push_toArray, List.append_toArray, List.nil_append, List.cons_append]
  gi_wp2_with (refine ⟨trivial, ?_⟩; gi_at_call 46; refine hLen.mono ?_; rintro e w' ⟨rfl, rfl⟩)
  clear hLen hR hL hL0
  gi_loopw [4, 5, 8] (fun _ _ i wr => ∃ k : Nat, k ≤ n ∧ i = .int .i64 (k : Int) ∧ J (L.take k) wr ∧ Fr S W wr) (fun _ _ i _ => n - (intOf i).toNat)
  case atStart => exact ⟨0, Nat.zero_le _, rfl, by simpa using h0, Fr.refl _ _⟩
  case round =>
    obtain ⟨k, hk, rfl, hJs, hnx⟩ := hrel
    obtain ⟨wp, rfl⟩ : ∃ wp : World, wp = wr := ⟨_, rfl⟩
    by_cases hlt : k < n
    · have hRk : RingAt wp rb lb most first n buf := HR.out.fr hnx hrb hlb
      have d1 := hnx.cell c1 hb1
      have d2 := hnx.cell c2 hb2
      have hkL : k < L.length := by omega
      have hget : L[k] = buf[(first + k) % buf.length]'(Nat.mod_lt _ (by omega)) := by
        have := ringL_get buf first n hlt (by omega)
        rw [← this]
        simp only [HL.out]
      have hrl : (first + k) % buf.length < buf.length := Nat.mod_lt _ (by omega)
      obtain ⟨e0, e1⟩ := hRk.cell hrl
      rw [← hget] at e0 e1
      have hx0 := HL0.out _ (List.getElem_mem hkL)
      have htk := List.take_succ_eq_append_getElem hkL
      obtain ⟨x, hx⟩ : ∃ x, L[k] = x := ⟨_, rfl⟩
      rw [hx] at e0 e1 hx0 htk
      rw [hlenb] at e0 e1 hrl
      obtain ⟨r, hr⟩ : ∃ r, (first + k) % most = r := ⟨_, rfl⟩
      rw [hr] at e0 e1 hrl
      obtain ⟨r0, q1, q2⟩ := cells3 hRk.blk
      have HA := Lib.hid (at_dn hRk k r (by omega) hr)
      have HB := Lib.hid (at_dn (hRk.below ((Below.refl _ _).alloc (Nat.le_refl _) (.cells #[.int .i64 0, .int .i64 0] 91))) k r (by omega) hr)
      have hr0 : (0 : Int) ≤ (r : Int) := by omega
      have hr1 : (r : Int) < (most : Int) := by omega
      have Htk := Lib.hid htk
      have HJ := Lib.hid hJs
      have Hnx := Lib.hid hnx
      have hszk := hnx.size
      have hbl1 : b1 < wp.heap.size := World.block_lt_of_cell? wp _ d1
      have hbl2 : b2 < wp.heap.size := World.block_lt_of_cell? wp _ d2
      have hlbw : lb < wp.heap.size := hRk.lt.2
      have hrbw : rb < wp.heap.size := hRk.lt.1
      obtain ⟨xa, xv⟩ := x
      dsimp only at e0 e1 hx0
      clear htk hJs hnx hget hx hr hRk hkL
      gi_wp2
      refine wpIn_wide.2 ?_
      have k0 : ∀ q, ((wp.drewN q).alloc (.cells #[.int .i64 0, .int .i64 0] 91)).cell? ⟨wp.heap.size, 0, none⟩ = some (.int .i64 0) := fun q => cell_new (wp.drewN q) _ _ 0
      have k1 : ∀ q, ((wp.drewN q).alloc (.cells #[.int .i64 0, .int .i64 0] 91)).cell? ⟨wp.heap.size, 1, none⟩ = some (.int .i64 0) := fun q => cell_new (wp.drewN q) _ _ 1
      have k2 : ∀ q j, ((wp.drewN q).alloc (.cells #[.int .i64 0, .int .i64 0] 91)).frozen? ⟨wp.heap.size, j, none⟩ = false := fun q j => row_free (heap_alloc_new (wp.drewN q) _) j
      have n1 := World.new_ne wp _ d1
      have n2 := World.new_ne wp _ r0
      have n3 := World.new_ne wp _ e0
      have n4 := World.new_ne wp _ e1
      go_region_held3 (fun w' => w'.cell? ⟨b1, 0, none⟩ = some (.pointer (some ⟨rb, 0, none⟩)) ∧ w'.cell? ⟨rb, 0, none⟩ = some (.slice (some ⟨lb, 0, none⟩) most most) ∧ w'.cell? ⟨lb, r * 2, none⟩ = some (.int .i64 xa) ∧ w'.cell? ⟨lb, r * 2 + 1, none⟩ = some (.int .i64 xv))
        (go_keep)
        (first | (go_at_call 47; refine (HA.out 1).mono ?_; rintro e w1 ⟨rfl, q, rfl⟩) | (go_at_call 47; refine (HB.out 1).mono ?_; rintro e w1 ⟨rfl, q, rfl⟩))
      all_goals
        generalize hW : World.setCell (World.setCell _ _ _) _ _ = W3
        have hb3 : Below wp.heap.size wp W3 := by
          rw [← hW]
          first
          | exact (((drewN_below (Below.refl wp.heap.size wp) q).alloc (Nat.le_refl _) _).setCell (p := ⟨wp.heap.size, 0, none⟩) (Nat.le_refl _) _).setCell (p := ⟨wp.heap.size, 1, none⟩) (Nat.le_refl _) _
          | exact ((drewN_below ((Below.refl wp.heap.size wp).alloc (Nat.le_refl _) _) q).setCell (p := ⟨wp.heap.size, 0, none⟩) (Nat.le_refl _) _).setCell (p := ⟨wp.heap.size, 1, none⟩) (Nat.le_refl _) _
        have hr3 : W3.heap[wp.heap.size]? = some (.cells #[.int .i64 xa, .int .i64 xv] 91 (0, 0)) := by
          rw [← hW]
          first
          | exact row_setCell (row_setCell (heap_alloc_new (wp.drewN q) (.cells #[.int .i64 0, .int .i64 0] 91)) _) _
          | exact row_setCell (row_setCell (w := (wp.alloc (.cells #[.int .i64 0, .int .i64 0] 91)).drewN q) (heap_alloc_new wp (.cells #[.int .i64 0, .int .i64 0] 91)) _) _
        have v0 := cell_of_row W3 wp.heap.size 0 _ _ _ hr3
        have v1 := cell_of_row W3 wp.heap.size 1 _ _ _ hr3
        simp at v0 v1
        have d23 := Below.cell_some hb3 d2
        have hJ3 := hJd _ _ _ HJ.out hb3
        have hnx3 := Hnx.out.then hb3
        obtain ⟨fn, tmps, assign, body, hy, hRR⟩ := hY _ ⟨xa, xv⟩ W3 hJ3 (by rw [List.length_take]; omega)
        dsimp only [encSm] at hy
        rw [← Htk.out] at hRR
        have HRR := Lib.hid hRR
        have Hnx3 := Lib.hid hnx3
        clear hW hb3 hr3 hJ3 hnx3 hRR n1 n2 n3 n4 k0 k1 k2 d1 d2 e0 e1 r0 q1 q2
        gi_wp2
        refine HRR.out.mono ?_
        rintro e W4 (⟨rfl, hJ4, hk4⟩ | ⟨rfl, hJx4⟩)
        · have hnx4 := Hnx3.out.trans hk4 (fun _ h => .inl h)
          gi_wp2
          go_roundw
          case rel => exact ⟨k + 1, by omega, by go_num, hJ4, hnx4⟩
          case measure => simp [intOf]; omega
        · have hpre : L.take (k + 1) <+: L := List.take_prefix _ _
          gi_wp2
          refine bodyPost_ret (results_none rfl _ _ _) rfl ?_
          exact ⟨⟨_, rfl⟩, .inr ⟨_, hpre, hJx4⟩⟩
    · obtain rfl : k = n := by omega
      have htk : L.take k = L := List.take_of_length_le (by omega)
      rw [htk] at hJs
      have HJ := Lib.hid hJs
      clear hJs htk
      gi_wp2
      go_end0
      exact ⟨⟨_, rfl⟩, .inl ⟨_, rfl, HJ.out⟩⟩

theorem since_stops (m : Nat) (hm : 2 ≤ m) (b1 b2 rb lb most : Nat) (L : List Sm) (hL0 : ∀ x ∈ L, 0 ≤ x.at0) (S : Nat → Prop) (hb1 : ¬ S b1) (hb2 : ¬ S b2) (hrb : ¬ S rb) (hlb : ¬ S lb) (w : World)
    (c1 : w.cell? ⟨b1, 0, none⟩ = some (.pointer (some ⟨rb, 0, none⟩))) (c2 : w.cell? ⟨b2, 0, none⟩ = some (.int .i64 0)) (hR : RingIs w rb lb most L) :
    SeqStopsK Fence.wide m Try.prog 45 #[.pointer (some ⟨b1, 0, none⟩), .pointer (some ⟨b2, 0, none⟩)] encSm (Fr S) (fun ys => ys = L) (fun pre => pre <+: L) L.length w := fun lp J Jx W hW hJ _ hY h0 => by
  obtain ⟨first, buf, hR1, hL⟩ := hR
  exact since1_in m hm lp b1 b2 rb lb most first L.length buf L hL hL0 S hb1 hb2 hrb hlb J Jx (fun pre A B h hb => hJ pre A B none h (grown_below hb) (fun _ e => by cases e)) hY W
    (Below.cell_some hW c1) (Below.cell_some hW c2) (hR1.below hW) h0

/-- No ring: nothing. -/
theorem since_stops_nil (m : Nat) (hm : 2 ≤ m) (b1 b2 : Nat) (S : Nat → Prop) (w : World) (c1 : w.cell? ⟨b1, 0, none⟩ = some (.pointer none)) :
    SeqStopsK Fence.wide m Try.prog 45 #[.pointer (some ⟨b1, 0, none⟩), .pointer (some ⟨b2, 0, none⟩)] encSm (Fr S) (fun ys => ys = []) (fun pre => pre <+: []) 0 w := fun lp J Jx W hW hJ _ hY h0 => by
  have hro : Fence.wide.round = none := rfl
  have hm1 : 1 ≤ m := by omega
  have d1 := Below.cell_some hW c1
  have hLen : CallsIn Fence.wide (m - 1) Try.prog 46 #[.pointer none] W fun e w' => e = .returned (.int .i64 0) ∧ W = w' := callsIn_wide.2 (lenNil_any W)
  clear hY hJ
  refine callsIn_of_wp Try.func45 rfl trivial ?_ hro
  simp only [Try.ntmps45, List.size_toArray, List.length_cons, List.length_nil, Nat.reduceAdd, Nat.reduceSub, Array.replicate_succ, Array.replicate_zero, List.push_toArray, List.append_toArray, List.nil_append, List.cons_append]
  gi_wp2_with (refine ⟨trivial, ?_⟩; gi_at_call 46; refine hLen.mono ?_; rintro e w' ⟨rfl, rfl⟩)
  clear hLen
  have HJ := Lib.hid h0
  clear h0
  gi_loopw [4, 5, 8] (fun _ _ i wr => i = .int .i64 0 ∧ W = wr) (fun _ _ i _ => 0)
  case atStart => exact ⟨rfl, rfl⟩
  case round =>
    obtain ⟨rfl, rfl⟩ := hrel
    gi_wp2
    go_end0
    exact ⟨⟨_, rfl⟩, .inl ⟨_, rfl, HJ.out⟩⟩

theorem since_any (p : Option Addr) (a : Int) (w : World) : Calls Try.prog 30 #[.pointer p, .int .i64 a] w fun e w' =>
    e = .returned (.func (.func 45) #[] #[.pointer (some ⟨w.heap.size, 0, none⟩), .pointer (some ⟨w.heap.size + 1, 0, none⟩)]) ∧ w' = (w.alloc (.cells #[.pointer p] 94)).alloc (.cells #[.int .i64 a] 2) := by
  go_enter Try.func30, Try.ntmps30
  go_wp2
  go_ret
  exact ⟨rfl, rfl⟩

/-- What a ring, or none, tells one by one. -/
def Streams (w : World) (p : Option Addr) (L : List Sm) : Prop := (p = none ∧ L = []) ∨ ∃ rb lb most, p = some ⟨rb, 0, none⟩ ∧ RingIs w rb lb most L ∧ ∀ x ∈ L, 0 ≤ x.at0

theorem Streams.below {w w' : World} {p : Option Addr} {L : List Sm} (h : Streams w p L) (hb : Below w.heap.size w w') : Streams w' p L := by
  rcases h with h | ⟨rb, lb, most, h1, h2, h3⟩
  · exact .inl h
  · exact .inr ⟨rb, lb, most, h1, h2.below hb, h3⟩

theorem streams_stops (m : Nat) (hm : 2 ≤ m) (b1 b2 : Nat) (p : Option Addr) (L : List Sm) (n₀ : Nat) (S : Nat → Prop) (hS : ∀ k, k < n₀ → ¬ S k) (hb1 : ¬ S b1) (hb2 : ¬ S b2) (w0 w : World) (hn : w0.heap.size ≤ n₀) (hst : Streams w0 p L) (hb : Below w0.heap.size w0 w)
    (c1 : w.cell? ⟨b1, 0, none⟩ = some (.pointer p)) (c2 : w.cell? ⟨b2, 0, none⟩ = some (.int .i64 0)) :
    SeqStopsK Fence.wide m Try.prog 45 #[.pointer (some ⟨b1, 0, none⟩), .pointer (some ⟨b2, 0, none⟩)] encSm (Fr S) (fun ys => ys = L) (fun pre => pre <+: L) L.length w := by
  rcases hst with ⟨rfl, rfl⟩ | ⟨rb, lb, most, rfl, hR, h0⟩
  · exact since_stops_nil m hm b1 b2 S w c1
  · have hlt := hR.lt
    exact since_stops m hm b1 b2 rb lb most L h0 S hb1 hb2 (hS rb (by omega)) (hS lb (by omega)) w c1 c2 (hR.below hb)
end Go.Proofs.Ytojealgjfbjnoaa
