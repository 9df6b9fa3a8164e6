/- The contract of ring.Ring's Since: all samples, one by one. Condition: the ring lies in blocks of the call's own, its ticks are not below 0. || Maps that hold any values, read as a partial function of the key. No condition. || Series as keys of maps. No condition. || The contract of label's sign. No condition. -/
import Derived.RangeFuncNested
import Derived.RangeFuncBound
import Derived.RangeFuncCalls
import Derived.RangeFuncLeaves
import Derived.RangeFuncFrom
import Derived.Shelf.Abstract
import Derived.Shelf.RegionOpen
import Derived.WalkKit
import Derived.OwnWalkIn
import Derived.TacticsInMore
import Derived.LoopNIn
import Derived.LoopIn
import Derived.ControlIn
import Derived.Test.YtoamjihchmokcaaRing4M
import Derived.Test.YtoamjihchmokcaaFrame
import Derived.Maps.OwnSet
import Derived.Maps.RangeWalk
import Derived.StillTailTactics
import Derived.DeepKeys4
import Derived.Test.YtoamjihchmokcaaChecked
import Derived.Test.YtoamjihchmokcaaRows
import Derived.Test.YtoamjihchmokcaaBase
import Derived.Test.YtoamjihchmokcaaCellsM
namespace Go.Proofs.Ytoamjihchmokcaa
open Go.RowKit Go.Shelf

attribute [local go_sem] Oper.semAt_some

def encSm (x : Sm) : Array Value := #[.agg #[.int .i64 x.at0, .int .i64 x.v]]

theorem grown_below {w w' : World} (h : Below w.heap.size w w') : w.grownBy w' none := ⟨h.os, h.tape, h.output, h.size, fun k hk _ => h.block k hk⟩

set_option maxRecDepth 100000 in
set_option maxHeartbeats 4000000 in
theorem since1_in (m : Nat) (hm : 2 ≤ m) (lp b1 b2 rb lb most first n : Nat) (buf L : List Sm) (hL : ringL buf first n = L) (hL0 : ∀ x ∈ L, 0 ≤ x.at0) (S : Nat → Prop) (hb1 : ¬ S b1) (hb2 : ¬ S b2) (hrb : ¬ S rb) (hlb : ¬ S lb)
    (J Jx : List Sm → World → Prop) (hJd : ∀ pre A B, J pre A → Below A.heap.size A B → J pre B)
    (hY : ∀ pre x W, J pre W → pre.length < n → YieldAt Fence.wide (m - 1) Try.prog lp (encSm x) W fun e W' =>
      (e = .returned (.bool true) ∧ J (pre ++ [x]) W' ∧ Fr S W W') ∨ (e = .returned (.bool false) ∧ Jx (pre ++ [x]) W'))
    (W : World) (c1 : W.cell? ⟨b1, 0, none⟩ = some (.pointer (some ⟨rb, 0, none⟩))) (c2 : W.cell? ⟨b2, 0, none⟩ = some (.int .i64 0)) (hR : RingAt W rb lb most first n buf) (h0 : J [] W) :
    CallsIn Fence.wide m Try.prog 44 #[.func (.yield lp) #[] #[], .pointer (some ⟨b1, 0, none⟩), .pointer (some ⟨b2, 0, none⟩)] W fun e W' => (∃ v, e = .returned v) ∧
      ((∃ ys, ys = L ∧ J ys W') ∨ (∃ pre, pre <+: L ∧ Jx pre W')) := by
  have hro : Fence.wide.round = none := rfl
  have hm1 : 1 ≤ m := by omega
  have hmix : Try.prog.follows .mixedOrders = true := by kernel_rfl
  have hlenb := hR.len
  have hf := hR.hf
  have hnm := hR.hn
  have hm32 := hR.hm
  have HR := Lib.hid hR
  have HL0 := Lib.hid hL0
  have HL := Lib.hid hL
  have hLn : L.length = n := by rw [← hL, ringL_len]
  have hLen : CallsIn Fence.wide (m - 1) Try.prog 45 #[.pointer (some ⟨rb, 0, none⟩)] W fun e w' => e = .returned (.int .i64 n) ∧ W = w' := callsIn_wide.2 (ringLen_any rb lb most first n buf W hR)
  refine callsIn_of_wp Try.func44 rfl trivial ?_ hro
  simp only [Try.ntmps44, List.size_toArray, List.length_cons, List.length_nil, Nat.reduceAdd, Nat.reduceSub, Array.replicate_succ, Array.replicate_zero, List.push_toArray, List.append_toArray, List.nil_append, List.cons_append]
  gi_wp2_with (refine ⟨trivial, ?_⟩; gi_at_call 45; refine hLen.mono ?_; rintro e w' ⟨rfl, rfl⟩)
  clear hLen hR hL hL0
  gi_loopw [4, 5, 8] (fun _ _ i wr => ∃ k : Nat, k ≤ n ∧ i = .int .i64 (k : Int) ∧ J (L.take k) wr ∧ Fr S W wr) (fun _ _ i _ => n - (intOf i).toNat)
  case atStart => exact ⟨0, Nat.zero_le _, rfl, by simpa using h0, Fr.refl _ _⟩
  case round =>
    obtain ⟨k, hk, rfl, hJs, hnx⟩ := hrel
    obtain ⟨wp, rfl⟩ : ∃ wp : World, wp = wr := ⟨_, rfl⟩
    by_cases hlt : k < n
    · have hRk : RingAt wp rb lb most first n buf := HR.out.fr hnx hrb hlb
      have d1 := hnx.cell c1 hb1
      have d2 := hnx.cell c2 hb2
      have hkL : k < L.length := by omega
      have hget : L[k] = buf[(first + k) % buf.length]'(Nat.mod_lt _ (by omega)) := by
        have := ringL_get buf first n hlt (by omega)
        rw [← this]
        simp only [HL.out]
      have hrl : (first + k) % buf.length < buf.length := Nat.mod_lt _ (by omega)
      obtain ⟨e0, e1⟩ := hRk.cell hrl
      rw [← hget] at e0 e1
      have hx0 := HL0.out _ (List.getElem_mem hkL)
      have htk := List.take_succ_eq_append_getElem hkL
      obtain ⟨x, hx⟩ : ∃ x, L[k] = x := ⟨_, rfl⟩
      rw [hx] at e0 e1 hx0 htk
      rw [hlenb] at e0 e1 hrl
      obtain ⟨r, hr⟩ : ∃ r, (first + k) % most = r := ⟨_, rfl⟩
      rw [hr] at e0 e1 hrl
      obtain ⟨cp, hcp⟩ := hRk.blk'
      obtain ⟨r0, q1, q2⟩ := cells3 hcp
      clear hcp
      have HA := Lib.hid (at_dn hRk k r (by omega) hr)
      have HB := Lib.hid (at_dn (hRk.below ((Below.refl _ _).alloc (Nat.le_refl _) (.cells #[.int .i64 0, .int .i64 0] 64))) k r (by omega) hr)
      have hr0 : (0 : Int) ≤ (r : Int) := by omega
      have hr1 : (r : Int) < (most : Int) := by omega
      have Htk := Lib.hid htk
      have HJ := Lib.hid hJs
      have Hnx := Lib.hid hnx
      have hszk := hnx.size
      have hbl1 : b1 < wp.heap.size := World.block_lt_of_cell? wp _ d1
      have hbl2 : b2 < wp.heap.size := World.block_lt_of_cell? wp _ d2
      have hlbw : lb < wp.heap.size := hRk.lt.2
      have hrbw : rb < wp.heap.size := hRk.lt.1
      obtain ⟨xa, xv⟩ := x
      dsimp only at e0 e1 hx0
      clear htk hJs hnx hget hx hr hRk hkL
      gi_wp2
      refine wpIn_wide.2 ?_
      have k0 : ∀ q, ((wp.drewN q).alloc (.cells #[.int .i64 0, .int .i64 0] 64)).cell? ⟨wp.heap.size, 0, none⟩ = some (.int .i64 0) := fun q => cell_new (wp.drewN q) _ _ 0
      have k1 : ∀ q, ((wp.drewN q).alloc (.cells #[.int .i64 0, .int .i64 0] 64)).cell? ⟨wp.heap.size, 1, none⟩ = some (.int .i64 0) := fun q => cell_new (wp.drewN q) _ _ 1
      have k2 : ∀ q j, ((wp.drewN q).alloc (.cells #[.int .i64 0, .int .i64 0] 64)).frozen? ⟨wp.heap.size, j, none⟩ = false := fun q j => row_free (heap_alloc_new (wp.drewN q) _) j
      have n1 := World.new_ne wp _ d1
      have n2 := World.new_ne wp _ r0
      have n3 := World.new_ne wp _ e0
      have n4 := World.new_ne wp _ e1
      go_region_held3 (fun w' => w'.cell? ⟨b1, 0, none⟩ = some (.pointer (some ⟨rb, 0, none⟩)) ∧ w'.cell? ⟨rb, 0, none⟩ = some (.slice (some ⟨lb, 0, none⟩) most cp) ∧ w'.cell? ⟨lb, r * 2, none⟩ = some (.int .i64 xa) ∧ w'.cell? ⟨lb, r * 2 + 1, none⟩ = some (.int .i64 xv))
        (go_keep)
        (first | (go_at_call 38; refine (HA.out 1).mono ?_; rintro e w1 ⟨rfl, q, rfl⟩) | (go_at_call 38; refine (HB.out 1).mono ?_; rintro e w1 ⟨rfl, q, rfl⟩))
      all_goals
        generalize hW : World.setCell (World.setCell _ _ _) _ _ = W3
        have hb3 : Below wp.heap.size wp W3 := by
          rw [← hW]
          first
          | exact (((drewN_below (Below.refl wp.heap.size wp) q).alloc (Nat.le_refl _) _).setCell (p := ⟨wp.heap.size, 0, none⟩) (Nat.le_refl _) _).setCell (p := ⟨wp.heap.size, 1, none⟩) (Nat.le_refl _) _
          | exact ((drewN_below ((Below.refl wp.heap.size wp).alloc (Nat.le_refl _) _) q).setCell (p := ⟨wp.heap.size, 0, none⟩) (Nat.le_refl _) _).setCell (p := ⟨wp.heap.size, 1, none⟩) (Nat.le_refl _) _
        have hr3 : W3.heap[wp.heap.size]? = some (.cells #[.int .i64 xa, .int .i64 xv] 64 (0, 0)) := by
          rw [← hW]
          first
          | exact row_setCell (row_setCell (heap_alloc_new (wp.drewN q) (.cells #[.int .i64 0, .int .i64 0] 64)) _) _
          | exact row_setCell (row_setCell (w := (wp.alloc (.cells #[.int .i64 0, .int .i64 0] 64)).drewN q) (heap_alloc_new wp (.cells #[.int .i64 0, .int .i64 0] 64)) _) _
        have v0 := cell_of_row W3 wp.heap.size 0 _ _ _ hr3
        have v1 := cell_of_row W3 wp.heap.size 1 _ _ _ hr3
        simp at v0 v1
        have d23 := Below.cell_some hb3 d2
        have hJ3 := hJd _ _ _ HJ.out hb3
        have hnx3 := Hnx.out.then hb3
        obtain ⟨fn, tmps, assign, body, hy, hRR⟩ := hY _ ⟨xa, xv⟩ W3 hJ3 (by rw [List.length_take]; omega)
        dsimp only [encSm] at hy
        rw [← Htk.out] at hRR
        have HRR := Lib.hid hRR
        have Hnx3 := Lib.hid hnx3
        clear hW hb3 hr3 hJ3 hnx3 hRR n1 n2 n3 n4 k0 k1 k2 d1 d2 e0 e1 r0 q1 q2
        gi_wp2
        refine HRR.out.mono ?_
        rintro e W4 (⟨rfl, hJ4, hk4⟩ | ⟨rfl, hJx4⟩)
        · have hnx4 := Hnx3.out.trans hk4 (fun _ h => .inl h)
          gi_wp2
          go_roundw
          case rel => exact ⟨k + 1, by omega, by go_num, hJ4, hnx4⟩
          case measure => simp [intOf]; omega
        · have hpre : L.take (k + 1) <+: L := List.take_prefix _ _
          gi_wp2
          refine bodyPost_ret (results_none rfl _ _ _) rfl ?_
          exact ⟨⟨_, rfl⟩, .inr ⟨_, hpre, hJx4⟩⟩
    · obtain rfl : k = n := by omega
      have htk : L.take k = L := List.take_of_length_le (by omega)
      rw [htk] at hJs
      have HJ := Lib.hid hJs
      clear hJs htk
      gi_wp2
      go_end0
      exact ⟨⟨_, rfl⟩, .inl ⟨_, rfl, HJ.out⟩⟩

theorem since_stops (m : Nat) (hm : 2 ≤ m) (b1 b2 rb lb most : Nat) (L : List Sm) (hL0 : ∀ x ∈ L, 0 ≤ x.at0) (S : Nat → Prop) (hb1 : ¬ S b1) (hb2 : ¬ S b2) (hrb : ¬ S rb) (hlb : ¬ S lb) (w : World)
    (c1 : w.cell? ⟨b1, 0, none⟩ = some (.pointer (some ⟨rb, 0, none⟩))) (c2 : w.cell? ⟨b2, 0, none⟩ = some (.int .i64 0)) (hR : RingIs w rb lb most L) :
    SeqStopsK Fence.wide m Try.prog 44 #[.pointer (some ⟨b1, 0, none⟩), .pointer (some ⟨b2, 0, none⟩)] encSm (Fr S) (fun ys => ys = L) (fun pre => pre <+: L) L.length w := fun lp J Jx W hW hJ _ hY h0 => by
  obtain ⟨first, buf, hR1, hL⟩ := hR
  exact since1_in m hm lp b1 b2 rb lb most first L.length buf L hL hL0 S hb1 hb2 hrb hlb J Jx (fun pre A B h hb => hJ pre A B none h (grown_below hb) (fun _ e => by cases e)) hY W
    (Below.cell_some hW c1) (Below.cell_some hW c2) (hR1.below hW) h0

theorem since_stops_nil (m : Nat) (hm : 2 ≤ m) (b1 b2 : Nat) (S : Nat → Prop) (w : World) (c1 : w.cell? ⟨b1, 0, none⟩ = some (.pointer none)) :
    SeqStopsK Fence.wide m Try.prog 44 #[.pointer (some ⟨b1, 0, none⟩), .pointer (some ⟨b2, 0, none⟩)] encSm (Fr S) (fun ys => ys = []) (fun pre => pre <+: []) 0 w := fun lp J Jx W hW hJ _ hY h0 => by
  have hro : Fence.wide.round = none := rfl
  have hm1 : 1 ≤ m := by omega
  have d1 := Below.cell_some hW c1
  have hLen : CallsIn Fence.wide (m - 1) Try.prog 45 #[.pointer none] W fun e w' => e = .returned (.int .i64 0) ∧ W = w' := callsIn_wide.2 (lenNil_any W)
  clear hY hJ
  refine callsIn_of_wp Try.func44 rfl trivial ?_ hro
  simp only [Try.ntmps44, List.size_toArray, List.length_cons, List.length_nil, Nat.reduceAdd, Nat.reduceSub, Array.replicate_succ, Array.replicate_zero, List.push_toArray, List.append_toArray, List.nil_append, List.cons_append]
  gi_wp2_with (refine ⟨trivial, ?_⟩; gi_at_call 45; refine hLen.mono ?_; rintro e w' ⟨rfl, rfl⟩)
  clear hLen
  have HJ := Lib.hid h0
  clear h0
  gi_loopw [4, 5, 8] (fun _ _ i wr => i = .int .i64 0 ∧ W = wr) (fun _ _ i _ => 0)
  case atStart => exact ⟨rfl, rfl⟩
  case round =>
    obtain ⟨rfl, rfl⟩ := hrel
    gi_wp2
    go_end0
    exact ⟨⟨_, rfl⟩, .inl ⟨_, rfl, HJ.out⟩⟩

theorem since_any (p : Option Addr) (a : Int) (w : World) : Calls Try.prog 28 #[.pointer p, .int .i64 a] w fun e w' =>
    e = .returned (.func (.func 44) #[] #[.pointer (some ⟨w.heap.size, 0, none⟩), .pointer (some ⟨w.heap.size + 1, 0, none⟩)]) ∧ w' = (w.alloc (.cells #[.pointer p] 58)).alloc (.cells #[.int .i64 a] 2) := by
  go_enter Try.func28, Try.ntmps28
  go_wp2
  go_ret
  exact ⟨rfl, rfl⟩

def Streams (w : World) (p : Option Addr) (L : List Sm) : Prop := (p = none ∧ L = []) ∨ ∃ rb lb most, p = some ⟨rb, 0, none⟩ ∧ RingIs w rb lb most L ∧ ∀ x ∈ L, 0 ≤ x.at0

theorem Streams.below {w w' : World} {p : Option Addr} {L : List Sm} (h : Streams w p L) (hb : Below w.heap.size w w') : Streams w' p L := by
  rcases h with h | ⟨rb, lb, most, h1, h2, h3⟩
  · exact .inl h
  · exact .inr ⟨rb, lb, most, h1, h2.below hb, h3⟩

theorem streams_stops (m : Nat) (hm : 2 ≤ m) (b1 b2 : Nat) (p : Option Addr) (L : List Sm) (n₀ : Nat) (S : Nat → Prop) (hS : ∀ k, k < n₀ → ¬ S k) (hb1 : ¬ S b1) (hb2 : ¬ S b2) (w0 w : World) (hn : w0.heap.size ≤ n₀) (hst : Streams w0 p L) (hb : Below w0.heap.size w0 w)
    (c1 : w.cell? ⟨b1, 0, none⟩ = some (.pointer p)) (c2 : w.cell? ⟨b2, 0, none⟩ = some (.int .i64 0)) :
    SeqStopsK Fence.wide m Try.prog 44 #[.pointer (some ⟨b1, 0, none⟩), .pointer (some ⟨b2, 0, none⟩)] encSm (Fr S) (fun ys => ys = L) (fun pre => pre <+: L) L.length w := by
  rcases hst with ⟨rfl, rfl⟩ | ⟨rb, lb, most, rfl, hR, h0⟩
  · exact since_stops_nil m hm b1 b2 S w c1
  · have hlt := hR.lt
    exact since_stops m hm b1 b2 rb lb most L h0 S hb1 hb2 (hS rb (by omega)) (hS lb (by omega)) w c1 c2 (hR.below hb)
end Go.Proofs.Ytoamjihchmokcaa
namespace Go.Proofs.Ytoamjihchmokcaa
open Go.ChangeShapes Go.WideShapes Go.ChangeAt Go.RowKit Go.Deep Go.Maps

def heldElem (v : Value) : Option (DataW Value × List MemPlace) := some (.held v, [])

def Tells (D : DataW Value) (f : Lit → Option Value) : Prop := ∀ kl, Maps.has D kl = (f kl).isSome ∧ ∀ z, D.atKey kl z = ((f kl).map DataW.held).getD z

def fset {α : Type} (f : Lit → Option α) (kl : Lit) (v : α) : Lit → Option α := fun x => if x.sameKey kl = true then some v else f x

def MapIs (w : World) (P : Program) (k : TypeId) (b n : Nat) (f : Lit → Option Value) : Prop := ∃ D, w.ownsMap P k heldElem b n D ∧ Maps.size D = n ∧ Tells D f

theorem ownsMap_size {P : Program} {k : TypeId} {R : Value → Option (DataW Value × List MemPlace)} {w : World} {b n : Nat} {D : DataW Value} (h : w.ownsMap P k R b n D) : w.ownsMap P k R b (Maps.size D) D := by
  obtain ⟨es, clock, h1, h2, _, rfl⟩ := h
  exact ⟨es, clock, h1, h2, by simp [Maps.size, length_sorted], rfl⟩

theorem Tells.nil : Tells (.map []) (fun _ => none) := fun _ => ⟨rfl, fun _ => rfl⟩

section
variable {P : Program} {k : TypeId} {w w' : World} {b n : Nat} {f : Lit → Option Value}

theorem MapIs.made (w : World) (P : Program) (k : TypeId) : MapIs (w.alloc (.map #[] 0)) P k w.heap.size 0 (fun _ => none) :=
  ⟨.map [], World.ownsMap_made w P k heldElem, rfl, Tells.nil⟩

theorem MapIs.lt (h : MapIs w P k b n f) : b < w.heap.size := let ⟨_, h1, _⟩ := h; h1.lt

theorem MapIs.same (h : MapIs w P k b n f) (hb : w'.heap[b]? = w.heap[b]?) : MapIs w' P k b n f := by
  obtain ⟨D, ⟨es, clock, h1, r⟩, hn, h2⟩ := h
  exact ⟨D, ⟨es, clock, hb.trans h1, r⟩, hn, h2⟩

theorem MapIs.fr (h : MapIs w P k b n f) {S : Nat → Prop} (hf : Fr S w w') (hS : ¬ S b) : MapIs w' P k b n f := h.same (hf.block b h.lt hS)
theorem MapIs.below (h : MapIs w P k b n f) (hf : Below w.heap.size w w') : MapIs w' P k b n f := h.same (hf.block b h.lt)

theorem Tells.put {D : DataW Value} (h : Tells D f) (hD : IsMap D) {kl : Lit} (hk : WideAt.IsKeyLit kl) (v : Value) : Tells (D.put kl (.held v)) (fset f kl v) := by
  intro x
  by_cases e : x = kl
  · subst e
    have hs : x.sameKey x = true := by
      cases x <;> simp [Lit.sameKey, WideAt.IsKeyLit] at hk ⊢
    refine ⟨?_, fun z => ?_⟩
    · rw [has_put_same hD hk]; simp [fset, hs]
    · rw [atKey_put_same hD hk]; simp [fset, hs]
  · have hs : x.sameKey kl = false := sameKey_ne e
    refine ⟨?_, fun z => ?_⟩
    · rw [has_put_other e, (h x).1]; simp [fset, hs]
    · rw [atKey_put_other e, (h x).2]; simp [fset, hs]

theorem Fr.turned {b : Nat} (S : Nat → Prop) (h : w.mapTurned w' b) (hS : S b) : Fr S w w' := Fr.grown h.grown (fun k hk => by cases hk; exact hS)

theorem MapIs.look (h : MapIs w P k b n f) {t e : TypeId} (K : Keyed P k) (ht : P.underlying t = some (.map k e)) {z : Value} (hz : (zeroValue e).run P w = .ok z w) {key : Value} {kl : Lit} (hkey : keyOf P k key = some kl) :
    (Instr.lookup t (.map (some b)) key false).run P w = .ok ((f kl).getD z) w := by
  obtain ⟨D, h1, _, h2⟩ := h
  obtain ⟨v, ps, hrun, hv⟩ := h1.lookup K ht hz (zd := .held z) (zp := []) rfl hkey
  rw [(h2 kl).2] at hv
  simp only [heldElem, Option.some.injEq, Prod.mk.injEq] at hv
  rw [hrun]
  cases hf : f kl with
  | none => rw [hf] at hv; simp at hv; rw [hv.1]; rfl
  | some u => rw [hf] at hv; simp at hv; rw [hv.1]; rfl

theorem MapIs.look_ok (h : MapIs w P k b n f) {t e : TypeId} (K : Keyed P k) (ht : P.underlying t = some (.map k e)) {z : Value} (hz : (zeroValue e).run P w = .ok z w) {key : Value} {kl : Lit} (hkey : keyOf P k key = some kl) :
    (Instr.lookup t (.map (some b)) key true).run P w = .ok (.tuple #[(f kl).getD z, .bool (f kl).isSome]) w := by
  obtain ⟨D, h1, _, h2⟩ := h
  obtain ⟨v, ps, hrun, hv⟩ := h1.look_ok K ht hz (zd := .held z) (zp := []) rfl hkey
  rw [(h2 kl).2] at hv
  simp only [heldElem, Option.some.injEq, Prod.mk.injEq] at hv
  rw [hrun, (h2 kl).1]
  cases hf : f kl with
  | none => rw [hf] at hv; simp at hv; rw [hv.1]; rfl
  | some u => rw [hf] at hv; simp at hv; rw [hv.1]; rfl

theorem MapIs.store (h : MapIs w P k b n f) {t e : TypeId} (K : Keyed P k) (ht : P.underlying t = some (.map k e)) (hn : n < maxLen) {key val : Value} {kl : Lit} (hkey : keyOf P k key = some kl) :
    ∃ w', (Instr.mapUpdate t (.map (some b)) key val).run P w = .ok () w' ∧ MapIs w' P k b (if (f kl).isSome then n else n + 1) (fset f kl val) ∧ w.mapTurned w' b := by
  obtain ⟨D, h1, hs, h2⟩ := h
  obtain ⟨w', hr, ho, ht'⟩ := h1.store K ht hn hkey (d := .held val) (ps := []) rfl
  have e : Maps.size (D.put kl (.held val)) = if (f kl).isSome then n else n + 1 := by
    rw [size_put (h1.tidy K), (h2 kl).1, hs]
  exact ⟨w', hr, ⟨_, e ▸ ownsMap_size ho, e, h2.put h1.isMap (K.key hkey) val⟩, ht'⟩

theorem MapIs.len (h : MapIs w P k b n f) {t e : TypeId} (ht : P.underlying t = some (.map k e)) (ty : TypeId) :
    (Builtin.len_ #[t] ty #[.map (some b)]).run P w = .ok (.int .i64 n) w := by
  obtain ⟨D, h1, hs, h2⟩ := h
  rw [← hs]
  exact h1.len ht ty
end

section
variable {P : Program} (w : World) {ops : Array Oper} {rest : List Oper} {o : Oper} {a : Act} {Q : Exit → Act → World → Prop}

theorem wpList_map_len (m : Operand) (t : TypeId) (hg : o.guard = none) (hop : o.op = Op.call { callee := Callee.builtin Builtin.len, args := #[m], argTypes := #[t] }) (k e : TypeId) (ht : P.underlying t = some (.map k e))
    (b n : Nat) (f : Lit → Option Value) (hm : a.eval m = .map (some b)) (hown : MapIs w P k b n f)
    (hK : wpList P ops Q rest (a.put o.dst (.int .i64 n)) w) : wpList P ops Q (o :: rest) a w := by
  refine wpList_plain hg fun K' hK' => ?_
  have hrun := hown.len ht o.type
  unfold Oper.wp
  simp [execOp, hop, resolve, invoke, builtin, hm, hrun, Result.andThen]
  exact hK' _ _ hK
end

section
variable {P : Program} (w : World) {ops : Array Oper} {rest : List Oper} {o : Oper} {a : Act} {Q : Exit → Act → World → Prop}

end


def byStr {α : Type} (enc : α → Value) (f : List UInt8 → Option α) : Lit → Option Value
  | .string s => (f s).map enc
  | _ => none

theorem byStr_nil {α : Type} (enc : α → Value) : byStr enc (fun _ => none) = fun _ => none := by
  funext kl
  cases kl <;> rfl

def StrMap {α : Type} (enc : α → Value) (w : World) (P : Program) (k : TypeId) (b n : Nat) (f : List UInt8 → Option α) : Prop := MapIs w P k b n (byStr enc f)

theorem StrMap.made {α : Type} (enc : α → Value) (w : World) (P : Program) (k : TypeId) : StrMap enc (w.alloc (.map #[] 0)) P k w.heap.size 0 (fun _ => none) := by
  unfold StrMap
  rw [byStr_nil]
  exact MapIs.made w P k
end Go.Proofs.Ytoamjihchmokcaa
namespace Go.Proofs.Ytoamjihchmokcaa
open Go.ChangeShapes Go.WideShapes Go.ChangeAt Go.RowKit Go.Deep Go.Maps

theorem laidOut : laidOutB Try.prog = true := by kernel_rfl
theorem serKeyed : Keyed Try.prog 33 := Keyed.of_law (deep_law_laid laidOut (m := 5) (by decide) (of_decide_eq_true (by kernel_rfl)) (by kernel_rfl) (by kernel_rfl))

def serBytes (a b : List UInt8) : List UInt8 := keyBytes [.string a, .string b]

theorem serKey {a b : ByteArray} (ha : a.size ≤ maxLen) (hb : b.size ≤ maxLen) : keyOf Try.prog 33 (.agg #[.string a, .string b]) = some (.string (serBytes a.data.toList b.data.toList)) := by
  have hu := Try.underlying33
  have hs := Try.underlying9
  have hk : Try.prog.keyType 33 = true := by kernel_rfl
  have hc : Try.prog.cellsOf 33 = 2 := by kernel_rfl
  have hc1 : Try.prog.cellsOf 9 = 1 := by kernel_rfl
  obtain ⟨d, hd⟩ : ∃ d, Try.prog.types.size = d + 1 := ⟨Try.prog.types.size - 1, by kernel_rfl⟩
  unfold keyOf
  rw [hu]
  simp only [hk, Value.formed, hu, Bool.true_and]
  rw [hd]
  simp [Program.keyLits, hu, hs, hc, hc1, Value.cells, ha, hb, serBytes]
end Go.Proofs.Ytoamjihchmokcaa
namespace Go.Proofs.Ytoamjihchmokcaa
open Go.ChangeShapes Go.WideShapes Go.ChangeAt Go.RowKit Go.Deep

def signOf (c : Int) : Bool := (decide (97 ≤ c) && decide (c ≤ 122)) || (decide (48 ≤ c) && decide (c ≤ 57)) || decide (c = 45)

theorem sign_any (c : Int) (w : World) : Calls Try.prog 29 #[.int .u8 c] w fun e w' => e = .returned (.bool (signOf c)) ∧ w' = w := by
  go_enter Try.func29, Try.ntmps29
  go_wp2
  all_goals
    go_ret
    exact ⟨ret_bool (by unfold signOf; rw [Bool.eq_iff_iff]; simp; omega), rfl⟩
end Go.Proofs.Ytoamjihchmokcaa
