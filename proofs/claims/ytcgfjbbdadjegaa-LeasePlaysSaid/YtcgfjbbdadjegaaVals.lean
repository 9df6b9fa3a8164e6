/- maps.Values over a board's map: each lease once, in some order. Condition: the map lies in a block of the call's own; each key is its lease's name. -/
import Derived.Test.YtcgfjbbdadjegaaBoardCopy
import Derived.Shelf.SlIter.Keys
import Derived.RangeFuncGives
import Derived.RangeFuncKeeps
import Derived.Maps.Ext
import Derived.OwnWalkIn
import Derived.TacticsInMore
import Derived.LoopNIn
import Derived.LoopIn
import Derived.ControlIn
import Derived.WalkKit
namespace Go.Proofs.Ytcgfjbbdadjegaa
open Go.ChangeShapes Go.WideShapes Go.ChangeAt Go.RowKit Go.Deep Go.Maps Go.Shelf

attribute [local go_sem] Oper.semAt_some

def encLs (l : Lease) : Array Value := #[.agg #[.string l.name, .string l.holder, .int .i64 l.till, .int .i64 l.turns]]

/-- These leases have come; those keys are left. -/
structure CollL (f : List UInt8 → Option Lease) (left : Lit → Bool) (xs : List Lease) : Prop where
  nd : (xs.map fun x => x.name.data.toList).Nodup
  are : ∀ x ∈ xs, f x.name.data.toList = some x ∧ left (.string x.name.data.toList) = false
  all : ∀ s, (f s).isSome = true → left (.string s) = false → ∃ x ∈ xs, x.name.data.toList = s

/-- All leases of a board, each once. -/
def AllOf (f : List UInt8 → Option Lease) (xs : List Lease) : Prop := (xs.map fun x => x.name.data.toList).Nodup ∧ (∀ x ∈ xs, f x.name.data.toList = some x) ∧ ∀ s, (f s).isSome = true → ∃ x ∈ xs, x.name.data.toList = s

theorem CollL.done {f : List UInt8 → Option Lease} {left : Lit → Bool} {xs : List Lease} (h : CollL f left xs) (hl : ∀ kl, left kl = false) : AllOf f xs := ⟨h.nd, fun x hx => (h.are x hx).1, fun s hs => h.all s hs (hl _)⟩

theorem CollL.step {f : List UInt8 → Option Lease} {left : Lit → Bool} {xs : List Lease} (h : CollL f left xs) {x : Lease} (hx : f x.name.data.toList = some x) (hl : left (.string x.name.data.toList) = true) :
    CollL f (fun z => left z && !z.sameKey (.string x.name.data.toList)) (xs ++ [x]) := by
  refine ⟨?_, fun y hy => ?_, fun s hs hn => ?_⟩
  · rw [List.map_append]
    refine List.nodup_append.2 ⟨h.nd, by simp, fun a ha b hb => ?_⟩
    obtain ⟨y, hy, rfl⟩ := List.mem_map.1 ha
    simp only [List.map_cons, List.map_nil, List.mem_singleton] at hb
    subst hb
    intro e
    have := (h.are y hy).2
    rw [e, hl] at this
    cases this
  · rcases List.mem_append.1 hy with q | q
    · obtain ⟨a, b⟩ := h.are y q
      exact ⟨a, by rw [b]; rfl⟩
    · rw [List.mem_singleton.1 q]
      exact ⟨hx, by simp [Lit.sameKey]⟩
  · by_cases e : s = x.name.data.toList
    · exact ⟨x, by simp, e.symm⟩
    · have : left (.string s) = false := by
        have := hn
        simp [Lit.sameKey, e] at this
        exact this
      obtain ⟨y, hy, hq⟩ := h.all s hs this
      exact ⟨y, List.mem_append_left _ hy, hq⟩

theorem CollL.start (f : List UInt8 → Option Lease) (has : Lit → Bool) (h : ∀ s, (f s).isSome = true → has (.string s) = true) : CollL f has [] :=
  ⟨List.nodup_nil, fun x hx => (by cases hx), fun s h1 h2 => by rw [h s h1] at h2; cases h2⟩

set_option maxRecDepth 100000 in
set_option maxHeartbeats 2000000 in
theorem values1_in (m : Nat) (hm : 1 ≤ m) (l Bm b n : Nat) (f : List UInt8 → Option Lease) (hf : ∀ s x, f s = some x → x.name.data.toList = s) (D0 : DataW Value) (J Jx : List Lease → World → Prop)
    (hY : ∀ pre x W, J pre W → pre.length < Maps.size D0 → YieldAt Fence.wide (m - 1) Try.prog l (encLs x) W fun e W' =>
      (e = .returned (.bool true) ∧ J (pre ++ [x]) W' ∧ KeepsWalks W W') ∨ (e = .returned (.bool false) ∧ Jx (pre ++ [x]) W'))
    (W : World) (hc : W.cell? ⟨Bm, 0, none⟩ = some (.map (some b))) (hJ : AbidesFrom W.heap.size J) (hown : W.ownsMap Try.prog 9 heldElem b n D0) (hT : Tells D0 (byStr Lease.val f)) (h0 : J [] W) :
    CallsIn Fence.wide m Try.prog 31 #[.func (.yield l) #[] #[], .pointer (some ⟨Bm, 0, none⟩)] W fun e W' => (∃ v, e = .returned v) ∧
      ((∃ ys, AllOf f ys ∧ J ys W') ∨ (∃ pre, Jx pre W')) := by
  have hro : Fence.wide.round = none := rfl
  refine callsIn_of_wp Try.func31 rfl trivial ?_ hro
  simp only [Try.ntmps31, List.size_toArray, List.length_cons, List.length_nil, Nat.reduceAdd, Nat.reduceSub, Array.replicate_succ, Array.replicate_zero, List.push_toArray, List.append_toArray, List.nil_append, List.cons_append]
  gi_wp2_with (first
    | (gi_at_range; refine wpListIn_range_own _ rfl _ 44 rfl 9 34 strKeyed Try.underlying44 _ b n _ rfl hown ?_; intro w0 hrg0 hg0 hs0)
    | gi_in)
  go_frame
  gi_loopw [4, 7] (fun _ _ wr => ∃ (left : Lit → Bool) (cnt : Nat) (xs : List Lease), wr.ranges Try.prog 9 heldElem b W.heap.size n D0 left cnt ∧ xs.length + cnt ≤ Maps.size D0 ∧ Hid (CollL f left xs) ∧ J xs wr)
    (fun _ _ wr => wr.rangeLeft b W.heap.size)
  case atStart =>
    exact ⟨_, _, [], hrg0, by simp, CollL.start f _ (fun s hs => by rw [(hT _).1]; simpa [byStr] using hs), hJ [] W w0 none h0 hg0 (fun r e => by cases e)⟩
  case round =>
    obtain ⟨left, cnt, xs, hrg, hcs, hC, hJs⟩ := hrel
    gi_wp2_with (first
      | (gi_at_next; refine wpListIn_next_ranges _ rfl _ rfl 9 strKeyed heldElem encStr id (fun key kl hk => by obtain ⟨x, hx, _⟩ := Maps.keyOf_str Try.underlying9 hk; exact ⟨x, hx⟩) (fun v _ _ => ⟨v, rfl⟩) b W.heap.size n _ _ _ rfl hrg ?_ ?_)
      | gi_in)
    · intro hc0 hl0
      gi_wp2
      go_end0
      exact ⟨⟨_, rfl⟩, .inl ⟨xs, hC.out.done hl0, hJs⟩⟩
    · intro k c kl yd yp w2 cnt2 hkey hlk hv hat hrg2 hlt hg2 hs2 hen
      obtain ⟨k', ex, rfl, _⟩ := Maps.keyOf_str Try.underlying9 hkey
      obtain rfl : k = k' := encStr_inj ex
      have hyd : yd = .held c := by
        have hv : heldElem c = some (yd, yp) := hv
        unfold heldElem at hv
        injection hv with hv
        injection hv with hv _
        exact hv.symm
      have hfx : ∃ x, f k = some x := by
        cases hfk : f k with
        | some x => exact ⟨x, rfl⟩
        | none =>
          have h2 := (hT (.string k)).2
          have e1 := (h2 (.held (.bool true))).symm.trans (hat _)
          have e2 := (h2 (.held (.bool false))).symm.trans (hat _)
          simp [byStr, hfk] at e1 e2
          rw [← e1] at e2
          cases e2
      obtain ⟨x, hfk⟩ := hfx
      have hname := hf k x hfk
      have hcx : c = x.val := by
        have e1 := ((hT (.string k)).2 (.held (.bool true))).symm.trans (hat _)
        simp [byStr, hfk, hyd] at e1
        exact e1.symm
      have HC' : Hid (CollL f (fun z => left z && !z.sameKey (.string k)) (xs ++ [x])) := by
        have := hC.out.step (x := x) (by rw [hname]; exact hfk) (by rw [hname]; exact hlk)
        rw [hname] at this
        exact this
      have hw2l : W.heap.size < w2.heap.size := hrg2.lt
      have hJ2 : J xs w2 := hJ xs wr w2 (some W.heap.size) hJs hg2 (fun r e => by cases e; exact ⟨Nat.le_refl _, hrg.iter_walk⟩)
      obtain ⟨nm, ho, ti, tu⟩ := x
      subst hcx hyd
      unfold Lease.val at hen
      have Hat := Lib.hid hat
      have Hname := Lib.hid hname
      have HJ2 := Lib.hid hJ2
      have Hlt := Lib.hid hlt
      have Hleft := Lib.hid hrg.left_eq
      have Hrg2 := Lib.hid hrg2
      clear hat hname hs2 hlt hJ2 hrg hrg2 hJs hg2 hv hkey ex hlk hfk
      have hJ3 : J xs (w2.alloc (.cells #[.string nm, .string ho, .int .i64 ti, .int .i64 tu] 34)) := hJ xs w2 _ none HJ2.out (World.grownBy_alloc _ _ _) (fun r e => by cases e)
      have HrgA := Lib.hid (Hrg2.out.alloc (.cells #[.string nm, .string ho, .int .i64 ti, .int .i64 tu] 34))
      obtain ⟨fn, tmps, assign, body, hy, hRR⟩ := hY xs ⟨nm, ho, ti, tu⟩ _ hJ3 (by have := Hlt.out; omega)
      dsimp only [encLs] at hy
      have HRR := Lib.hid hRR
      clear hJ3 hRR
      dsimp only [Lease.val, id_eq]
      gi_wp2
      refine HRR.out.mono ?_
      rintro e W3 (⟨rfl, hJ4, hk4⟩ | ⟨rfl, hJx4⟩)
      · have hrg3 := HrgA.out.of_walks hk4
        have Hrg3 := Lib.hid hrg3
        clear hrg3
        gi_wp2
        go_roundw
        case rel => exact ⟨_, cnt2, xs ++ [⟨nm, ho, ti, tu⟩], Hrg3.out, by have := Hlt.out; simp; omega, HC', hJ4⟩
        case measure => rw [Hrg3.out.left_eq, Hleft.out]; exact Hlt.out
      · gi_wp2
        refine bodyPost_ret (results_none rfl _ _ _) rfl ?_
        exact ⟨⟨_, rfl⟩, .inr ⟨_, hJx4⟩⟩

theorem values_stops (m : Nat) (hm : 1 ≤ m) (Bm b n : Nat) (f : List UInt8 → Option Lease) (hf : ∀ s x, f s = some x → x.name.data.toList = s) (w : World) (hc : w.cell? ⟨Bm, 0, none⟩ = some (.map (some b))) (hM : StrMap Lease.val w Try.prog 9 b n f) :
    SeqStopsK Fence.wide m Try.prog 31 #[.pointer (some ⟨Bm, 0, none⟩)] encLs KeepsWalks (AllOf f) (fun _ => True) n w := fun lp J Jx W hW hJ _ hY h0 => by
  have hM2 : MapIs W Try.prog 9 b n (byStr Lease.val f) := MapIs.below hM hW
  obtain ⟨D, hown, hsz, hT⟩ := hM2
  refine (values1_in m hm lp Bm b n f hf D J Jx (by rw [hsz]; exact hY) W (Below.cell_some hW hc) hJ hown hT h0).mono ?_
  rintro e W' ⟨h1, h2 | ⟨pre, h2⟩⟩
  · exact ⟨h1, .inl h2⟩
  · exact ⟨h1, .inr ⟨pre, trivial, h2⟩⟩

theorem valuesOf_any (b : Nat) (w : World) : Calls Try.prog 21 #[.map (some b)] w fun e w' =>
    e = .returned (.func (.func 31) #[] #[.pointer (some ⟨w.heap.size, 0, none⟩)]) ∧ w' = w.alloc (.cells #[.map (some b)] 44) := by
  go_enter Try.func21, Try.ntmps21
  go_wp2
  go_ret
  exact ⟨rfl, rfl⟩
end Go.Proofs.Ytcgfjbbdadjegaa
