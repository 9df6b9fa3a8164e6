/- The contract of the closure that rate.Increase hands to quant.Sum: the steps of the row, one by one. Condition: the row reads, its values are quantities. -/
import Derived.RangeFuncNested
import Derived.RangeFuncBound
import Derived.RangeFuncCalls
import Derived.RangeFuncLeaves
import Derived.RangeFuncFrom
import Derived.Shelf.Abstract
import Derived.Shelf.RegionOpen
import Derived.WalkKit
import Derived.OwnWalkIn
import Derived.TacticsInMore
import Derived.LoopNIn
import Derived.LoopIn
import Derived.Test.YtbhhjlnjhlagdaaRate2
namespace Go.Proofs.Ytbhhjlnjhlagdaa
open Go.RowKit Go.Shelf

attribute [local go_sem] Oper.semAt_some

/-- A quantity. -/
abbrev Qty := { x : Int // 0 ≤ x ∧ x ≤ 9007199254740992 }
def toQty (x : Int) : Qty := if h : 0 ≤ x ∧ x ≤ 9007199254740992 then ⟨x, h⟩ else ⟨0, by decide⟩
theorem toQty_val {x : Int} (h : 0 ≤ x ∧ x ≤ 9007199254740992) : (toQty x).1 = x := by unfold toQty; rw [dif_pos h]
def stepAt (l : List Smp) (j : Nat) : Int := stepOf (l[j]!).v (l[j+1]!).v
def stepsTo (l : List Smp) (k : Nat) : List Qty := (List.range k).map fun j => toQty (stepAt l j)
theorem stepsTo_succ (l : List Smp) (k : Nat) : stepsTo l (k + 1) = stepsTo l k ++ [toQty (stepAt l k)] := by simp [stepsTo, List.range_succ]
theorem stepsTo_length (l : List Smp) (k : Nat) : (stepsTo l k).length = k := by simp [stepsTo]
theorem stepOf_ok {a b : Int} (ha : okQ a = true) (hb : okQ b = true) : 0 ≤ stepOf a b ∧ stepOf a b ≤ 9007199254740992 := by
  unfold okQ at ha hb
  have ha := of_decide_eq_true ha
  have hb := of_decide_eq_true hb
  unfold stepOf
  split <;> omega

set_option maxRecDepth 100000 in
set_option maxHeartbeats 4000000 in
theorem inc1_in (m : Nat) (hm : 1 ≤ m) (lp Bs n₀ b off len cap : Nat) (l : List Smp) (hl2 : len ≤ cap) (hcap : cap ≤ 9223372036854775807) (hq : ∀ j, j < len → okQ (l[j]!).v = true) (hb : b < n₀) (hBs0 : Bs < n₀)
    (J Jx : List Qty → World → Prop) (hJd : ∀ pre A, J pre A → J pre A.drew)
    (hY : ∀ pre x W, J pre W → pre.length < len → YieldAt Fence.wide (m - 1) Try.prog lp #[.int .i64 (x : Qty).1] W fun e W' =>
      (e = .returned (.bool true) ∧ J (pre ++ [x]) W' ∧ Below n₀ W W') ∨ (e = .returned (.bool false) ∧ Jx (pre ++ [x]) W'))
    (W : World) (hBs : W.cell? ⟨Bs, 0, none⟩ = some (.slice (some ⟨b, off, none⟩) len cap)) (hc : ∀ j, j < len → W.cell? ⟨b, off + j * 2 + 1, none⟩ = some (.int .i64 (l[j]!).v)) (h0 : J [] W) (h1 : 1 ≤ len) :
    CallsIn Fence.wide m Try.prog 66 #[.func (.yield lp) #[] #[], .pointer (some ⟨Bs, 0, none⟩)] W fun e W' => (∃ v, e = .returned v) ∧
      ((∃ ys, ys = stepsTo l (len - 1) ∧ J ys W') ∨ (∃ pre, (∃ k, k ≤ len - 1 ∧ pre = stepsTo l k) ∧ Jx pre W')) := by
  have hro : Fence.wide.round = none := rfl
  have hmix : Try.prog.follows .mixedOrders = true := by kernel_rfl
  refine callsIn_of_wp Try.func66 rfl trivial ?_ hro
  simp only [Try.ntmps66, List.size_toArray, List.length_cons, List.length_nil, Nat.reduceAdd, Nat.reduceSub, Array.replicate_succ, Array.replicate_zero, List.push_toArray, List.append_toArray, List.nil_append, List.cons_append]
  gi_wp2
  gi_loopw [3] (fun i wr => ∃ k : Nat, k + 1 ≤ len ∧ i = .int .i64 ((k : Int) + 1) ∧ J (stepsTo l k) wr ∧ Below n₀ W wr) (fun i _ => len - (intOf i).toNat)
  case atStart => exact ⟨0, h1, rfl, h0, Below.refl _ _⟩
  case round =>
    obtain ⟨k, hk, rfl, hJs, hnx⟩ := hrel
    have hBr := (hnx.cell (p := ⟨Bs, 0, none⟩) hBs0).trans hBs
    by_cases hlt : k + 1 < len
    · have c1 := (hnx.cell (p := ⟨b, off + k * 2 + 1, none⟩) hb).trans (hc k (by omega))
      have c2 := (hnx.cell (p := ⟨b, off + (k + 1) * 2 + 1, none⟩) hb).trans (hc (k + 1) hlt)
      have q1 := hq k (by omega)
      have q2 := hq (k + 1) hlt
      have hv := toQty_val (stepOf_ok q1 q2)
      obtain ⟨fn, tmps, assign, body, hy, hR⟩ := hY _ (toQty (stepAt l k)) wr.drew (hJd _ _ hJs) (by rw [stepsTo_length]; omega)
      rw [← stepsTo_succ] at hR
      rw [show stepAt l k = stepOf (l[k]!).v (l[k+1]!).v from rfl, hv] at hy
      have hT : ∀ w1, CallsIn Fence.wide (m - 1) Try.prog 67 #[.int .i64 (l[k]!).v, .int .i64 (l[k+1]!).v] w1 fun e w' => e = .returned (.int .i64 (stepOf (l[k]!).v (l[k+1]!).v)) ∧ w' = w1 := fun w1 => callsIn_wide.2 (step_any _ _ w1 q1 q2)
      obtain ⟨x1, hx1⟩ : ∃ x, (l[k]!).v = x := ⟨_, rfl⟩
      obtain ⟨x2, hx2⟩ : ∃ x, (l[k+1]!).v = x := ⟨_, rfl⟩
      rw [hx1] at c1 hT hy
      rw [hx2] at c2 hT hy
      obtain ⟨s, hs⟩ : ∃ s, stepOf x1 x2 = s := ⟨_, rfl⟩
      rw [hs] at hT hy
      have hd1 : IntKind.i64.wrap ((k : Int) + 1 - 1) = (k : Int) := by rw [IntWalk.i64_in _ (by omega)]; omega
      have hd2 : (0 : Int) ≤ (k : Int) + 1 := by omega
      have hd3 : (k : Int) + 1 < (len : Int) := by omega
      have hd4 : ((k : Int) + 1).toNat = k + 1 := by omega
      have hd5 : (k : Int) < (len : Int) := by omega
      have hd6 : IntKind.i64.wrap (k : Int) = (k : Int) := IntWalk.i64_in _ (by omega)
      have hd7 : k < len := by omega
      have hd8 : (0 : Int) ≤ (k : Int) := by omega
      clear hv hx1 hx2 hs q1 q2 hq hc
      gi_wp2
      have hR := hR.mono (R' := fun e W' => ∃ c : Bool, e = .returned (.bool c) ∧ Hid ((c = true ∧ J (stepsTo l (k + 1)) W' ∧ Below n₀ wr.drew W') ∨ (c = false ∧ Jx (stepsTo l (k + 1)) W'))) (fun e W' h => by
        rcases h with ⟨rfl, h⟩ | ⟨rfl, h⟩
        · exact ⟨true, rfl, .inl ⟨rfl, h⟩⟩
        · exact ⟨false, rfl, .inr ⟨rfl, h⟩⟩)
      gi_region_with_o (first | (refine ⟨trivial, ?_⟩; gi_at_call 67; refine (hT _).mono ?_; rintro e w1 ⟨rfl, rfl⟩) | (refine hR.mono ?_; rintro e W3 ⟨c, rfl, hc3⟩))
      all_goals
        rcases hc3.out with ⟨rfl, hJ3, hb3⟩ | ⟨rfl, hJx3⟩
        · clear hc3
          have hnx3 := hnx.trans ((below_dn (Below.refl n₀ wr) 1).trans hb3)
          gi_wp2
          go_roundw
          case rel => exact ⟨k + 1, by omega, by go_num, hJ3, hnx3⟩
          case measure => simp [intOf]; omega
        · clear hc3
          gi_wp2
          refine bodyPost_ret (results_none rfl _ _ _) rfl ?_
          exact ⟨⟨_, rfl⟩, .inr ⟨_, ⟨k + 1, by omega, rfl⟩, hJx3⟩⟩
    · have hkl : k = len - 1 := by omega
      gi_wp2
      go_end0
      exact ⟨⟨_, rfl⟩, .inl ⟨_, by rw [hkl], hJs⟩⟩
end Go.Proofs.Ytbhhjlnjhlagdaa
