/- Contracts of package rate's and quant's small functions. Condition: the slice reads. || The contract of rate's right. Condition: the slice reads. || The contract of the closure that rate.Increase hands to quant.Sum: the steps of the row, one by one. Condition: the row reads, its values are quantities. -/
import Derived.Test.YtamhijbnmhdhbaaBase
import Derived.Test.YtamhijbnmhdhbaaRingM
import Derived.Test.YtamhijbnmhdhbaaRows
import Derived.BigRegion
import Derived.RangeFuncNested
import Derived.RangeFuncBound
import Derived.RangeFuncCalls
import Derived.RangeFuncLeaves
import Derived.RangeFuncFrom
import Derived.Shelf.Abstract
import Derived.Shelf.RegionOpen
import Derived.WalkKit
import Derived.OwnWalkIn
import Derived.TacticsInMore
import Derived.LoopNIn
import Derived.LoopIn
namespace Go.Proofs.Ytamhijbnmhdhbaa
open Go.ChangeShapes Go.WideShapes Go.ChangeAt Go.RowKit Go.Deep

structure Smp where
  at_ : Int
  v : Int
deriving Inhabited

def Smp.cells (x : Smp) : List Value := [.int .i64 x.at_, .int .i64 x.v]

def okQ (m : Int) : Bool := decide (0 ≤ m ∧ m ≤ 9007199254740992)

theorem qright_any (m : Int) (w : World) : Calls Try.prog 43 #[.int .i64 m] w fun e w' => e = .returned (.bool (okQ m)) ∧ w' = w := by
  unfold okQ
  by_cases h1 : 0 ≤ m
  · by_cases h2 : m ≤ 9007199254740992
    all_goals
      go_enter Try.func43, Try.ntmps43
      go_wp2
      go_ret
      exact ⟨ret_bool (by simp [h1, h2]), rfl⟩
  · go_enter Try.func43, Try.ntmps43
    go_wp2
    go_ret
    exact ⟨ret_bool (by simp; omega), rfl⟩

def stepOf (a b : Int) : Int := if b < a then b else b - a

theorem step_any (a b : Int) (w : World) (ha : okQ a = true) (hb : okQ b = true) : Calls Try.prog 31 #[.int .i64 a, .int .i64 b] w fun e w' => e = .returned (.int .i64 (stepOf a b)) ∧ w' = w := by
  unfold okQ at ha hb
  have ha := of_decide_eq_true ha
  have hb := of_decide_eq_true hb
  have hw : IntKind.i64.wrap (b - a) = b - a := IntWalk.i64_in _ (by omega)
  unfold stepOf
  by_cases h : b < a
  all_goals
    go_enter Try.func31, Try.ntmps31
    go_wp2
    go_ret
    exact ⟨ret_int (by simp), rfl⟩

def addOf (a b : Int) : Int × Int := if a + b ≤ 9007199254740992 then (a + b, 0) else (0, 3)

set_option maxRecDepth 100000 in
theorem add_any (a b : Int) (w : World) (ha : okQ a = true) (hb : okQ b = true) : Calls Try.prog 44 #[.int .i64 a, .int .i64 b] w fun e w' => e = .returned (.tuple #[.int .i64 (addOf a b).1, .int .i64 (addOf a b).2]) ∧ w' = w := by
  have ha' := ha
  have hb' := hb
  unfold okQ at ha' hb'
  have ha' := of_decide_eq_true ha'
  have hb' := of_decide_eq_true hb'
  have hw : IntKind.i64.wrap (a + b) = a + b := IntWalk.i64_in _ (by omega)
  have h3 : okQ (a + b) = decide (a + b ≤ 9007199254740992) := by unfold okQ; rw [decide_eq_decide]; omega
  have HA : Hid (∀ w1, Calls Try.prog 43 #[.int .i64 a] w1 fun e w' => e = .returned (.bool true) ∧ w' = w1) := fun w1 => ha ▸ qright_any a w1
  have HB : Hid (∀ w1, Calls Try.prog 43 #[.int .i64 b] w1 fun e w' => e = .returned (.bool true) ∧ w' = w1) := fun w1 => hb ▸ qright_any b w1
  have HC : Hid (∀ w1, Calls Try.prog 43 #[.int .i64 (a + b)] w1 fun e w' => e = .returned (.bool (okQ (a + b))) ∧ w' = w1) := fun w1 => qright_any (a + b) w1
  rw [h3] at HC
  clear ha hb h3
  unfold addOf
  by_cases h : a + b ≤ 9007199254740992
  · rw [if_pos h]
    rw [decide_eq_true h] at HC
    clear h
    go_enter Try.func44, Try.ntmps44
    go_wp2_with fail
    refine (HA.out _).mono ?_
    rintro e w1 ⟨rfl, rfl⟩
    go_wp2_with fail
    refine (HB.out _).mono ?_
    rintro e w2 ⟨rfl, rfl⟩
    go_wp2_with fail
    refine (HC.out _).mono ?_
    rintro e w3 ⟨rfl, rfl⟩
    go_wp2
    go_ret2
    exact ⟨rfl, rfl⟩
  · rw [if_neg h]
    rw [decide_eq_false h] at HC
    clear h
    go_enter Try.func44, Try.ntmps44
    go_wp2_with fail
    refine (HA.out _).mono ?_
    rintro e w1 ⟨rfl, rfl⟩
    go_wp2_with fail
    refine (HB.out _).mono ?_
    rintro e w2 ⟨rfl, rfl⟩
    go_wp2_with fail
    refine (HC.out _).mono ?_
    rintro e w3 ⟨rfl, rfl⟩
    go_wp2
    go_ret2
    exact ⟨rfl, rfl⟩
end Go.Proofs.Ytamhijbnmhdhbaa
namespace Go.Proofs.Ytamhijbnmhdhbaa
open Go.ChangeShapes Go.WideShapes Go.ChangeAt Go.RowKit Go.Deep

def goodAt (l : List Smp) (i : Nat) : Bool := okQ (l[i]!).v && (decide (i = 0) || decide ((l[i-1]!).at_ < (l[i]!).at_))
def rightOf (l : List Smp) : Bool := (List.range l.length).all (goodAt l)

theorem below_dn {B : Nat} {w0 w : World} (h : Below B w0 w) (n : Nat) : Below B w0 (w.drewN n) := ⟨h.os, h.tape, h.output, h.size, h.block⟩

theorem upto_step {p : Nat → Prop} {k : Nat} (h : ∀ j, j < k → p j) (hk : p k) : ∀ j, j < k + 1 → p j := fun j hj => by
  by_cases e : j < k
  · exact h j e
  · have : j = k := by omega
    rw [this]
    exact hk

theorem right_bad {l : List Smp} {k : Nat} (hk : k < l.length) (h : goodAt l k = false) : rightOf l = false := by
  unfold rightOf
  rw [List.all_eq_false]
  exact ⟨k, List.mem_range.2 hk, by rw [h]; decide⟩

theorem right_all {l : List Smp} {k : Nat} (hk : l.length ≤ k) (h : ∀ j, j < k → goodAt l j = true) : rightOf l = true := by
  unfold rightOf
  rw [List.all_eq_true]
  exact fun j hj => h j (by have := List.mem_range.1 hj; omega)

set_option maxRecDepth 100000 in
set_option maxHeartbeats 2000000 in
theorem rright_any (l : List Smp) (ao : Option Addr) (n cap : Nat) (w : World) (hS : SlR (Flat Smp.cells) 2 w ao n cap l) :
    Calls Try.prog 28 #[.slice ao n cap] w fun e w' => e = .returned (.bool (rightOf l)) ∧ Below w.heap.size w w' := by
  have hcm := hS.hmax
  have hlc := hS.hcap
  unfold maxLen at hcm
  have Hm := Lib.hid hS.hlen
  go_enter Try.func28, Try.ntmps28
  go_wp2_with fail
  go_loopw [7] (fun i wr => ∃ k : Nat, k ≤ n ∧ i = .int .i64 k ∧ Hid (∀ j, j < k → goodAt l j = true) ∧ Below w.heap.size w wr) (fun i _ => n - (intOf i).toNat)
  case atStart => exact ⟨0, Nat.zero_le _, rfl, fun j h => absurd h (Nat.not_lt_zero _), Below.refl _ _⟩
  case round =>
    obtain ⟨k, hk, rfl, hI, hb⟩ := hrel
    by_cases hlt : k < n
    · obtain ⟨b, off, rfl⟩ := hS.ptr (by decide) (by omega)
      have kx : k < l.length := by rw [Hm.out]; exact hlt
      have hSr := hS.flatKeeps (Keeps.below hb)
      have hc := hSr.flat kx
      have c1 := hc 0 _ rfl
      have c2 := hc 1 _ rfl
      rw [Nat.add_zero] at c1
      have hg : Hid (goodAt l k = (okQ l[k].v && (decide (k = 0) || decide ((l[k-1]!).at_ < l[k].at_)))) := by
        show _ = _
        unfold goodAt
        rw [getElem!_pos l k kx]
      obtain ⟨x, hx⟩ : ∃ x, l[k] = x := ⟨_, rfl⟩
      rw [hx] at c1 c2 hg
      obtain ⟨a, q⟩ := x
      dsimp only at c1 c2 hg
      have hbl := blk c1
      have Hb := Lib.hid hb
      have hsz := hb.size
      obtain ⟨wq, rfl⟩ : ∃ wq : World, wq = wr := ⟨_, rfl⟩
      have HR : Hid (∀ w1, Calls Try.prog 43 #[.int .i64 q] w1 fun e w' => e = .returned (.bool (okQ q)) ∧ w' = w1) := fun w1 => qright_any q w1
      cases hq : okQ q
      · have hbad : Hid (goodAt l k = false) := by show _ = _; rw [hg.out, hq]; rfl
        rw [hq] at HR
        clear hc hx hb hq
        go_wp2
        go_quiet (exact (HR.out _).mono fun e w' h => ⟨h.1, _, h.2⟩)
        go_wp2
        go_ret
        exact ⟨ret_bool (right_bad kx hbad.out).symm, below_dn (Hb.out.alloc hsz _) _⟩
      · rw [hq] at HR hg
        clear hx
        by_cases hk0 : 0 < k
        · have ky : k - 1 < l.length := by omega
          have hd := hSr.flat ky
          have d1 := hd 0 _ rfl
          rw [Nat.add_zero] at d1
          rw [getElem!_pos l (k - 1) ky] at hg
          obtain ⟨y, hy⟩ : ∃ y, l[k - 1].at_ = y := ⟨_, rfl⟩
          rw [hy] at d1 hg
          have hbd := blk d1
          have hd1 : decide (0 < k) = true := decide_eq_true hk0
          have hd2 : (1 : Int) ≤ (k : Int) := by omega
          have hd3 : (k : Int) - 1 < (n : Int) := by omega
          have hd4 : ((k : Int) - 1).toNat = k - 1 := by omega
          have hd5 : IntKind.i64.wrap ((k : Int) - 1) = (k : Int) - 1 := IntWalk.i64_in _ (by omega)
          by_cases hya : a ≤ y
          · have hbad : Hid (goodAt l k = false) := by show _ = _; rw [hg.out]; simp; omega
            have ht : decide (a ≤ y) = true := decide_eq_true hya
            clear hc hd hy hq hg
            go_wp2
            go_quiet (exact (HR.out _).mono fun e w' h => ⟨h.1, _, h.2⟩)
            go_wp2
            go_ret
            exact ⟨ret_bool (right_bad kx hbad.out).symm, below_dn (Hb.out.alloc hsz _) _⟩
          · have hgd : Hid (goodAt l k = true) := by show _ = _; rw [hg.out]; simp; omega
            have ht : decide (a ≤ y) = false := decide_eq_false hya
            clear hc hd hy hq hg
            go_wp2
            go_quiet (exact (HR.out _).mono fun e w' h => ⟨h.1, _, h.2⟩)
            go_wp2
            go_roundw
            case rel => exact ⟨k + 1, by omega, by go_num, upto_step hI.out hgd.out, below_dn (Hb.out.alloc hsz _) _⟩
            case measure => simp [intOf]; omega
        · have hkz : k = 0 := by omega
          have hgd : Hid (goodAt l k = true) := by show _ = _; rw [hg.out, hkz]; simp
          have hd1 : decide (0 < k) = false := decide_eq_false hk0
          clear hc hq hg hkz
          go_wp2
          go_quiet (exact (HR.out _).mono fun e w' h => ⟨h.1, _, h.2⟩)
          go_wp2
          go_roundw
          case rel => exact ⟨k + 1, by omega, by go_num, upto_step hI.out hgd.out, below_dn (Hb.out.alloc hsz _) _⟩
          case measure => simp [intOf]; omega
    · have Hb := Lib.hid hb
      clear hb
      have hkn : l.length ≤ k := by rw [Hm.out]; omega
      go_wp2
      go_ret
      exact ⟨ret_bool (right_all hkn hI.out).symm, Hb.out⟩
end Go.Proofs.Ytamhijbnmhdhbaa
namespace Go.Proofs.Ytamhijbnmhdhbaa
open Go.RowKit Go.Shelf

attribute [local go_sem] Oper.semAt_some

/-- A quantity. -/
abbrev Qty := { x : Int // 0 ≤ x ∧ x ≤ 9007199254740992 }
def toQty (x : Int) : Qty := if h : 0 ≤ x ∧ x ≤ 9007199254740992 then ⟨x, h⟩ else ⟨0, by decide⟩
theorem toQty_val {x : Int} (h : 0 ≤ x ∧ x ≤ 9007199254740992) : (toQty x).1 = x := by unfold toQty; rw [dif_pos h]
def stepAt (l : List Smp) (j : Nat) : Int := stepOf (l[j]!).v (l[j+1]!).v
def stepsTo (l : List Smp) (k : Nat) : List Qty := (List.range k).map fun j => toQty (stepAt l j)
theorem stepsTo_succ (l : List Smp) (k : Nat) : stepsTo l (k + 1) = stepsTo l k ++ [toQty (stepAt l k)] := by simp [stepsTo, List.range_succ]
theorem stepsTo_length (l : List Smp) (k : Nat) : (stepsTo l k).length = k := by simp [stepsTo]
theorem stepOf_ok {a b : Int} (ha : okQ a = true) (hb : okQ b = true) : 0 ≤ stepOf a b ∧ stepOf a b ≤ 9007199254740992 := by
  unfold okQ at ha hb
  have ha := of_decide_eq_true ha
  have hb := of_decide_eq_true hb
  unfold stepOf
  split <;> omega

set_option maxRecDepth 100000 in
set_option maxHeartbeats 4000000 in
theorem inc1_in (m : Nat) (hm : 1 ≤ m) (lp Bs n₀ b off len cap : Nat) (l : List Smp) (hl2 : len ≤ cap) (hcap : cap ≤ 9223372036854775807) (hq : ∀ j, j < len → okQ (l[j]!).v = true) (hb : b < n₀) (hBs0 : Bs < n₀)
    (J Jx : List Qty → World → Prop) (hJd : ∀ pre A, J pre A → J pre A.drew)
    (hY : ∀ pre x W, J pre W → pre.length < len → YieldAt Fence.wide (m - 1) Try.prog lp #[.int .i64 (x : Qty).1] W fun e W' =>
      (e = .returned (.bool true) ∧ J (pre ++ [x]) W' ∧ Below n₀ W W') ∨ (e = .returned (.bool false) ∧ Jx (pre ++ [x]) W'))
    (W : World) (hBs : W.cell? ⟨Bs, 0, none⟩ = some (.slice (some ⟨b, off, none⟩) len cap)) (hc : ∀ j, j < len → W.cell? ⟨b, off + j * 2 + 1, none⟩ = some (.int .i64 (l[j]!).v)) (h0 : J [] W) (h1 : 1 ≤ len) :
    CallsIn Fence.wide m Try.prog 30 #[.func (.yield lp) #[] #[], .pointer (some ⟨Bs, 0, none⟩)] W fun e W' => (∃ v, e = .returned v) ∧
      ((∃ ys, ys = stepsTo l (len - 1) ∧ J ys W') ∨ (∃ pre, (∃ k, k ≤ len - 1 ∧ pre = stepsTo l k) ∧ Jx pre W')) := by
  have hro : Fence.wide.round = none := rfl
  have hmix : Try.prog.follows .mixedOrders = true := by kernel_rfl
  refine callsIn_of_wp Try.func30 rfl trivial ?_ hro
  simp only [Try.ntmps30, List.size_toArray, List.length_cons, List.length_nil, Nat.reduceAdd, Nat.reduceSub, Array.replicate_succ, Array.replicate_zero, List.push_toArray, List.append_toArray, List.nil_append, List.cons_append]
  gi_wp2
  gi_loopw [3] (fun i wr => ∃ k : Nat, k + 1 ≤ len ∧ i = .int .i64 ((k : Int) + 1) ∧ J (stepsTo l k) wr ∧ Below n₀ W wr) (fun i _ => len - (intOf i).toNat)
  case atStart => exact ⟨0, h1, rfl, h0, Below.refl _ _⟩
  case round =>
    obtain ⟨k, hk, rfl, hJs, hnx⟩ := hrel
    have hBr := (hnx.cell (p := ⟨Bs, 0, none⟩) hBs0).trans hBs
    by_cases hlt : k + 1 < len
    · have c1 := (hnx.cell (p := ⟨b, off + k * 2 + 1, none⟩) hb).trans (hc k (by omega))
      have c2 := (hnx.cell (p := ⟨b, off + (k + 1) * 2 + 1, none⟩) hb).trans (hc (k + 1) hlt)
      have q1 := hq k (by omega)
      have q2 := hq (k + 1) hlt
      have hv := toQty_val (stepOf_ok q1 q2)
      obtain ⟨fn, tmps, assign, body, hy, hR⟩ := hY _ (toQty (stepAt l k)) wr.drew (hJd _ _ hJs) (by rw [stepsTo_length]; omega)
      rw [← stepsTo_succ] at hR
      rw [show stepAt l k = stepOf (l[k]!).v (l[k+1]!).v from rfl, hv] at hy
      have hT : ∀ w1, CallsIn Fence.wide (m - 1) Try.prog 31 #[.int .i64 (l[k]!).v, .int .i64 (l[k+1]!).v] w1 fun e w' => e = .returned (.int .i64 (stepOf (l[k]!).v (l[k+1]!).v)) ∧ w' = w1 := fun w1 => callsIn_wide.2 (step_any _ _ w1 q1 q2)
      obtain ⟨x1, hx1⟩ : ∃ x, (l[k]!).v = x := ⟨_, rfl⟩
      obtain ⟨x2, hx2⟩ : ∃ x, (l[k+1]!).v = x := ⟨_, rfl⟩
      rw [hx1] at c1 hT hy
      rw [hx2] at c2 hT hy
      obtain ⟨s, hs⟩ : ∃ s, stepOf x1 x2 = s := ⟨_, rfl⟩
      rw [hs] at hT hy
      have hd1 : IntKind.i64.wrap ((k : Int) + 1 - 1) = (k : Int) := by rw [IntWalk.i64_in _ (by omega)]; omega
      have hd2 : (0 : Int) ≤ (k : Int) + 1 := by omega
      have hd3 : (k : Int) + 1 < (len : Int) := by omega
      have hd4 : ((k : Int) + 1).toNat = k + 1 := by omega
      have hd5 : (k : Int) < (len : Int) := by omega
      have hd6 : IntKind.i64.wrap (k : Int) = (k : Int) := IntWalk.i64_in _ (by omega)
      have hd7 : k < len := by omega
      have hd8 : (0 : Int) ≤ (k : Int) := by omega
      clear hv hx1 hx2 hs q1 q2 hq hc
      gi_wp2
      have hR := hR.mono (R' := fun e W' => ∃ c : Bool, e = .returned (.bool c) ∧ Hid ((c = true ∧ J (stepsTo l (k + 1)) W' ∧ Below n₀ wr.drew W') ∨ (c = false ∧ Jx (stepsTo l (k + 1)) W'))) (fun e W' h => by
        rcases h with ⟨rfl, h⟩ | ⟨rfl, h⟩
        · exact ⟨true, rfl, .inl ⟨rfl, h⟩⟩
        · exact ⟨false, rfl, .inr ⟨rfl, h⟩⟩)
      gi_region_with_o (first | (refine ⟨trivial, ?_⟩; gi_at_call 31; refine (hT _).mono ?_; rintro e w1 ⟨rfl, rfl⟩) | (refine hR.mono ?_; rintro e W3 ⟨c, rfl, hc3⟩))
      all_goals
        rcases hc3.out with ⟨rfl, hJ3, hb3⟩ | ⟨rfl, hJx3⟩
        · clear hc3
          have hnx3 := hnx.trans ((below_dn (Below.refl n₀ wr) 1).trans hb3)
          gi_wp2
          go_roundw
          case rel => exact ⟨k + 1, by omega, by go_num, hJ3, hnx3⟩
          case measure => simp [intOf]; omega
        · clear hc3
          gi_wp2
          refine bodyPost_ret (results_none rfl _ _ _) rfl ?_
          exact ⟨⟨_, rfl⟩, .inr ⟨_, ⟨k + 1, by omega, rfl⟩, hJx3⟩⟩
    · have hkl : k = len - 1 := by omega
      gi_wp2
      go_end0
      exact ⟨⟨_, rfl⟩, .inl ⟨_, by rw [hkl], hJs⟩⟩
end Go.Proofs.Ytamhijbnmhdhbaa
