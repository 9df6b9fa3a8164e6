/- Which labels and asks are right, as plain functions. No condition. || The shapes of an object as values. No condition. || The contract of the reference's Name: the same names. No condition. || The contracts of label's value and Right. Condition: the slice reads. || The contracts of label.Asks and the library's ContainsFunc. Condition: the slice reads. || The contracts of the reference's Name, Right and Asks. Condition: texts and rows that fit, the slice reads. -/
import Derived.Test.YtjncoloedakpoaaDoorName2M
import Derived.Sort.Walk0
import Derived.BigRegion
import Derived.BigQuiet
namespace Go.Proofs.YtjncoloedakpoaaDoor
open Go.ChangeShapes Go.WideShapes Go.ChangeAt Go.RowKit Go.Deep

theorem less_trans {x y z : List UInt8} (h1 : Op.bytesLess x y = true) (h2 : Op.bytesLess y z = true) : Op.bytesLess x z = true := by
  rw [bytesLess_eq, decide_eq_true_iff] at *
  exact List.lt_trans h1 h2

def okVal (v : ByteArray) : Bool := v.toList.isEmpty || nameOf v.data.toList
def okLabel (x : Label) : Bool := nameOf x.key.data.toList && okVal x.val
def keyLt (a b : Label) : Bool := Op.bytesLess a.key.toList b.key.toList

def LabelsOk (xs : List Label) : Prop := (∀ k, (h : k < xs.length) → okLabel xs[k] = true) ∧ (∀ k, (h : k + 1 < xs.length) → keyLt xs[k] xs[k + 1] = true) ∧ xs.length ≤ 8
noncomputable def labelsOk (xs : List Label) : Bool := @decide (LabelsOk xs) (Classical.propDecidable _)

def Good (xs : List Label) (k : Nat) : Prop := (∀ j, (h : j < xs.length) → j < k → okLabel xs[j] = true) ∧ (∀ j, (h : j + 1 < xs.length) → j + 1 < k → keyLt xs[j] xs[j + 1] = true)

theorem Good.zero (xs : List Label) : Good xs 0 := ⟨fun _ _ h => by omega, fun _ _ h => by omega⟩
theorem Good.next {xs : List Label} {k : Nat} (hk : k < xs.length) (h : Good xs k) (h1 : okLabel xs[k] = true) (h2 : ∀ _ : 0 < k, keyLt xs[k - 1] xs[k] = true) : Good xs (k + 1) := by
  refine ⟨fun j hj hjk => ?_, fun j hj hjk => ?_⟩
  · by_cases e : j = k
    · subst e; exact h1
    · exact h.1 j hj (by omega)
  · by_cases e : j + 1 = k
    · subst e; exact h2 (by omega)
    · exact h.2 j hj (by omega)
theorem Good.done {xs : List Label} {k : Nat} (h : Good xs k) (hk : xs.length ≤ k) : labelsOk xs = decide (xs.length ≤ 8) := by
  unfold labelsOk
  rw [decide_eq_decide]
  exact ⟨fun h' => h'.2.2, fun h8 => ⟨fun j hj => h.1 j hj (by omega), fun j hj => h.2 j hj (by omega), h8⟩⟩
theorem labels_no1 {xs : List Label} {k : Nat} (hk : k < xs.length) (h : okLabel xs[k] = false) : labelsOk xs = false := by
  unfold labelsOk
  rw [decide_eq_false_iff_not]
  intro h'
  have := h'.1 k hk
  rw [h] at this
  cases this
theorem rising_all {xs : List Label} (h : ∀ k, (h : k + 1 < xs.length) → keyLt xs[k] xs[k + 1] = true) (i : Nat) : ∀ d, (hj : i + d + 1 < xs.length) → keyLt xs[i] xs[i + d + 1] = true
  | 0, hj => h i hj
  | d + 1, hj => less_trans (rising_all h i d (by omega)) (h (i + d + 1) (by omega))
theorem labels_no2 {xs : List Label} {i j : Nat} (hij : i < j) (hj : j < xs.length) (h : keyLt xs[i] xs[j] = false) : labelsOk xs = false := by
  unfold labelsOk
  rw [decide_eq_false_iff_not]
  intro h'
  obtain ⟨d, rfl⟩ : ∃ d, j = i + d + 1 := ⟨j - i - 1, by omega⟩
  have := rising_all h'.2.1 i d hj
  rw [h] at this
  cases this

def askOk (r : Require) : Bool := (decide (0 ≤ r.op) && decide (r.op ≤ 3)) && ((nameOf r.key.data.toList && okVal r.val) && (decide (r.op < 2) || r.val.toList.isEmpty))
def asksOk (rs : List Require) : Bool := rs.all askOk && decide (rs.length ≤ 8)

def wholeOk (m : Int) : Bool := decide (0 ≤ m) && decide (m ≤ 9007199254740992)
def sizeOk (c m : Int) : Bool := wholeOk c && (wholeOk m && decide (0 < c))
def btw (x l h : Int) : Bool := decide (l ≤ x) && decide (x ≤ h)
noncomputable def wantsOk (c m : Int) (L : List Label) (S : List Require) (T : List Label) (warm : Int) : Bool := sizeOk c m && (labelsOk L && (asksOk S && (labelsOk T && btw warm 0 1800)))
end Go.Proofs.YtjncoloedakpoaaDoor
namespace Go.Proofs.YtjncoloedakpoaaDoor
open Go.ChangeShapes Go.WideShapes Go.ChangeAt Go.RowKit Go.Deep

structure RowV (α : Type) where
  ao : Option Addr
  la : Nat
  ca : Nat
  xs : List α

structure Metric where
  kind : Int
  name : ByteArray
  target : Int
deriving Inhabited
structure Policy where
  percent : Bool
  value : Int
  period : Int
deriving Inhabited
structure Scaled where
  at_ : Int
  from_ : Int
  to_ : Int
deriving Inhabited
def Metric.cells (x : Metric) : List Value := [.int .i64 x.kind, .string x.name, .int .i64 x.target]
def Policy.cells (x : Policy) : List Value := [.bool x.percent, .int .i64 x.value, .int .i64 x.period]
def Scaled.cells (x : Scaled) : List Value := [.int .i64 x.at_, .int .i64 x.from_, .int .i64 x.to_]

structure WlV where
  rep : Int
  cpu : Int
  mem : Int
  L : RowV Label
  S : RowV Require
  T : RowV Label
  warm : Int
structure PodV where
  owner : ByteArray
  node : ByteArray
  phase : Int
  since : Int
  cpu : Int
  mem : Int
  L : RowV Label
  S : RowV Require
  T : RowV Label
  warm : Int
structure NodeV where
  group : ByteArray
  cpu : Int
  mem : Int
  L : RowV Label
  T : RowV Label
  since : Int
  closed : Bool
structure GroupV where
  min : Int
  max : Int
  target : Int
  cpu : Int
  mem : Int
  L : RowV Label
  T : RowV Label
  prio : Int
structure BehV where
  win : Int
  pick : Int
  P : RowV Policy
structure HpaV where
  target : ByteArray
  min : Int
  max : Int
  M : RowV Metric
  tol : Int
  up : BehV
  down : BehV
  past : RowV Scaled
structure ShapesV where
  w : WlV
  p : PodV
  n : NodeV
  g : GroupV
  h : HpaV

def RowL (w : World) (r : RowV Label) : Prop := SlR (Flat Label.cells) 2 w r.ao r.la r.ca r.xs
def RowS (w : World) (r : RowV Require) : Prop := SlR (Flat Require.cells) 3 w r.ao r.la r.ca r.xs
def RowM (w : World) (r : RowV Metric) : Prop := SlR (Flat Metric.cells) 3 w r.ao r.la r.ca r.xs
def RowP (w : World) (r : RowV Policy) : Prop := SlR (Flat Policy.cells) 3 w r.ao r.la r.ca r.xs
def RowD (w : World) (r : RowV Scaled) : Prop := SlR (Flat Scaled.cells) 3 w r.ao r.la r.ca r.xs

structure WlAt (w : World) (x : WlV) : Prop where
  L : RowL w x.L
  S : RowS w x.S
  T : RowL w x.T
structure PodAt (w : World) (x : PodV) : Prop where
  L : RowL w x.L
  S : RowS w x.S
  T : RowL w x.T
structure NodeAt (w : World) (x : NodeV) : Prop where
  L : RowL w x.L
  T : RowL w x.T
structure GroupAt (w : World) (x : GroupV) : Prop where
  L : RowL w x.L
  T : RowL w x.T
structure HpaAt (w : World) (x : HpaV) : Prop where
  M : RowM w x.M
  U : RowP w x.up.P
  D : RowP w x.down.P
  P : RowD w x.past
structure ShapesAt (wq : World) (o : ShapesV) : Prop where
  w : WlAt wq o.w
  p : PodAt wq o.p
  n : NodeAt wq o.n
  g : GroupAt wq o.g
  h : HpaAt wq o.h

section
variable {w w' : World} (hb : Below w.heap.size w w')
include hb
theorem RowL.b {r} (h : RowL w r) : RowL w' r := SlR.flatKeeps h (Keeps.below hb)
theorem RowS.b {r} (h : RowS w r) : RowS w' r := SlR.flatKeeps h (Keeps.below hb)
theorem RowM.b {r} (h : RowM w r) : RowM w' r := SlR.flatKeeps h (Keeps.below hb)
theorem RowP.b {r} (h : RowP w r) : RowP w' r := SlR.flatKeeps h (Keeps.below hb)
theorem RowD.b {r} (h : RowD w r) : RowD w' r := SlR.flatKeeps h (Keeps.below hb)
theorem WlAt.b {x} (h : WlAt w x) : WlAt w' x := ⟨h.L.b hb, h.S.b hb, h.T.b hb⟩
theorem PodAt.b {x} (h : PodAt w x) : PodAt w' x := ⟨h.L.b hb, h.S.b hb, h.T.b hb⟩
theorem NodeAt.b {x} (h : NodeAt w x) : NodeAt w' x := ⟨h.L.b hb, h.T.b hb⟩
theorem GroupAt.b {x} (h : GroupAt w x) : GroupAt w' x := ⟨h.L.b hb, h.T.b hb⟩
theorem HpaAt.b {x} (h : HpaAt w x) : HpaAt w' x := ⟨h.M.b hb, h.U.b hb, h.D.b hb, h.P.b hb⟩
theorem ShapesAt.b {o} (h : ShapesAt w o) : ShapesAt w' o := ⟨h.w.b hb, h.p.b hb, h.n.b hb, h.g.b hb, h.h.b hb⟩
end

end Go.Proofs.YtjncoloedakpoaaDoor
namespace Go.Proofs.YtjncoloedakpoaaDoor
open Go.ChangeShapes Go.WideShapes Go.ChangeAt Go.RowKit Go.Deep

def lowOf (c : Int) : Bool := (decide (97 ≤ c) && decide (c ≤ 122)) || (decide (48 ≤ c) && decide (c ≤ 57))
def refAt (s : ByteArray) (k : Nat) (h : k < s.size) : Bool := lowOf (s[k].toNat : Int) || (decide ((s[k].toNat : Int) = 45) && (decide (k ≠ 0) && decide (k ≠ s.size - 1)))

theorem refAt_sign {s : ByteArray} {k : Nat} {h : k < s.size} (e : refAt s k h = true) : signL s[k] = true := by
  unfold refAt lowOf at e
  unfold signL signOf
  simp at e ⊢
  omega

theorem refName_yes {s : ByteArray} (h : ∀ k, (hk : k < s.size) → refAt s k hk = true) : nameOf s.data.toList = (decide (1 ≤ (s.size : Int)) && decide ((s.size : Int) ≤ 32)) := by
  by_cases h0 : s.size = 0
  · rw [h0]
    have e : s.toList = [] := by
      rw [Lib.toList_data]
      exact List.eq_nil_of_length_eq_zero (by rw [← size_data]; exact h0)
    rw [name_empty e]
    rfl
  · by_cases h1 : 32 < (s.size : Int)
    · rw [name_long h1]
      simp; omega
    · rw [name_yes (by omega) (by omega) ?_ ?_ (fun k hk => refAt_sign (h k hk))]
      · simp; omega
      · intro e
        have := h 0 (by omega)
        unfold refAt lowOf at this
        simp at this
        omega
      · intro e
        have := h (s.size - 1) (by omega)
        unfold refAt lowOf at this
        simp at this
        omega

theorem refName_no {s : ByteArray} {k : Nat} (hk : k < s.size) (h : refAt s k hk = false) : nameOf s.data.toList = false := by
  cases hs : signL s[k]
  · exact name_sign hk hs
  · have e : (s[k].toNat : Int) = 45 ∧ (k = 0 ∨ k = s.size - 1) := by
      unfold refAt lowOf at h
      unfold signL signOf at hs
      simp at h hs
      omega
    rcases e with ⟨e, rfl | rfl⟩
    · exact name_head hk e
    · exact name_last (by omega) e
end Go.Proofs.YtjncoloedakpoaaDoor
namespace Go.Proofs.YtjncoloedakpoaaDoor
open Go.ChangeShapes Go.WideShapes Go.ChangeAt Go.RowKit Go.Deep

theorem below_dr {B : Nat} {w0 w : World} (h : Below B w0 w) (n : Nat) : Below B w0 (w.drewN n) := ⟨h.os, h.tape, h.output, h.size, h.block⟩

end Go.Proofs.YtjncoloedakpoaaDoor
namespace Go.Proofs.YtjncoloedakpoaaDoor
open Go.ChangeShapes Go.WideShapes Go.ChangeAt Go.RowKit Go.Deep

end Go.Proofs.YtjncoloedakpoaaDoor
namespace Go.Proofs.YtjncoloedakpoaaDoor
open Go.ChangeShapes Go.WideShapes Go.ChangeAt Go.RowKit Go.Deep

set_option maxHeartbeats 3200000 in
theorem refName_any (s : ByteArray) (hn : s.size ≤ maxLen) (w : World) : Calls Tryd.prog 10 #[.string s] w fun e w' => e = .returned (.bool (nameOf s.data.toList)) ∧ w' = w := by
  unfold maxLen at hn
  go_enter Tryd.func10, Tryd.ntmps10
  go_wp2_with fail
  go_loop [3] (fun i => ∃ k : Nat, k ≤ s.size ∧ i = .int .i64 k ∧ Hid (∀ j, (h : j < s.size) → j < k → refAt s j h = true)) (fun i => s.size - (intOf i).toNat)
  case atStart => exact ⟨0, Nat.zero_le _, rfl, fun j _ h => by omega⟩
  case round =>
    obtain ⟨k, hk, rfl, hall⟩ := hrel
    by_cases hlt : k < s.size
    · have hno : Hid (refAt s k hlt = false → nameOf s.data.toList = false) := fun h => refName_no hlt h
      have hyes : Hid (refAt s k hlt = true → ∀ j, (h : j < s.size) → j < k + 1 → refAt s j h = true) := fun h1 j h hj => if e : j = k then by subst e; exact h1 else hall.out j h (by omega)
      have hw : IntKind.i64.wrap ((s.size : Int) - 1) = (s.size : Int) - 1 := IntWalk.i64_in _ (by omega)
      clear hall
      by_cases g : lowOf (s[k].toNat : Int) = true
      · have hy := Lib.hid (hyes.out (by unfold refAt; rw [g]; rfl))
        clear hno hyes
        unfold lowOf at g
        rcases (show (48 ≤ (s[k].toNat : Int) ∧ (s[k].toNat : Int) ≤ 57) ∨ (97 ≤ (s[k].toNat : Int) ∧ (s[k].toNat : Int) ≤ 122) by simp at g; omega) with ⟨g1, g2⟩ | ⟨g1, g2⟩
        · have d1 : decide (97 ≤ (s[k].toNat : Int)) = false := decide_eq_false (by omega)
          have d3 : decide (48 ≤ (s[k].toNat : Int)) = true := decide_eq_true (by omega)
          have d4 : decide ((s[k].toNat : Int) ≤ 57) = true := decide_eq_true (by omega)
          clear g g1 g2
          go_wp2_with fail
          go_round
          case rel => exact ⟨k + 1, by omega, by go_num, hy.out⟩
          case measure => simp [intOf]; omega
        · have d1 : decide (97 ≤ (s[k].toNat : Int)) = true := decide_eq_true (by omega)
          have d2 : decide ((s[k].toNat : Int) ≤ 122) = true := decide_eq_true (by omega)
          clear g g1 g2
          go_wp2_with fail
          go_round
          case rel => exact ⟨k + 1, by omega, by go_num, hy.out⟩
          case measure => simp [intOf]; omega
      · have gf : lowOf (s[k].toNat : Int) = false := by simpa using g
        have HA : Hid (refAt s k hlt = (!((s[k].toNat : Int) != 45) && (!((k : Int) == 0) && !((k : Int) == (s.size : Int) - 1)))) := by
          show _ = _
          unfold refAt
          rw [gf, Bool.false_or, Bool.eq_iff_iff]
          simp
          omega
        have hc : (s[k].toNat : Int) < 48 ∨ (57 < (s[k].toNat : Int) ∧ (s[k].toNat : Int) < 97) ∨ 122 < (s[k].toNat : Int) := by unfold lowOf at g; simp at g; omega
        clear g gf
        obtain ⟨b1, h1⟩ : ∃ b, ((s[k].toNat : Int) != 45) = b := ⟨_, rfl⟩
        obtain ⟨b2, h2⟩ : ∃ b, ((k : Int) == 0) = b := ⟨_, rfl⟩
        obtain ⟨b3, h3⟩ : ∃ b, ((k : Int) == (s.size : Int) - 1) = b := ⟨_, rfl⟩
        rw [h1, h2, h3] at HA
        rcases hc with g | ⟨g1, g2⟩ | g
        rotate_left
        · have d1 : decide (97 ≤ (s[k].toNat : Int)) = false := decide_eq_false (by omega)
          have d3 : decide (48 ≤ (s[k].toNat : Int)) = true := decide_eq_true (by omega)
          have d4 : decide ((s[k].toNat : Int) ≤ 57) = false := decide_eq_false (by omega)
          obtain rfl : b1 = true := by rw [← h1]; exact bne_iff_ne.2 (by omega)
          have hbad := Lib.hid (hno.out HA.out)
          clear g1 g2 hyes hno
          go_wp2_with fail
          go_ret
          exact ⟨ret_bool hbad.out.symm, rfl⟩
        · have d1 : decide (97 ≤ (s[k].toNat : Int)) = true := decide_eq_true (by omega)
          have d2 : decide ((s[k].toNat : Int) ≤ 122) = false := decide_eq_false (by omega)
          have d3 : decide (48 ≤ (s[k].toNat : Int)) = true := decide_eq_true (by omega)
          have d4 : decide ((s[k].toNat : Int) ≤ 57) = false := decide_eq_false (by omega)
          obtain rfl : b1 = true := by rw [← h1]; exact bne_iff_ne.2 (by omega)
          have hbad := Lib.hid (hno.out HA.out)
          clear g hyes hno
          go_wp2_with fail
          go_ret
          exact ⟨ret_bool hbad.out.symm, rfl⟩
        · have d1 : decide (97 ≤ (s[k].toNat : Int)) = false := decide_eq_false (by omega)
          have d3 : decide (48 ≤ (s[k].toNat : Int)) = false := decide_eq_false (by omega)
          clear g
          rcases b1 with _ | _
          rotate_left
          · have hend : Hid ((nameOf s.data.toList = false) ∨ (refAt s k hlt = true)) := by first | exact .inl (hno.out HA.out) | exact .inr HA.out
            clear hno
            go_wp2_with fail
            first
              | (go_ret; exact ⟨ret_bool (hend.out.resolve_right (by rw [HA.out]; exact Bool.false_ne_true)).symm, rfl⟩)
              | (go_round; (case rel => exact ⟨k + 1, by omega, by go_num, hyes.out HA.out⟩); (case measure => simp [intOf]; omega))
          · skip
            rcases b2 with _ | _
            rotate_left
            · have hend : Hid ((nameOf s.data.toList = false) ∨ (refAt s k hlt = true)) := by first | exact .inl (hno.out HA.out) | exact .inr HA.out
              clear hno
              go_wp2_with fail
              first
                | (go_ret; exact ⟨ret_bool (hend.out.resolve_right (by rw [HA.out]; exact Bool.false_ne_true)).symm, rfl⟩)
                | (go_round; (case rel => exact ⟨k + 1, by omega, by go_num, hyes.out HA.out⟩); (case measure => simp [intOf]; omega))
            · skip
              rcases b3 with _ | _
              rotate_left
              · have hend : Hid ((nameOf s.data.toList = false) ∨ (refAt s k hlt = true)) := by first | exact .inl (hno.out HA.out) | exact .inr HA.out
                clear hno
                go_wp2_with fail
                first
                  | (go_ret; exact ⟨ret_bool (hend.out.resolve_right (by rw [HA.out]; exact Bool.false_ne_true)).symm, rfl⟩)
                  | (go_round; (case rel => exact ⟨k + 1, by omega, by go_num, hyes.out HA.out⟩); (case measure => simp [intOf]; omega))
              · skip
                have hend : Hid ((nameOf s.data.toList = false) ∨ (refAt s k hlt = true)) := by first | exact .inl (hno.out HA.out) | exact .inr HA.out
                clear hno
                go_wp2_with fail
                first
                  | (go_ret; exact ⟨ret_bool (hend.out.resolve_right (by rw [HA.out]; exact Bool.false_ne_true)).symm, rfl⟩)
                  | (go_round; (case rel => exact ⟨k + 1, by omega, by go_num, hyes.out HA.out⟩); (case measure => simp [intOf]; omega))
    · have He := Lib.hid (refName_yes (fun j h => hall.out j h (by omega)))
      clear hall
      by_cases h1 : 1 ≤ (s.size : Int)
      · have hd : decide (1 ≤ (s.size : Int)) = true := decide_eq_true h1
        go_wp2_with fail
        go_ret
        exact ⟨ret_bool (by rw [He.out, hd, Bool.true_and]), rfl⟩
      · have hd : decide (1 ≤ (s.size : Int)) = false := decide_eq_false h1
        go_wp2_with fail
        go_ret
        exact ⟨ret_bool (by rw [He.out, hd, Bool.false_and]), rfl⟩

def SmallL (xs : List Label) : Prop := ∀ k, (h : k < xs.length) → xs[k].key.size ≤ maxLen ∧ xs[k].val.size ≤ maxLen
def SmallS (xs : List Require) : Prop := ∀ k, (h : k < xs.length) → xs[k].key.size ≤ maxLen ∧ xs[k].val.size ≤ maxLen
end Go.Proofs.YtjncoloedakpoaaDoor
