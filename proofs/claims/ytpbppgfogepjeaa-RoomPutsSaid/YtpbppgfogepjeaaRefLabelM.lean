/- Classes of worlds: what was there stays, no draw is undone. No condition. || cmp.Compare of strings. No condition. || Rooms as elements of a row; the contract of Rooms' comparison. No condition. || The contract of the reference's Name: the same names. No condition. || The contracts of label's value and Right. Condition: the slice reads. || The contracts of label.Asks and the library's ContainsFunc. Condition: the slice reads. || The contracts of the reference's Name, Right and Asks. Condition: texts and rows that fit, the slice reads. -/
import Derived.Test.YtpbppgfogepjeaaHeadStatM
import Derived.Sort.Walk0
import Derived.Sort.Grow
import Derived.Test.YtpbppgfogepjeaaChecked
import Derived.Deep.QuietTactic
import Derived.Test.YtpbppgfogepjeaaShapesM
import Derived.Test.YtpbppgfogepjeaaSortPlain
import Derived.Test.YtpbppgfogepjeaaBase
import Derived.BigRegion
import Derived.BigQuiet
namespace Go.Proofs.Ytpbppgfogepjeaa
open Go.ChangeShapes Go.WideShapes Go.ChangeAt Go.RowKit Go.Deep

def Dn (w w' : World) : Prop := Below w.heap.size w w' ∧ w.drawn ≤ w'.drawn
theorem Dn.refl (w : World) : Dn w w := ⟨Below.refl _ _, Nat.le_refl _⟩
theorem Dn.trans {a b c : World} (h : Dn a b) (k : Dn b c) : Dn a c := ⟨h.1.trans (k.1.mono h.1.size), Nat.le_trans h.2 k.2⟩
theorem Dn.alloc {a b : World} (h : Dn a b) (o : Obj) : Dn a (b.alloc o) := ⟨h.1.alloc h.1.size o, h.2⟩
theorem Dn.drew (w : World) : Dn w { w with drawn := w.drawn + 1 } := ⟨⟨rfl, rfl, rfl, Nat.le_refl _, fun _ _ => rfl⟩, Nat.le_succ _⟩

structure DW (w : World) where
  w' : World
  h : Dn w w'
theorem DW.cell {w : World} {p : Addr} {v : Value} (h : w.cell? p = some v) (b : DW w) : b.w'.cell? p = some v := Below.cell_some b.h.1 h
theorem DW.call {P : Program} {f : FuncId} {args : Array Value} {w : World} {v : Value} (b : DW w) (h : Calls P f args b.w' fun e w' => e = .returned v ∧ Dn b.w' w') : Calls P f args b.w' fun e w' => e = .returned v ∧ ∃ q : DW w, w' = q.w' :=
  h.mono fun _ w' ⟨he, hb⟩ => ⟨he, ⟨w', b.h.trans hb⟩, rfl⟩

theorem Dn.grow {w w' : World} (h : Dn w w') : ∃ q os, w' = Sort.grow (w.drewN q) os := by
  obtain ⟨⟨h1, h2, h3, h4, h5⟩, h6⟩ := h
  refine ⟨w'.drawn - w.drawn, w'.heap.extract w.heap.size w'.heap.size, ?_⟩
  have hh : w'.heap = w.heap ++ w'.heap.extract w.heap.size w'.heap.size := by
    apply Array.ext_getElem?
    intro i
    rw [Array.getElem?_append]
    split
    · rename_i hi; exact h5 i hi
    · rename_i hi
      rw [Array.getElem?_extract]
      by_cases hj : i < w'.heap.size
      · rw [if_pos (by omega)]; congr 1; omega
      · rw [if_neg (by omega)]; exact Array.getElem?_eq_none (by omega)
  unfold Sort.grow World.drewN
  cases w
  cases w'
  simp only [World.mk.injEq] at *
  subst h1 h2 h3
  exact ⟨hh, rfl, by omega, rfl, rfl⟩

end Go.Proofs.Ytpbppgfogepjeaa
namespace Go.Proofs.Ytpbppgfogepjeaa
open Go.ChangeShapes Go.WideShapes Go.ChangeAt Go.RowKit Go.Deep

def cfS (a b : ByteArray) : Int := if Op.bytesLess a.toList b.toList = true then -1 else if Op.bytesLess b.toList a.toList = true then 1 else 0

theorem less_irrefl (x : List UInt8) : Op.bytesLess x x = false := by
  rw [bytesLess_eq, decide_eq_false_iff_not]
  exact List.lt_irrefl x

theorem less_tri {x y : List UInt8} (h1 : Op.bytesLess x y = false) (h2 : Op.bytesLess y x = false) : x = y := by
  rw [bytesLess_eq, decide_eq_false_iff_not] at h1 h2
  exact List.le_antisymm (List.not_lt.1 h2) (List.not_lt.1 h1)

theorem isNaN_str (a : ByteArray) (w : World) :
    Calls Try.prog 86 #[.string a] w fun e w' => e = .returned (.bool false) ∧ w' = w := by
  go_enter Try.func86, Try.ntmps86
  go_wp2
  go_ret
  exact ⟨ret_bool (by simp), rfl⟩

theorem compare_str (a b : ByteArray) (w : World) :
    Calls Try.prog 43 #[.string a, .string b] w fun e w' => e = .returned (.int .i64 (cfS a b)) ∧ w' = w := by
  have hU : Hid (cfS a b = if Op.bytesLess a.toList b.toList = true then -1 else if Op.bytesLess b.toList a.toList = true then 1 else 0) := rfl
  have HN : Hid (∀ (x : ByteArray) (w1 : World), _) := fun x w1 => isNaN_str x w1
  cases h1 : Op.bytesLess a.toList b.toList
  · rw [h1] at hU
    cases h2 : Op.bytesLess b.toList a.toList
    · rw [h2] at hU
      have he := less_tri h1 h2
      have heb : (a.toList == b.toList) = true := by rw [beq_iff_eq]; exact he
      clear he
      go_enter Try.func43, Try.ntmps43
      go_wp2_with (go_at_call 86; refine (HN.out _ _).mono ?_; rintro e w' ⟨rfl, rfl⟩)
      go_ret
      exact ⟨by rw [hU.out] <;> rfl, rfl⟩
    · rw [h2] at hU
      have heb : (a.toList == b.toList) = false := by
        rw [beq_eq_false_iff_ne]
        intro he
        rw [he, less_irrefl] at h2
        cases h2
      go_enter Try.func43, Try.ntmps43
      go_wp2_with (go_at_call 86; refine (HN.out _ _).mono ?_; rintro e w' ⟨rfl, rfl⟩)
      go_ret
      exact ⟨by rw [hU.out] <;> rfl, rfl⟩
  · rw [h1] at hU
    go_enter Try.func43, Try.ntmps43
    go_wp2_with (go_at_call 86; refine (HN.out _ _).mono ?_; rintro e w' ⟨rfl, rfl⟩)
    go_ret
    exact ⟨by rw [hU.out] <;> rfl, rfl⟩

end Go.Proofs.Ytpbppgfogepjeaa
namespace Go.Proofs.Ytpbppgfogepjeaa
open Go.ChangeShapes Go.WideShapes Go.ChangeAt Go.RowKit Go.Deep

structure RoomI where
  name : ByteArray
  n : NodeV
  cpu : Int
  mem : Int
  pods : Int
def RoomI.cells (x : RoomI) : List Value := [.string x.name, .string x.n.group, .int .i64 x.n.cpu, .int .i64 x.n.mem, .slice x.n.L.ao x.n.L.la x.n.L.ca, .slice x.n.T.ao x.n.T.la x.n.T.ca, .int .i64 x.n.since, .bool x.n.closed, .int .i64 x.cpu, .int .i64 x.mem, .int .i64 x.pods]
theorem aggRoom : AggOK Try.prog 57 11 := .mk' (by kernel_rfl) (by kernel_rfl)
abbrev TRoom := RoomI × Nat
def tRoom (x : TRoom) : List Value := x.1.cells
theorem lenRoom (x : TRoom) : (tRoom x).length = 11 := rfl
theorem oneRoom (x : TRoom) : ∀ v ∈ tRoom x, v.oneCell' = true := by
  intro v hv
  simp only [tRoom, RoomI.cells, List.mem_cons, List.not_mem_nil, or_false] at hv
  rcases hv with rfl | rfl | rfl | rfl | rfl | rfl | rfl | rfl | rfl | rfl | rfl <;> rfl
def cfRoom (x y : TRoom) : Int := cfS x.1.name y.1.name

set_option maxRecDepth 100000 in
theorem cmpRoom (x y : TRoom) (w : World) :
    Calls Try.prog 42 #[.agg (tRoom x).toArray, .agg (tRoom y).toArray] w fun e w' => e = .returned (.int .i64 (cfRoom x y)) ∧ Below w.heap.size w w' := by
  have HC : Hid (∀ w1 : World, Calls Try.prog 43 #[.string x.1.name, .string y.1.name] w1 fun e w' => e = .returned (.int .i64 (cfRoom x y)) ∧ w' = w1) := fun w1 => compare_str x.1.name y.1.name w1
  unfold tRoom RoomI.cells
  go_enter Try.func42, Try.ntmps42
  go_wp2_with fail
  refine (HC.out _).mono ?_
  rintro e w1 ⟨rfl, rfl⟩
  go_wp2_with fail
  go_ret
  exact ⟨rfl, ((Below.refl _ _).alloc (Nat.le_refl _) _).alloc (by simp) _⟩
theorem less_trR {x y z : List UInt8} (h1 : Op.bytesLess x y = true) (h2 : Op.bytesLess y z = true) : Op.bytesLess x z = true := by
  rw [bytesLess_eq, decide_eq_true_iff] at h1 h2 ⊢
  exact List.lt_trans h1 h2

def TORoom (x y : TRoom) : Prop := Op.bytesLess x.1.name.toList y.1.name.toList = true ∨ (x.1.name.toList = y.1.name.toList ∧ x.2 < y.2)

theorem ordRoom : StOrd cfRoom (fun x : TRoom => x.2) TORoom where
  trans := fun x y z h1 h2 => by
    rcases h1 with h1 | ⟨h1, h1'⟩
    · rcases h2 with h2 | ⟨h2, h2'⟩
      · exact .inl (less_trR h1 h2)
      · exact .inl (by rw [← h2]; exact h1)
    · rcases h2 with h2 | ⟨h2, h2'⟩
      · exact .inl (by rw [h1]; exact h2)
      · exact .inr ⟨h1.trans h2, Nat.lt_trans h1' h2'⟩
  tri := fun x y h => by
    cases h1 : Op.bytesLess x.1.name.toList y.1.name.toList
    · cases h2 : Op.bytesLess y.1.name.toList x.1.name.toList
      · have e := less_tri h1 h2
        rcases Nat.lt_or_gt_of_ne h with h | h
        · exact .inl (.inr ⟨e, h⟩)
        · exact .inr (.inr ⟨e.symm, h⟩)
      · exact .inr (.inl h2)
    · exact .inl (.inl h1)
  agree := fun x y h => by
    unfold cfRoom cfS TORoom
    cases h1 : Op.bytesLess y.1.name.toList x.1.name.toList
    · refine ⟨fun hh => ?_, fun hh => ?_⟩
      · simp only [Bool.false_eq_true, if_false] at hh
        split at hh <;> omega
      · rcases hh with hh | ⟨_, hh⟩
        · cases hh
        · omega
    · exact ⟨fun _ => .inl rfl, fun _ => by simp⟩
end Go.Proofs.Ytpbppgfogepjeaa
namespace Go.Proofs.Ytpbppgfogepjeaa
open Go.ChangeShapes Go.WideShapes Go.ChangeAt Go.RowKit Go.Deep

def lowOf (c : Int) : Bool := (decide (97 ≤ c) && decide (c ≤ 122)) || (decide (48 ≤ c) && decide (c ≤ 57))
def refAt (s : ByteArray) (k : Nat) (h : k < s.size) : Bool := lowOf (s[k].toNat : Int) || (decide ((s[k].toNat : Int) = 45) && (decide (k ≠ 0) && decide (k ≠ s.size - 1)))

theorem refAt_sign {s : ByteArray} {k : Nat} {h : k < s.size} (e : refAt s k h = true) : signL s[k] = true := by
  unfold refAt lowOf at e
  unfold signL signOf
  simp at e ⊢
  omega

theorem refName_yes {s : ByteArray} (h : ∀ k, (hk : k < s.size) → refAt s k hk = true) : nameOf s.data.toList = (decide (1 ≤ (s.size : Int)) && decide ((s.size : Int) ≤ 32)) := by
  by_cases h0 : s.size = 0
  · rw [h0]
    have e : s.toList = [] := by
      rw [Lib.toList_data]
      exact List.eq_nil_of_length_eq_zero (by rw [← size_data]; exact h0)
    rw [name_empty e]
    rfl
  · by_cases h1 : 32 < (s.size : Int)
    · rw [name_long h1]
      simp; omega
    · rw [name_yes (by omega) (by omega) ?_ ?_ (fun k hk => refAt_sign (h k hk))]
      · simp; omega
      · intro e
        have := h 0 (by omega)
        unfold refAt lowOf at this
        simp at this
        omega
      · intro e
        have := h (s.size - 1) (by omega)
        unfold refAt lowOf at this
        simp at this
        omega

theorem refName_no {s : ByteArray} {k : Nat} (hk : k < s.size) (h : refAt s k hk = false) : nameOf s.data.toList = false := by
  cases hs : signL s[k]
  · exact name_sign hk hs
  · have e : (s[k].toNat : Int) = 45 ∧ (k = 0 ∨ k = s.size - 1) := by
      unfold refAt lowOf at h
      unfold signL signOf at hs
      simp at h hs
      omega
    rcases e with ⟨e, rfl | rfl⟩
    · exact name_head hk e
    · exact name_last (by omega) e
end Go.Proofs.Ytpbppgfogepjeaa
namespace Go.Proofs.Ytpbppgfogepjeaa
open Go.ChangeShapes Go.WideShapes Go.ChangeAt Go.RowKit Go.Deep

theorem below_dr {B : Nat} {w0 w : World} (h : Below B w0 w) (n : Nat) : Below B w0 (w.drewN n) := ⟨h.os, h.tape, h.output, h.size, h.block⟩

end Go.Proofs.Ytpbppgfogepjeaa
namespace Go.Proofs.Ytpbppgfogepjeaa
open Go.ChangeShapes Go.WideShapes Go.ChangeAt Go.RowKit Go.Deep

end Go.Proofs.Ytpbppgfogepjeaa
namespace Go.Proofs.Ytpbppgfogepjeaa
open Go.ChangeShapes Go.WideShapes Go.ChangeAt Go.RowKit Go.Deep

set_option maxHeartbeats 3200000 in
theorem refName_any (s : ByteArray) (hn : s.size ≤ maxLen) (w : World) : Calls Try.prog 78 #[.string s] w fun e w' => e = .returned (.bool (nameOf s.data.toList)) ∧ w' = w := by
  unfold maxLen at hn
  go_enter Try.func78, Try.ntmps78
  go_wp2_with fail
  go_loop [3] (fun i => ∃ k : Nat, k ≤ s.size ∧ i = .int .i64 k ∧ Hid (∀ j, (h : j < s.size) → j < k → refAt s j h = true)) (fun i => s.size - (intOf i).toNat)
  case atStart => exact ⟨0, Nat.zero_le _, rfl, fun j _ h => by omega⟩
  case round =>
    obtain ⟨k, hk, rfl, hall⟩ := hrel
    by_cases hlt : k < s.size
    · have hno : Hid (refAt s k hlt = false → nameOf s.data.toList = false) := fun h => refName_no hlt h
      have hyes : Hid (refAt s k hlt = true → ∀ j, (h : j < s.size) → j < k + 1 → refAt s j h = true) := fun h1 j h hj => if e : j = k then by subst e; exact h1 else hall.out j h (by omega)
      have hw : IntKind.i64.wrap ((s.size : Int) - 1) = (s.size : Int) - 1 := IntWalk.i64_in _ (by omega)
      clear hall
      by_cases g : lowOf (s[k].toNat : Int) = true
      · have hy := Lib.hid (hyes.out (by unfold refAt; rw [g]; rfl))
        clear hno hyes
        unfold lowOf at g
        rcases (show (48 ≤ (s[k].toNat : Int) ∧ (s[k].toNat : Int) ≤ 57) ∨ (97 ≤ (s[k].toNat : Int) ∧ (s[k].toNat : Int) ≤ 122) by simp at g; omega) with ⟨g1, g2⟩ | ⟨g1, g2⟩
        · have d1 : decide (97 ≤ (s[k].toNat : Int)) = false := decide_eq_false (by omega)
          have d3 : decide (48 ≤ (s[k].toNat : Int)) = true := decide_eq_true (by omega)
          have d4 : decide ((s[k].toNat : Int) ≤ 57) = true := decide_eq_true (by omega)
          clear g g1 g2
          go_wp2_with fail
          go_round
          case rel => exact ⟨k + 1, by omega, by go_num, hy.out⟩
          case measure => simp [intOf]; omega
        · have d1 : decide (97 ≤ (s[k].toNat : Int)) = true := decide_eq_true (by omega)
          have d2 : decide ((s[k].toNat : Int) ≤ 122) = true := decide_eq_true (by omega)
          clear g g1 g2
          go_wp2_with fail
          go_round
          case rel => exact ⟨k + 1, by omega, by go_num, hy.out⟩
          case measure => simp [intOf]; omega
      · have gf : lowOf (s[k].toNat : Int) = false := by simpa using g
        have HA : Hid (refAt s k hlt = (!((s[k].toNat : Int) != 45) && (!((k : Int) == 0) && !((k : Int) == (s.size : Int) - 1)))) := by
          show _ = _
          unfold refAt
          rw [gf, Bool.false_or, Bool.eq_iff_iff]
          simp
          omega
        have hc : (s[k].toNat : Int) < 48 ∨ (57 < (s[k].toNat : Int) ∧ (s[k].toNat : Int) < 97) ∨ 122 < (s[k].toNat : Int) := by unfold lowOf at g; simp at g; omega
        clear g gf
        obtain ⟨b1, h1⟩ : ∃ b, ((s[k].toNat : Int) != 45) = b := ⟨_, rfl⟩
        obtain ⟨b2, h2⟩ : ∃ b, ((k : Int) == 0) = b := ⟨_, rfl⟩
        obtain ⟨b3, h3⟩ : ∃ b, ((k : Int) == (s.size : Int) - 1) = b := ⟨_, rfl⟩
        rw [h1, h2, h3] at HA
        rcases hc with g | ⟨g1, g2⟩ | g
        rotate_left
        · have d1 : decide (97 ≤ (s[k].toNat : Int)) = false := decide_eq_false (by omega)
          have d3 : decide (48 ≤ (s[k].toNat : Int)) = true := decide_eq_true (by omega)
          have d4 : decide ((s[k].toNat : Int) ≤ 57) = false := decide_eq_false (by omega)
          obtain rfl : b1 = true := by rw [← h1]; exact bne_iff_ne.2 (by omega)
          have hbad := Lib.hid (hno.out HA.out)
          clear g1 g2 hyes hno
          go_wp2_with fail
          go_ret
          exact ⟨ret_bool hbad.out.symm, rfl⟩
        · have d1 : decide (97 ≤ (s[k].toNat : Int)) = true := decide_eq_true (by omega)
          have d2 : decide ((s[k].toNat : Int) ≤ 122) = false := decide_eq_false (by omega)
          have d3 : decide (48 ≤ (s[k].toNat : Int)) = true := decide_eq_true (by omega)
          have d4 : decide ((s[k].toNat : Int) ≤ 57) = false := decide_eq_false (by omega)
          obtain rfl : b1 = true := by rw [← h1]; exact bne_iff_ne.2 (by omega)
          have hbad := Lib.hid (hno.out HA.out)
          clear g hyes hno
          go_wp2_with fail
          go_ret
          exact ⟨ret_bool hbad.out.symm, rfl⟩
        · have d1 : decide (97 ≤ (s[k].toNat : Int)) = false := decide_eq_false (by omega)
          have d3 : decide (48 ≤ (s[k].toNat : Int)) = false := decide_eq_false (by omega)
          clear g
          rcases b1 with _ | _
          rotate_left
          · have hend : Hid ((nameOf s.data.toList = false) ∨ (refAt s k hlt = true)) := by first | exact .inl (hno.out HA.out) | exact .inr HA.out
            clear hno
            go_wp2_with fail
            first
              | (go_ret; exact ⟨ret_bool (hend.out.resolve_right (by rw [HA.out]; exact Bool.false_ne_true)).symm, rfl⟩)
              | (go_round; (case rel => exact ⟨k + 1, by omega, by go_num, hyes.out HA.out⟩); (case measure => simp [intOf]; omega))
          · skip
            rcases b2 with _ | _
            rotate_left
            · have hend : Hid ((nameOf s.data.toList = false) ∨ (refAt s k hlt = true)) := by first | exact .inl (hno.out HA.out) | exact .inr HA.out
              clear hno
              go_wp2_with fail
              first
                | (go_ret; exact ⟨ret_bool (hend.out.resolve_right (by rw [HA.out]; exact Bool.false_ne_true)).symm, rfl⟩)
                | (go_round; (case rel => exact ⟨k + 1, by omega, by go_num, hyes.out HA.out⟩); (case measure => simp [intOf]; omega))
            · skip
              rcases b3 with _ | _
              rotate_left
              · have hend : Hid ((nameOf s.data.toList = false) ∨ (refAt s k hlt = true)) := by first | exact .inl (hno.out HA.out) | exact .inr HA.out
                clear hno
                go_wp2_with fail
                first
                  | (go_ret; exact ⟨ret_bool (hend.out.resolve_right (by rw [HA.out]; exact Bool.false_ne_true)).symm, rfl⟩)
                  | (go_round; (case rel => exact ⟨k + 1, by omega, by go_num, hyes.out HA.out⟩); (case measure => simp [intOf]; omega))
              · skip
                have hend : Hid ((nameOf s.data.toList = false) ∨ (refAt s k hlt = true)) := by first | exact .inl (hno.out HA.out) | exact .inr HA.out
                clear hno
                go_wp2_with fail
                first
                  | (go_ret; exact ⟨ret_bool (hend.out.resolve_right (by rw [HA.out]; exact Bool.false_ne_true)).symm, rfl⟩)
                  | (go_round; (case rel => exact ⟨k + 1, by omega, by go_num, hyes.out HA.out⟩); (case measure => simp [intOf]; omega))
    · have He := Lib.hid (refName_yes (fun j h => hall.out j h (by omega)))
      clear hall
      by_cases h1 : 1 ≤ (s.size : Int)
      · have hd : decide (1 ≤ (s.size : Int)) = true := decide_eq_true h1
        go_wp2_with fail
        go_ret
        exact ⟨ret_bool (by rw [He.out, hd, Bool.true_and]), rfl⟩
      · have hd : decide (1 ≤ (s.size : Int)) = false := decide_eq_false h1
        go_wp2_with fail
        go_ret
        exact ⟨ret_bool (by rw [He.out, hd, Bool.false_and]), rfl⟩

def SmallL (xs : List Label) : Prop := ∀ k, (h : k < xs.length) → xs[k].key.size ≤ maxLen ∧ xs[k].val.size ≤ maxLen
def SmallS (xs : List Require) : Prop := ∀ k, (h : k < xs.length) → xs[k].key.size ≤ maxLen ∧ xs[k].val.size ≤ maxLen
end Go.Proofs.Ytpbppgfogepjeaa
