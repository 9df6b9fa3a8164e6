/- maps.DeleteFunc at a map of series, by the closure of Forget. Condition: the map lies in a block of the call's own. -/
import Derived.Test.YtolgkehlnhkgiaaForgetPlain
import Derived.Maps.Ext
import Derived.Maps.RangeWalk
import Derived.Laws.IdiomRangeMap
import Derived.Deep.LoopGhost
import Derived.WalkKit
namespace Go.Proofs.Ytolgkehlnhkgiaa
open Go.ChangeShapes Go.WideShapes Go.ChangeAt Go.RowKit Go.Deep Go.Maps

theorem forget1_any (sub a b : ByteArray) (rv : Value) (fb : Nat) (w : World) (h : w.cell? ⟨fb, 0, none⟩ = some (.string sub)) :
    Calls Try.prog 23 #[.agg #[.string a, .string b], rv, .pointer (some ⟨fb, 0, none⟩)] w fun e w' => e = .returned (.bool (a.toList == sub.toList)) ∧ w.grownBy w' none := by
  have k0 : (w.alloc (.cells #[.string a, .string b] 36)).cell? ⟨w.heap.size, 0, none⟩ = some (.string a) := cell_new w _ _ 0
  have hlt := World.block_lt_of_cell? _ _ h
  go_enter Try.func23, Try.ntmps23
  go_wp2
  go_ret
  exact ⟨rfl, World.grownBy_alloc _ _ _⟩

/-- Whether a key is a series of this subject. -/
noncomputable def ofSub (s : ByteArray) (kl : Lit) : Bool := open Classical in decide (∃ b : ByteArray, kl = .string (serBytes s.data.toList b.data.toList) ∧ b.size ≤ maxLen)
theorem ofSub_key {s a b : ByteArray} (hs : s.size ≤ maxLen) (ha : a.size ≤ maxLen) (hb : b.size ≤ maxLen) : ofSub s (.string (serBytes a.data.toList b.data.toList)) = decide (a = s) := by
  unfold ofSub
  refine decide_eq_decide.2 ⟨?_, ?_⟩
  · rintro ⟨b', he, hb'⟩
    injection he with he
    exact (serBytes_inj ha hb hs hb' he).1
  · rintro rfl
    exact ⟨b, rfl, hb⟩

theorem str_eq (a b : ByteArray) : (a.toList == b.toList) = decide (a = b) := by
  rw [Lib.toList_data, Lib.toList_data]
  by_cases h : a = b
  · rw [decide_eq_true h, h]; exact beq_self_eq_true _
  · rw [decide_eq_false h]
    refine beq_eq_false_iff_ne.2 (fun hh => h ?_)
    cases a; cases b
    simp at hh
    rw [hh]

set_option maxHeartbeats 4000000 in
set_option maxRecDepth 100000 in
theorem delSeries (sub : ByteArray) (fb b n : Nat) (D : DataW Value) (w : World) (hsub : sub.size ≤ maxLen) (hc : w.cell? ⟨fb, 0, none⟩ = some (.string sub)) (hne : fb ≠ b) (hown : w.ownsMap Try.prog 36 heldElem b n D) :
    Calls Try.prog 22 #[.map (some b), .func (.func 23) #[] #[.pointer (some ⟨fb, 0, none⟩)]] w fun e w' => e = .returned (.tuple #[]) ∧ w'.ownsMap Try.prog 36 heldElem b n (Lib.deleteFuncD (fun kl _ => ofSub sub kl) D) ∧ w.grownBy w' (some b) := by
  obtain ⟨es0, rfl, hap, hkeys⟩ := hown.entries serKeyed
  have K := serKeyed
  have HC := Lib.hid hc
  have hfl := World.block_lt_of_cell? _ _ hc
  have hbl0 := hown.lt
  clear hc
  go_enter Try.func22, Try.ntmps22
  go_wp2_with (first
    | (at_range; refine wpList_range_own _ rfl _ 59 rfl 36 64 K Try.underlying59 heldElem b n _ rfl hown ?_; intro w0 hrg0 hg0 hs0)
    | go_in)
  go_loopw [4,5,8] (fun _ _ _ wr => ∃ (left : Lit → Bool) (cnt : Nat), wr.ranges Try.prog 36 heldElem b w.heap.size n (Fk (fun kl _ => ofSub sub kl) es0 left) left cnt ∧ w.grownBy wr (some b))
    (fun _ _ _ wr => wr.rangeLeft b w.heap.size)
  case atStart => exact ⟨_, _, by rw [Fk_start hkeys]; exact hrg0, hg0.but _⟩
  case round =>
    obtain ⟨left, cnt, hrg, hgw⟩ := hrel
    go_wp2_with (first
      | (at_next; refine wpList_next_ranges (α := ByteArray × ByteArray) (β := Value) _ rfl _ rfl 36 K heldElem (fun x => .agg #[.string x.1, .string x.2]) id (fun key kl hk => by obtain ⟨x, y, h, _⟩ := serKey_inv hk; exact ⟨(x, y), h⟩) (fun v _ _ => ⟨v, rfl⟩) b w.heap.size n _ _ _ rfl hrg ?_ ?_)
      | go_in)
    · intro _ hl0
      go_wp2
      go_end0
      exact ⟨rfl, by rw [← Fk_end hl0]; exact hrg.owns, hgw⟩
    · intro x1 x2 c kl yd yp w1 cnt1 hkey hlx hv hat hrg1 hlt hg1 hs1 hen
      have hgw1 := hgw.andThen hg1 (fun j hj => by cases hj; exact Or.inl (Nat.le_refl _))
      have hbl := hrg1.owns.lt
      have hrl := hrg1.lt
      have hws : w.heap.size < w1.heap.size + 1 := by have := hgw1.size; omega
      have hc1 : w1.cell? ⟨fb, 0, none⟩ = some (.string sub) := (hgw1.cell HC.out (by simpa using hne))
      have HC1 := Lib.hid hc1
      clear hc1
      obtain ⟨y1, y2, hy, rfl, hy1, hy2⟩ := serKey_inv hkey
      injection hy with hy
      injection hy with hy
      injection hy with e1 hy
      injection hy with e2 hy
      injection e1 with e1
      injection e2 with e2
      subst e1 e2
      have hkl : ofSub sub (.string (serBytes x1.data.toList x2.data.toList)) = (x1.toList == sub.toList) := by
        rw [ofSub_key hsub hy1 hy2, str_eq]
      have hga : w1.grownBy (w1.alloc (.cells #[.string x1, .string x2] 36)) none := World.grownBy_alloc _ _ _
      have hrgA := hrg1.alloc (.cells #[.string x1, .string x2] 36)
      have hcA := hga.cell HC1.out (by simp)
      have hgwA := hgw1.andThen hga (fun j hj => by cases hj)
      have k0 : (w1.alloc (.cells #[.string x1, .string x2] 36)).cell? ⟨w1.heap.size, 0, none⟩ = some (.string x1) := cell_new w1 _ _ 0
      have k1 : (w1.alloc (.cells #[.string x1, .string x2] 36)).cell? ⟨w1.heap.size, 1, none⟩ = some (.string x2) := cell_new w1 _ _ 1
      rw [hs1] at k0 k1
      have HL := Lib.hid hkl
      have Hlt := Lib.hid hlt
      have Hlf := Lib.hid hrg.left_eq
      have Hat := Lib.hid hat
      have Hlx := Lib.hid hlx
      have HrgA := Lib.hid hrgA
      have HgwA := Lib.hid hgwA
      clear hkl hlt hat hlx hrg hrgA hgwA hgw hgw1
      go_wp2_with fail
      refine (forget1_any sub x1 x2 c fb _ hcA).mono ?_
      rintro e w2 ⟨rfl, hg2⟩
      have k0 := hg2.cell k0 (by simp)
      have k1 := hg2.cell k1 (by simp)
      have hrg2 := HrgA.out.kept hg2 (by simp) (by simp)
      cases hp : (x1.toList == sub.toList)
      · have HP := Lib.hid hp
        clear hp
        go_wp2_with fail
        go_roundw
        case rel => exact ⟨_, cnt1, by rw [← Fk_stays hap (K.key hkey) Hlx.out (HL.out.trans HP.out) Hat.out]; exact hrg2, HgwA.out.andThen hg2 (fun j hj => by cases hj)⟩
        case measure => rw [hrg2.left_eq, Hlf.out]; exact Hlt.out
      · have HP := Lib.hid hp
        clear hp
        go_wp2_with (first
          | (at_delete; refine wpList_delete_ranges _ rfl _ _ 59 36 rfl 64 K Try.underlying59 heldElem b w.heap.size n _ _ _ rfl hrg2 _ _ rfl hkey ?_; intro w3 cnt3 hrg3 hle hturn; go_frame)
          | go_in)
        rw [strike_twice] at hrg3
        go_roundw
        case rel => exact ⟨_, cnt3, by rw [← Fk_struck hap (K.key hkey) Hlx.out (HL.out.trans HP.out) Hat.out]; exact hrg3, (HgwA.out.andThen hg2 (fun j hj => by cases hj)).andThen hturn.grown (fun j hj => by cases hj; exact Or.inr rfl)⟩
        case measure => rw [hrg3.left_eq, Hlf.out]; have := Hlt.out; omega
end Go.Proofs.Ytolgkehlnhkgiaa
