/- Contracts of package label's readers (XLabel without the reference's). Condition: the slices read. -/
import Derived.Test.YtdgjghflaaaflaaRows
import Derived.Test.YtdgjghflaaaflaaBase
import Derived.Test.YtdgjghflaaaflaaList
namespace Go.Proofs.Ytdgjghflaaaflaa
open Go.ChangeShapes Go.WideShapes Go.ChangeAt Go.RowKit Go.Deep

structure Label where
  key : ByteArray
  val : ByteArray
deriving Inhabited

structure Require where
  key : ByteArray
  val : ByteArray
  op : Int
deriving Inhabited

def Label.cells (l : Label) : List Value := [.string l.key, .string l.val]
def Require.cells (r : Require) : List Value := [.string r.key, .string r.val, .int .i64 r.op]

theorem aggLabel : AggOK Try.prog 54 2 := .mk' (by kernel_rfl) (by kernel_rfl)
theorem aggRequire : AggOK Try.prog 57 3 := .mk' (by kernel_rfl) (by kernel_rfl)

theorem get1_any (x : Label) (kb : Nat) (key : ByteArray) (w : World) (hk : w.cell? ⟨kb, 0, none⟩ = some (.string key)) :
    Calls Try.prog 108 #[.agg x.cells.toArray, .pointer (some ⟨kb, 0, none⟩)] w fun e w' => e = .returned (.bool (x.key.toList == key.toList)) ∧ Below w.heap.size w w' := by
  show Calls Try.prog 108 #[.agg #[.string x.key, .string x.val], .pointer (some ⟨kb, 0, none⟩)] w _
  have hne := blk hk
  go_enter Try.func108, Try.ntmps108
  go_wp2
  go_ret
  exact ⟨rfl, (Below.refl _ _).alloc (Nat.le_refl _) _⟩


set_option maxHeartbeats 1000000 in
theorem indexFunc_Label (p : Label → Bool) (g : FuncId) (hE : Enters Try.prog g) (caps : Array Value) (xs : List Label) (ao : Option Addr) (la ca : Nat) (w : World) (hS : SlR (Flat Label.cells) 2 w ao la ca xs)
    (hp : ∀ (x : Label) (w1 : World), Below w.heap.size w w1 → Calls Try.prog g (#[.agg x.cells.toArray] ++ caps) w1 fun e w2 => e = .returned (.bool (p x)) ∧ Below w1.heap.size w1 w2) :
    Calls Try.prog 107 #[.slice ao la ca, .func (.func g) #[] caps] w fun e w' => e = .returned (.int .i64 (idxOf p xs 0)) ∧ Below w.heap.size w w' := by
  have ha := hS.hmax; have hac := hS.hcap
  unfold maxLen at ha
  have Hp := Lib.hid hp
  clear hp
  go_enter Try.func107, Try.ntmps107
  go_wp2_with fail
  go_loopw [8] (fun i wr => ∃ k : Nat, k ≤ la ∧ i = .int .i64 k ∧ Hid (idxOf p xs 0 = idxOf p (xs.drop k) k) ∧ Below w.heap.size w wr) (fun i _ => la - (intOf i).toNat)
  case atStart => exact ⟨0, Nat.zero_le _, rfl, rfl, Below.refl _ _⟩
  case round =>
    obtain ⟨k, hk, rfl, hf, hb⟩ := hrel
    by_cases hlt : k < la
    · obtain ⟨b, off, rfl⟩ := hS.ptr (by decide) (by omega)
      have kx : k < xs.length := by have := hS.hlen; omega
      have hc := (hS.flatKeeps (Keeps.below hb)).flat kx
      have Hc := Lib.hid hc
      have Hb := Lib.hid hb
      have Hd := Lib.hid (idxOf_drop p kx)
      clear hc hb
      have hB := Hb.out.size
      go_wp2_with ((with_reducible refine at_slot 15 ?_); go_must (refine wpList_load_at aggLabel rfl _ rfl ⟨b, off + k * 2, none⟩ rfl xs[k].cells rfl (fun j u hu => by rw [Addr.add_lit]; exact Hc.out j u hu) ?_; refine wpList_callv rfl _ _ _ rfl g caps rfl hE [.agg xs[k].cells.toArray] rfl (fun v w2 => v = .bool (p xs[k]) ∧ Below wr.heap.size wr w2) ((Hp.out xs[k] wr Hb.out).mono fun e w2 ⟨h1, h2⟩ => ⟨_, h1, rfl, h2⟩) ?_; intro v w2; rintro ⟨rfl, hb2⟩))
      all_goals have Hb2 := Lib.hid (Hb.out.trans (hb2.mono hB))
      all_goals clear hb2
      · have hp1 : p xs[k] = true := by assumption
        go_ret
        exact ⟨ret_int (by rw [hf.out, Hd.out, if_pos hp1]), Hb2.out⟩
      · have hp1 : p xs[k] = false := by assumption
        go_roundw
        case rel => exact ⟨k + 1, by omega, by go_num, hf.out.trans (by rw [Hd.out, if_neg (by rw [hp1]; decide)]), Hb2.out⟩
        case measure => simp [intOf]; omega
    · have He := Lib.hid (idxOf_end p (xs := xs) (k := k) (by rw [hS.hlen]; omega))
      have Hb := Lib.hid hb
      clear hb
      go_wp2
      go_ret
      exact ⟨ret_int (by rw [hf.out, He.out]), Hb.out⟩
theorem enters55 : Enters Try.prog 108 := fun args w => by kernel_rfl

/-- A key's value, and whether it is there. -/
def getL (key : ByteArray) : List Label → ByteArray × Bool
  | [] => (⟨#[]⟩, false)
  | x :: xs => if x.key.toList == key.toList then (x.val, true) else getL key xs

theorem getL_idx (key : ByteArray) : ∀ (xs : List Label) (k : Nat),
    (idxOf (fun x => x.key.toList == key.toList) xs k = -1 ∧ getL key xs = (⟨#[]⟩, false)) ∨
    ∃ j, ∃ h : j < xs.length, idxOf (fun x => x.key.toList == key.toList) xs k = ((k + j : Nat) : Int) ∧ getL key xs = (xs[j].val, true)
  | [], _ => .inl ⟨rfl, rfl⟩
  | x :: xs, k => by
    by_cases h : (x.key.toList == key.toList) = true
    · exact .inr ⟨0, by simp, by simp only [idxOf, if_pos h]; rfl, by simp only [getL, if_pos h]; rfl⟩
    · simp only [idxOf, getL, if_neg h]
      rcases getL_idx key xs (k + 1) with ⟨h1, h2⟩ | ⟨j, hj, h1, h2⟩
      · exact .inl ⟨h1, h2⟩
      · exact .inr ⟨j + 1, by simp; omega, by rw [h1]; congr 1; omega, by rw [h2]; rfl⟩

theorem getL_drop (key : ByteArray) {xs : List Label} {k : Nat} (h : k < xs.length) : getL key (xs.drop k) = if xs[k].key.toList == key.toList then (xs[k].val, true) else getL key (xs.drop (k + 1)) := by
  rw [List.drop_eq_getElem_cons h, getL]

set_option maxHeartbeats 1000000 in
theorem get_any (xs : List Label) (key : ByteArray) (ao : Option Addr) (la ca : Nat) (w : World) (hS : SlR (Flat Label.cells) 2 w ao la ca xs) :
    Calls Try.prog 37 #[.slice ao la ca, .string key] w fun e w' => e = .returned (.tuple #[.string (getL key xs).1, .bool (getL key xs).2]) ∧ Below w.heap.size w w' := by
  have ha := hS.hmax; have hac := hS.hcap
  unfold maxLen at ha
  have hbA := (Below.refl w.heap.size w).alloc (Nat.le_refl _) (.cells #[.string key] 9)
  have hS1 := hS.flatKeeps (Keeps.below hbA)
  have HbA := Lib.hid hbA
  clear hbA
  have hk : (w.alloc (.cells #[.string key] 9)).cell? ⟨w.heap.size, 0, none⟩ = some (.string key) := cell_new w _ _ 0
  rcases getL_idx key xs 0 with ⟨h1, h2⟩ | ⟨j, hj, h1, h2⟩
  · have H1 := Lib.hid h1
    have H2 := Lib.hid h2
    clear h1 h2
    go_enter Try.func37, Try.ntmps37
    go_wp2_with fail
    refine (indexFunc_Label (fun x => x.key.toList == key.toList) 108 enters55 #[.pointer (some ⟨w.heap.size, 0, none⟩)] xs ao la ca _ hS1 (fun x w1 hb => get1_any x _ key w1 (Below.cell_some hb hk))).mono ?_
    rintro e w2 ⟨he, hb⟩
    rw [H1.out] at he
    subst he
    have Hb := Lib.hid hb
    clear hb hk
    go_wp2
    go_ret2
    exact ⟨by rw [H2.out]; rfl, HbA.out.trans (Hb.out.mono (by simp))⟩
  · have H1 := Lib.hid h1
    have H2 := Lib.hid h2
    clear h1 h2
    rw [Nat.zero_add] at H1
    obtain ⟨b, off, rfl⟩ := hS.ptr (by decide) (by have := hS.hlen; omega)
    go_enter Try.func37, Try.ntmps37
    go_wp2_with fail
    refine (indexFunc_Label (fun x => x.key.toList == key.toList) 108 enters55 #[.pointer (some ⟨w.heap.size, 0, none⟩)] xs _ la ca _ hS1 (fun x w1 hb => get1_any x _ key w1 (Below.cell_some hb hk))).mono ?_
    rintro e w2 ⟨he, hb⟩
    rw [H1.out] at he
    subst he
    have hc := (hS1.flatKeeps (Keeps.below hb)).flat hj 1 _ rfl
    have hjl : j < la := by have := hS.hlen; omega
    have Hb := Lib.hid hb
    clear hb hk
    go_wp2
    go_ret2
    exact ⟨by rw [H2.out]; rfl, HbA.out.trans (Hb.out.mono (by simp))⟩

def holdsV (op : Int) (v : ByteArray) (b : Bool) (val : ByteArray) : Bool :=
  if op = 0 then b && (v.toList == val.toList)
  else if op = 1 then !b || !(v.toList == val.toList)
  else if op = 2 then b
  else if op = 3 then !b
  else false
def holdsL (l : List Label) (r : Require) : Bool := holdsV r.op (getL r.key l).1 (getL r.key l).2 r.val

set_option maxHeartbeats 1600000 in
theorem holds_any (l : List Label) (r : Require) (ao : Option Addr) (la ca : Nat) (w : World) (hS : SlR (Flat Label.cells) 2 w ao la ca l) :
    Calls Try.prog 172 #[.slice ao la ca, .agg r.cells.toArray] w fun e w' => e = .returned (.bool (holdsL l r)) ∧ Below w.heap.size w w' := by
  show Calls Try.prog 172 #[.slice ao la ca, .agg #[.string r.key, .string r.val, .int .i64 r.op]] w _
  obtain ⟨key, val, op⟩ := r
  have hbA := (Below.refl w.heap.size w).alloc (Nat.le_refl _) (.cells #[.string key, .string val, .int .i64 op] 57)
  have hS1 := hS.flatKeeps (Keeps.below hbA)
  have HbA := Lib.hid hbA
  have k0 : (w.alloc (.cells #[.string key, .string val, .int .i64 op] 57)).cell? ⟨w.heap.size, 0, none⟩ = some (.string key) := cell_new w _ _ 0
  have k1 : (w.alloc (.cells #[.string key, .string val, .int .i64 op] 57)).cell? ⟨w.heap.size, 1, none⟩ = some (.string val) := cell_new w _ _ 1
  have k2 : (w.alloc (.cells #[.string key, .string val, .int .i64 op] 57)).cell? ⟨w.heap.size, 2, none⟩ = some (.int .i64 op) := cell_new w _ _ 2
  unfold holdsL holdsV
  rcases hg : getL key l with ⟨v, b⟩
  have Hg := Lib.hid hg
  clear hg hbA
  rcases (show op = 0 ∨ op = 1 ∨ op = 2 ∨ op = 3 ∨ (op ≠ 0 ∧ op ≠ 1 ∧ op ≠ 2 ∧ op ≠ 3) by omega) with rfl | rfl | rfl | rfl | ⟨n0, n1, n2, n3⟩
  all_goals
    cases b
    all_goals
      go_enter Try.func172, Try.ntmps172
      go_wp2_with fail
      refine (get_any l key ao la ca _ hS1).mono ?_
      rintro e w2 ⟨he, hb⟩
      rw [Hg.out] at he
      subst he
      have j0 := Below.cell_some hb k0
      have j1 := Below.cell_some hb k1
      have j2 := Below.cell_some hb k2
      have Hb := Lib.hid hb
      clear hb k0 k1 k2
      go_wp2
      go_ret
      exact ⟨by simp [*], HbA.out.trans (Hb.out.mono (by simp))⟩
end Go.Proofs.Ytdgjghflaaaflaa
