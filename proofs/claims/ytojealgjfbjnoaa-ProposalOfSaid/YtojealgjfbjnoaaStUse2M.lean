/- Contracts of package proposal: right, goal, the uses, add. Condition: the quantities are right. || Classes of worlds: what was there stays, no draw is undone. No condition. || cmp.Compare of strings. No condition. || The contracts of cmp.Compare at strings and of query.Row's comparison; uses as elements of a row. No condition. -/
import Derived.Test.YtojealgjfbjnoaaRatio
import Derived.Test.YtojealgjfbjnoaaFrame
import Derived.Test.YtojealgjfbjnoaaHeadLitM
import Derived.Deep.QuietTactic
import Derived.Sort.Walk0
import Derived.Sort.Grow
import Derived.Test.YtojealgjfbjnoaaChecked
import Derived.Test.YtojealgjfbjnoaaVal
import Derived.Test.YtojealgjfbjnoaaSortPlain
import Derived.Test.YtojealgjfbjnoaaBase
import Derived.BigRegion
namespace Go.Proofs.Ytojealgjfbjnoaa
open Go.ChangeShapes Go.WideShapes Go.ChangeAt Go.RowKit Go.Deep

def UseI.cells (x : UseI) : List Value := [.string x.pod, .bool x.ready, .bool x.has, .int .i64 x.ask, .int .i64 x.use]
theorem aggUse : AggOK Try.prog 51 5 := .mk' (by kernel_rfl) (by kernel_rfl)
theorem elemUse : ElemOK Try.prog 36 51 5 40 := .mk' (by kernel_rfl) (by kernel_rfl) (by decide)

theorem add_block (a : Addr) (n : Nat) : (a.add n).block = a.block := by
  unfold Addr.add
  first | rfl | (split <;> rfl)

theorem SlR.fr {α : Type} {f : α → List Value} {sz : Nat} {S : Nat → Prop} {w w' : World} {ao : Option Addr} {n cap : Nat} {xs : List α} (h : SlR (Flat f) sz w ao n cap xs) (hf : Fr S w w') (hk : ∀ a, ao = some a → ¬ S a.block) : SlR (Flat f) sz w' ao n cap xs :=
  ⟨h.hlen, h.hcap, h.hmax, h.hnil, fun a ha i hi => let ⟨c, h1, h2, h3⟩ := h.hat a ha i hi; ⟨c, h1, fun j u hu => hf.cell (h2 j u hu) (by rw [add_block]; exact hk a ha), h3⟩⟩

set_option maxRecDepth 100000 in
theorem own_any (x : UseI) (q : Int) (w : World) : Calls Try.prog 21 #[.agg #[.string x.pod, .bool x.ready, .bool x.has, .int .i64 x.ask, .int .i64 x.use], .int .i64 q] w fun e w' => e = .returned (.int .i64 x.use) ∧ Below w.heap.size w w' := by
  go_enter Try.func21, Try.ntmps21
  go_wp2_with fail
  go_ret
  exact ⟨rfl, (Below.refl _ _).alloc (Nat.le_refl _) _⟩

theorem whole2_any (x : UseI) (q : Int) (w : World) : Calls Try.prog 23 #[.agg #[.string x.pod, .bool x.ready, .bool x.has, .int .i64 x.ask, .int .i64 x.use], .int .i64 q] w fun e w' => e = .returned (.int .i64 q) ∧ Below w.heap.size w w' := by
  go_enter Try.func23, Try.ntmps23
  go_wp2_with fail
  go_ret
  exact ⟨rfl, (Below.refl _ _).alloc (Nat.le_refl _) _⟩

theorem none_any (x : UseI) (q : Int) (w : World) : Calls Try.prog 22 #[.agg #[.string x.pod, .bool x.ready, .bool x.has, .int .i64 x.ask, .int .i64 x.use], .int .i64 q] w fun e w' => e = .returned (.int .i64 0) ∧ Below w.heap.size w w' := by
  go_enter Try.func22, Try.ntmps22
  go_wp2_with fail
  go_ret
  exact ⟨rfl, (Below.refl _ _).alloc (Nat.le_refl _) _⟩

def goalV (kind target ask : Int) : Int × Int := match goalI kind target ask with | some q => (q, 0) | none => (0, 3)

set_option maxRecDepth 100000 in
set_option maxHeartbeats 1000000 in
theorem goal_any (kind target : Int) (nm : ByteArray) (x : UseI) (w : World) (ht : okQ target = true) (ha : okQ x.ask = true) :
    Calls Try.prog 38 #[.agg #[.int .i64 kind, .string nm, .int .i64 target], .agg #[.string x.pod, .bool x.ready, .bool x.has, .int .i64 x.ask, .int .i64 x.use]] w fun e w' =>
      e = .returned (.tuple #[.int .i64 (goalV kind target x.ask).1, .int .i64 (goalV kind target x.ask).2]) ∧ Below w.heap.size w w' := by
  obtain ⟨pod, ready, has, ask, use⟩ := x
  dsimp only at ha ⊢
  have ht := of_decide_eq_true ht
  have ha := of_decide_eq_true ha
  obtain ⟨t, rfl⟩ := Int.eq_ofNat_of_zero_le ht.1
  obtain ⟨a, rfl⟩ := Int.eq_ofNat_of_zero_le ha.1
  by_cases hk : kind = 0
  · subst hk
    have HM := Lib.hid (fun w1 => muldiv_any a t 1000 false w1 (by omega) (by omega) (by omega) (by omega))
    have hq : mdOf (a * t) 1000 false = a * t / 1000 := rfl
    have hg : goalV 0 t a = if (9007199254740992 : Int) < (a : Int) * (t : Int) / 1000 then (0, 3) else ((a : Int) * (t : Int) / 1000, 0) := by
      unfold goalV goalI
      rw [if_neg (by simp)]
      split <;> rename_i h <;> split at h
      · cases h
      · rename_i h2
        rw [if_neg h2]
        simp only [Option.some.injEq] at h
        rw [h]
      · rename_i h2
        rw [if_pos h2]
      · cases h
    have hi : (a : Int) * (t : Int) / 1000 = ((a * t / 1000 : Nat) : Int) := by
      rw [← Int.natCast_mul]
      omega
    have w1 : IntKind.u64.wrap (a : Int) = (a : Int) := u64w _ (by omega)
    have w2 : IntKind.u64.wrap (t : Int) = (t : Int) := u64w _ (by omega)
    rw [hq] at HM
    rw [hi] at hg
    obtain ⟨q, hqe⟩ : ∃ q, a * t / 1000 = q := ⟨_, rfl⟩
    rw [hqe] at HM hg
    clear hq hi hqe ht ha
    by_cases hb : q < 18446744073709551616
    · rw [if_pos hb] at HM
      by_cases hc : 9007199254740992 < q
      · rw [if_pos (by omega)] at hg
        have hd : decide ((9007199254740992 : Int) < (q : Int)) = true := decide_eq_true (by omega)
        rw [hg]
        clear hb hg hc
        go_enter Try.func38, Try.ntmps38
        go_wp2_with (refine (HM.out _).mono ?_; rintro e w1 ⟨rfl, hb1⟩; have Hb1 := Lib.hid hb1; clear hb1)
        go_ret2
        exact ⟨rfl, ((((Below.refl _ _).alloc (Nat.le_refl _) _).alloc (by simp) _).trans (Hb1.out.mono (by simp; omega)))⟩
      · rw [if_neg (by omega)] at hg
        have hd : decide ((9007199254740992 : Int) < (q : Int)) = false := decide_eq_false (by omega)
        have w4 : wrap64 (q : Int) = (q : Int) := IntWalk.wrap64_in _ (by omega)
        have w5 : IntKind.i64.wrap (q : Int) = (q : Int) := IntWalk.i64_in _ (by omega)
        rw [hg]
        clear hb hg hc
        go_enter Try.func38, Try.ntmps38
        go_wp2_with (refine (HM.out _).mono ?_; rintro e w1 ⟨rfl, hb1⟩; have Hb1 := Lib.hid hb1; clear hb1)
        go_ret2
        exact ⟨rfl, ((((Below.refl _ _).alloc (Nat.le_refl _) _).alloc (by simp) _).trans (Hb1.out.mono (by simp; omega)))⟩
    · rw [if_neg hb] at HM
      rw [if_pos (by omega)] at hg
      rw [hg]
      clear hb hg
      go_enter Try.func38, Try.ntmps38
      go_wp2_with (refine (HM.out _).mono ?_; rintro e w1 ⟨rfl, hb1⟩; have Hb1 := Lib.hid hb1; clear hb1)
      go_ret2
      exact ⟨rfl, ((((Below.refl _ _).alloc (Nat.le_refl _) _).alloc (by simp) _).trans (Hb1.out.mono (by simp; omega)))⟩
  · have hg : goalV kind t a = ((t : Int), 0) := by
      unfold goalV goalI
      rw [if_pos hk]
    have hkb : (kind == 0) = false := by rw [beq_eq_false_iff_ne]; exact hk
    have hkb2 : (kind != 0) = true := by simp [bne, hkb]
    rw [hg]
    clear hg ht ha
    go_enter Try.func38, Try.ntmps38
    go_wp2_with fail
    go_ret2
    exact ⟨rfl, (((Below.refl _ _).alloc (Nat.le_refl _) _).alloc (by simp) _)⟩
end Go.Proofs.Ytojealgjfbjnoaa
namespace Go.Proofs.Ytojealgjfbjnoaa
open Go.ChangeShapes Go.WideShapes Go.ChangeAt Go.RowKit Go.Deep

/-- What was there stays, and no draw is undone. -/
def Dn (w w' : World) : Prop := Below w.heap.size w w' ∧ w.drawn ≤ w'.drawn
theorem Dn.refl (w : World) : Dn w w := ⟨Below.refl _ _, Nat.le_refl _⟩
theorem Dn.trans {a b c : World} (h : Dn a b) (k : Dn b c) : Dn a c := ⟨h.1.trans (k.1.mono h.1.size), Nat.le_trans h.2 k.2⟩
theorem Dn.alloc {a b : World} (h : Dn a b) (o : Obj) : Dn a (b.alloc o) := ⟨h.1.alloc h.1.size o, h.2⟩
theorem Dn.drew (w : World) : Dn w { w with drawn := w.drawn + 1 } := ⟨⟨rfl, rfl, rfl, Nat.le_refl _, fun _ _ => rfl⟩, Nat.le_succ _⟩

/-- The worlds behind w in which all that was there stays. -/
structure DW (w : World) where
  w' : World
  h : Dn w w'
theorem DW.cell {w : World} {p : Addr} {v : Value} (h : w.cell? p = some v) (b : DW w) : b.w'.cell? p = some v := Below.cell_some b.h.1 h
theorem DW.call {P : Program} {f : FuncId} {args : Array Value} {w : World} {v : Value} (b : DW w) (h : Calls P f args b.w' fun e w' => e = .returned v ∧ Dn b.w' w') : Calls P f args b.w' fun e w' => e = .returned v ∧ ∃ q : DW w, w' = q.w' :=
  h.mono fun _ w' ⟨he, hb⟩ => ⟨he, ⟨w', b.h.trans hb⟩, rfl⟩

theorem Dn.grow {w w' : World} (h : Dn w w') : ∃ q os, w' = Sort.grow (w.drewN q) os := by
  obtain ⟨⟨h1, h2, h3, h4, h5⟩, h6⟩ := h
  refine ⟨w'.drawn - w.drawn, w'.heap.extract w.heap.size w'.heap.size, ?_⟩
  have hh : w'.heap = w.heap ++ w'.heap.extract w.heap.size w'.heap.size := by
    apply Array.ext_getElem?
    intro i
    rw [Array.getElem?_append]
    split
    · rename_i hi; exact h5 i hi
    · rename_i hi
      rw [Array.getElem?_extract]
      by_cases hj : i < w'.heap.size
      · rw [if_pos (by omega)]; congr 1; omega
      · rw [if_neg (by omega)]; exact Array.getElem?_eq_none (by omega)
  unfold Sort.grow World.drewN
  cases w
  cases w'
  simp only [World.mk.injEq] at *
  subst h1 h2 h3
  exact ⟨hh, rfl, by omega, rfl, rfl⟩

end Go.Proofs.Ytojealgjfbjnoaa
namespace Go.Proofs.Ytojealgjfbjnoaa
open Go.ChangeShapes Go.WideShapes Go.ChangeAt Go.RowKit Go.Deep

def cfS (a b : ByteArray) : Int := if Op.bytesLess a.toList b.toList = true then -1 else if Op.bytesLess b.toList a.toList = true then 1 else 0

theorem less_asym {x y : List UInt8} (h : Op.bytesLess x y = true) : Op.bytesLess y x = false := by
  rw [bytesLess_eq, decide_eq_true_iff] at h
  rw [bytesLess_eq, decide_eq_false_iff_not]
  exact List.lt_asymm h

theorem less_irrefl (x : List UInt8) : Op.bytesLess x x = false := by
  rw [bytesLess_eq, decide_eq_false_iff_not]
  exact List.lt_irrefl x

theorem less_tri {x y : List UInt8} (h1 : Op.bytesLess x y = false) (h2 : Op.bytesLess y x = false) : x = y := by
  rw [bytesLess_eq, decide_eq_false_iff_not] at h1 h2
  exact List.le_antisymm (List.not_lt.1 h2) (List.not_lt.1 h1)

theorem isNaN_str (a : ByteArray) (w : World) :
    Calls Try.prog 44 #[.string a] w fun e w' => e = .returned (.bool false) ∧ w' = w := by
  go_enter Try.func44, Try.ntmps44
  go_wp2
  go_ret
  exact ⟨ret_bool (by simp), rfl⟩

theorem compare_str (a b : ByteArray) (w : World) :
    Calls Try.prog 29 #[.string a, .string b] w fun e w' => e = .returned (.int .i64 (cfS a b)) ∧ w' = w := by
  have hU : Hid (cfS a b = if Op.bytesLess a.toList b.toList = true then -1 else if Op.bytesLess b.toList a.toList = true then 1 else 0) := rfl
  have HN : Hid (∀ (x : ByteArray) (w1 : World), _) := fun x w1 => isNaN_str x w1
  cases h1 : Op.bytesLess a.toList b.toList
  · rw [h1] at hU
    cases h2 : Op.bytesLess b.toList a.toList
    · rw [h2] at hU
      have he := less_tri h1 h2
      have heb : (a.toList == b.toList) = true := by rw [beq_iff_eq]; exact he
      clear he
      go_enter Try.func29, Try.ntmps29
      go_wp2_with (go_at_call 44; refine (HN.out _ _).mono ?_; rintro e w' ⟨rfl, rfl⟩)
      go_ret
      exact ⟨by rw [hU.out] <;> rfl, rfl⟩
    · rw [h2] at hU
      have heb : (a.toList == b.toList) = false := by
        rw [beq_eq_false_iff_ne]
        intro he
        rw [he, less_irrefl] at h2
        cases h2
      go_enter Try.func29, Try.ntmps29
      go_wp2_with (go_at_call 44; refine (HN.out _ _).mono ?_; rintro e w' ⟨rfl, rfl⟩)
      go_ret
      exact ⟨by rw [hU.out] <;> rfl, rfl⟩
  · rw [h1] at hU
    go_enter Try.func29, Try.ntmps29
    go_wp2_with (go_at_call 44; refine (HN.out _ _).mono ?_; rintro e w' ⟨rfl, rfl⟩)
    go_ret
    exact ⟨by rw [hU.out] <;> rfl, rfl⟩

end Go.Proofs.Ytojealgjfbjnoaa
namespace Go.Proofs.Ytojealgjfbjnoaa
open Go.ChangeShapes Go.WideShapes Go.ChangeAt Go.RowKit Go.Deep

abbrev TUse := UseI × Nat
def tUse (x : TUse) : List Value := x.1.cells
theorem lenUse (x : TUse) : (tUse x).length = 5 := rfl
theorem oneUse (x : TUse) : ∀ v ∈ tUse x, v.oneCell' = true := by
  intro v hv
  simp only [tUse, UseI.cells, List.mem_cons, List.not_mem_nil, or_false] at hv
  rcases hv with rfl | rfl | rfl | rfl | rfl <;> rfl
def cfUse (x y : TUse) : Int := cfS x.1.pod y.1.pod

set_option maxRecDepth 100000 in
theorem cmpUse (x y : TUse) (w : World) :
    Calls Try.prog 28 #[.agg (tUse x).toArray, .agg (tUse y).toArray] w fun e w' => e = .returned (.int .i64 (cfUse x y)) ∧ Below w.heap.size w w' := by
  have HC : Hid (∀ w1 : World, Calls Try.prog 29 #[.string x.1.pod, .string y.1.pod] w1 fun e w' => e = .returned (.int .i64 (cfUse x y)) ∧ w' = w1) := fun w1 => compare_str x.1.pod y.1.pod w1
  unfold tUse UseI.cells
  go_enter Try.func28, Try.ntmps28
  go_wp2_with fail
  refine (HC.out _).mono ?_
  rintro e w1 ⟨rfl, rfl⟩
  go_wp2_with fail
  go_ret
  exact ⟨rfl, ((Below.refl _ _).alloc (Nat.le_refl _) _).alloc (by simp) _⟩
theorem less_trS {x y z : List UInt8} (h1 : Op.bytesLess x y = true) (h2 : Op.bytesLess y z = true) : Op.bytesLess x z = true := by
  rw [bytesLess_eq, decide_eq_true_iff] at h1 h2 ⊢
  exact List.lt_trans h1 h2

/-- The order: by keys, of two alike the one that was ahead. -/
def TOUse (x y : TUse) : Prop := Op.bytesLess x.1.pod.toList y.1.pod.toList = true ∨ (x.1.pod.toList = y.1.pod.toList ∧ x.2 < y.2)

theorem ordUse : StOrd cfUse (fun x : TUse => x.2) TOUse where
  trans := fun x y z h1 h2 => by
    rcases h1 with h1 | ⟨h1, h1'⟩
    · rcases h2 with h2 | ⟨h2, h2'⟩
      · exact .inl (less_trS h1 h2)
      · exact .inl (by rw [← h2]; exact h1)
    · rcases h2 with h2 | ⟨h2, h2'⟩
      · exact .inl (by rw [h1]; exact h2)
      · exact .inr ⟨h1.trans h2, Nat.lt_trans h1' h2'⟩
  tri := fun x y h => by
    cases h1 : Op.bytesLess x.1.pod.toList y.1.pod.toList
    · cases h2 : Op.bytesLess y.1.pod.toList x.1.pod.toList
      · have e := less_tri h1 h2
        rcases Nat.lt_or_gt_of_ne h with h | h
        · exact .inl (.inr ⟨e, h⟩)
        · exact .inr (.inr ⟨e.symm, h⟩)
      · exact .inr (.inl h2)
    · exact .inl (.inl h1)
  agree := fun x y h => by
    unfold cfUse cfS TOUse
    cases h1 : Op.bytesLess y.1.pod.toList x.1.pod.toList
    · refine ⟨fun hh => ?_, fun hh => ?_⟩
      · simp only [Bool.false_eq_true, if_false] at hh
        split at hh <;> omega
      · rcases hh with hh | ⟨_, hh⟩
        · cases hh
        · omega
    · exact ⟨fun _ => .inl rfl, fun _ => by simp⟩
end Go.Proofs.Ytojealgjfbjnoaa
