/- Contracts of package proposal: right, goal, the uses, add. Condition: the quantities are right. -/
import Derived.Test.YtkjononoaabclaaRatio
import Derived.Test.YtkjononoaabclaaFrame
import Derived.Test.YtkjononoaabclaaHeadLit
import Derived.Deep.QuietTactic
namespace Go.Proofs.Ytkjononoaabclaa
open Go.ChangeShapes Go.WideShapes Go.ChangeAt Go.RowKit Go.Deep

def UseI.cells (x : UseI) : List Value := [.string x.pod, .bool x.ready, .bool x.has, .int .i64 x.ask, .int .i64 x.use]
theorem aggUse : AggOK Try.prog 30 5 := .mk' (by kernel_rfl) (by kernel_rfl)
theorem elemUse : ElemOK Try.prog 25 30 5 40 := .mk' (by kernel_rfl) (by kernel_rfl) (by decide)

theorem add_block (a : Addr) (n : Nat) : (a.add n).block = a.block := by
  unfold Addr.add
  first | rfl | (split <;> rfl)

theorem SlR.fr {α : Type} {f : α → List Value} {sz : Nat} {S : Nat → Prop} {w w' : World} {ao : Option Addr} {n cap : Nat} {xs : List α} (h : SlR (Flat f) sz w ao n cap xs) (hf : Fr S w w') (hk : ∀ a, ao = some a → ¬ S a.block) : SlR (Flat f) sz w' ao n cap xs :=
  ⟨h.hlen, h.hcap, h.hmax, h.hnil, fun a ha i hi => let ⟨c, h1, h2, h3⟩ := h.hat a ha i hi; ⟨c, h1, fun j u hu => hf.cell (h2 j u hu) (by rw [add_block]; exact hk a ha), h3⟩⟩

set_option maxRecDepth 100000 in
theorem own_any (x : UseI) (q : Int) (w : World) : Calls Try.prog 19 #[.agg #[.string x.pod, .bool x.ready, .bool x.has, .int .i64 x.ask, .int .i64 x.use], .int .i64 q] w fun e w' => e = .returned (.int .i64 x.use) ∧ Below w.heap.size w w' := by
  go_enter Try.func19, Try.ntmps19
  go_wp2_with fail
  go_ret
  exact ⟨rfl, (Below.refl _ _).alloc (Nat.le_refl _) _⟩

theorem whole2_any (x : UseI) (q : Int) (w : World) : Calls Try.prog 21 #[.agg #[.string x.pod, .bool x.ready, .bool x.has, .int .i64 x.ask, .int .i64 x.use], .int .i64 q] w fun e w' => e = .returned (.int .i64 q) ∧ Below w.heap.size w w' := by
  go_enter Try.func21, Try.ntmps21
  go_wp2_with fail
  go_ret
  exact ⟨rfl, (Below.refl _ _).alloc (Nat.le_refl _) _⟩

theorem none_any (x : UseI) (q : Int) (w : World) : Calls Try.prog 20 #[.agg #[.string x.pod, .bool x.ready, .bool x.has, .int .i64 x.ask, .int .i64 x.use], .int .i64 q] w fun e w' => e = .returned (.int .i64 0) ∧ Below w.heap.size w w' := by
  go_enter Try.func20, Try.ntmps20
  go_wp2_with fail
  go_ret
  exact ⟨rfl, (Below.refl _ _).alloc (Nat.le_refl _) _⟩

def goalV (kind target ask : Int) : Int × Int := match goalI kind target ask with | some q => (q, 0) | none => (0, 3)

set_option maxRecDepth 100000 in
set_option maxHeartbeats 1000000 in
theorem goal_any (kind target : Int) (nm : ByteArray) (x : UseI) (w : World) (ht : okQ target = true) (ha : okQ x.ask = true) :
    Calls Try.prog 31 #[.agg #[.int .i64 kind, .string nm, .int .i64 target], .agg #[.string x.pod, .bool x.ready, .bool x.has, .int .i64 x.ask, .int .i64 x.use]] w fun e w' =>
      e = .returned (.tuple #[.int .i64 (goalV kind target x.ask).1, .int .i64 (goalV kind target x.ask).2]) ∧ Below w.heap.size w w' := by
  obtain ⟨pod, ready, has, ask, use⟩ := x
  dsimp only at ha ⊢
  have ht := of_decide_eq_true ht
  have ha := of_decide_eq_true ha
  obtain ⟨t, rfl⟩ := Int.eq_ofNat_of_zero_le ht.1
  obtain ⟨a, rfl⟩ := Int.eq_ofNat_of_zero_le ha.1
  by_cases hk : kind = 0
  · subst hk
    have HM := Lib.hid (fun w1 => muldiv_any a t 1000 false w1 (by omega) (by omega) (by omega) (by omega))
    have hq : mdOf (a * t) 1000 false = a * t / 1000 := rfl
    have hg : goalV 0 t a = if (9007199254740992 : Int) < (a : Int) * (t : Int) / 1000 then (0, 3) else ((a : Int) * (t : Int) / 1000, 0) := by
      unfold goalV goalI
      rw [if_neg (by simp)]
      split <;> rename_i h <;> split at h
      · cases h
      · rename_i h2
        rw [if_neg h2]
        simp only [Option.some.injEq] at h
        rw [h]
      · rename_i h2
        rw [if_pos h2]
      · cases h
    have hi : (a : Int) * (t : Int) / 1000 = ((a * t / 1000 : Nat) : Int) := by
      rw [← Int.natCast_mul]
      omega
    have w1 : IntKind.u64.wrap (a : Int) = (a : Int) := u64w _ (by omega)
    have w2 : IntKind.u64.wrap (t : Int) = (t : Int) := u64w _ (by omega)
    rw [hq] at HM
    rw [hi] at hg
    obtain ⟨q, hqe⟩ : ∃ q, a * t / 1000 = q := ⟨_, rfl⟩
    rw [hqe] at HM hg
    clear hq hi hqe ht ha
    by_cases hb : q < 18446744073709551616
    · rw [if_pos hb] at HM
      by_cases hc : 9007199254740992 < q
      · rw [if_pos (by omega)] at hg
        have hd : decide ((9007199254740992 : Int) < (q : Int)) = true := decide_eq_true (by omega)
        rw [hg]
        clear hb hg hc
        go_enter Try.func31, Try.ntmps31
        go_wp2_with (refine (HM.out _).mono ?_; rintro e w1 ⟨rfl, hb1⟩; have Hb1 := Lib.hid hb1; clear hb1)
        go_ret2
        exact ⟨rfl, ((((Below.refl _ _).alloc (Nat.le_refl _) _).alloc (by simp) _).trans (Hb1.out.mono (by simp; omega)))⟩
      · rw [if_neg (by omega)] at hg
        have hd : decide ((9007199254740992 : Int) < (q : Int)) = false := decide_eq_false (by omega)
        have w4 : wrap64 (q : Int) = (q : Int) := IntWalk.wrap64_in _ (by omega)
        have w5 : IntKind.i64.wrap (q : Int) = (q : Int) := IntWalk.i64_in _ (by omega)
        rw [hg]
        clear hb hg hc
        go_enter Try.func31, Try.ntmps31
        go_wp2_with (refine (HM.out _).mono ?_; rintro e w1 ⟨rfl, hb1⟩; have Hb1 := Lib.hid hb1; clear hb1)
        go_ret2
        exact ⟨rfl, ((((Below.refl _ _).alloc (Nat.le_refl _) _).alloc (by simp) _).trans (Hb1.out.mono (by simp; omega)))⟩
    · rw [if_neg hb] at HM
      rw [if_pos (by omega)] at hg
      rw [hg]
      clear hb hg
      go_enter Try.func31, Try.ntmps31
      go_wp2_with (refine (HM.out _).mono ?_; rintro e w1 ⟨rfl, hb1⟩; have Hb1 := Lib.hid hb1; clear hb1)
      go_ret2
      exact ⟨rfl, ((((Below.refl _ _).alloc (Nat.le_refl _) _).alloc (by simp) _).trans (Hb1.out.mono (by simp; omega)))⟩
  · have hg : goalV kind t a = ((t : Int), 0) := by
      unfold goalV goalI
      rw [if_pos hk]
    have hkb : (kind == 0) = false := by rw [beq_eq_false_iff_ne]; exact hk
    have hkb2 : (kind != 0) = true := by simp [bne, hkb]
    rw [hg]
    clear hg ht ha
    go_enter Try.func31, Try.ntmps31
    go_wp2_with fail
    go_ret2
    exact ⟨rfl, (((Below.refl _ _).alloc (Nat.le_refl _) _).alloc (by simp) _)⟩
end Go.Proofs.Ytkjononoaabclaa
