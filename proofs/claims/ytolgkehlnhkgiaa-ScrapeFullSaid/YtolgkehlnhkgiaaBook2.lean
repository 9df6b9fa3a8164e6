/- The contract of scrape's Scrape where a sample is refused ahead of the book. Condition: the names and the bits are what Go bears. -/
import Derived.Test.YtolgkehlnhkgiaaBook
namespace Go.Proofs.Ytolgkehlnhkgiaa
open Go.ChangeShapes Go.WideShapes Go.ChangeAt Go.RowKit Go.Deep Go.Maps

/-- Why a sample is refused, whatever the book holds: 0, if it isn't. -/
def preOf (at0 : Int) (sub met : ByteArray) (bits : Nat) : Int :=
  if at0 < 0 ∨ 4611686018427387904 < at0 then 1 else if nameOf sub.data.toList = true ∧ nameOf met.data.toList = true then (refOf bits).2 else 6

theorem scrapeNil_any (at0 : Int) (sub met : ByteArray) (bits : Int) (w : World) :
    Calls Try.prog 9 #[.pointer none, .int .i64 at0, .agg #[.string sub, .string met], .int .u64 bits] w fun e w' => e = .returned (.tuple #[.int .i64 0, .int .i64 1]) ∧ Below w.heap.size w w' := by
  go_enter Try.func9, Try.ntmps9
  go_wp2
  go_ret2
  exact ⟨rfl, (Below.refl _ _).alloc (Nat.le_refl _) _⟩

set_option maxRecDepth 100000 in
set_option maxHeartbeats 1600000 in
theorem scrape_pre (p : Addr) (at0 : Int) (sub met : ByteArray) (bits : Nat) (w : World) (hbits : bits < 18446744073709551616) (h : preOf at0 sub met bits ≠ 0) :
    Calls Try.prog 9 #[.pointer (some p), .int .i64 at0, .agg #[.string sub, .string met], .int .u64 bits] w fun e w' => e = .returned (.tuple #[.int .i64 0, .int .i64 (preOf at0 sub met bits)]) ∧ Below w.heap.size w w' := by
  have k0 : (w.alloc (.cells #[.string sub, .string met] 36)).cell? ⟨w.heap.size, 0, none⟩ = some (.string sub) := cell_new w _ _ 0
  have k1 : (w.alloc (.cells #[.string sub, .string met] 36)).cell? ⟨w.heap.size, 1, none⟩ = some (.string met) := cell_new w _ _ 1
  unfold preOf at h ⊢
  by_cases h1 : at0 < 0 ∨ 4611686018427387904 < at0
  · rw [if_pos h1]
    rcases h1 with q | q
    all_goals
      clear h
      go_enter Try.func9, Try.ntmps9
      go_wp2
      go_ret2
      exact ⟨rfl, (Below.refl _ _).alloc (Nat.le_refl _) _⟩
  rw [if_neg h1] at h ⊢
  have g1 : 0 ≤ at0 := by omega
  have g2 : at0 ≤ 4611686018427387904 := by omega
  have HN : Hid (∀ (s : ByteArray) w1, Calls Try.prog 18 #[.string s] w1 fun e w' => e = .returned (.bool (nameOf s.data.toList)) ∧ w1 = w') := fun s w1 => name_any s w1
  clear h1
  cases hs : nameOf sub.data.toList
  · rw [if_neg (by simp)]
    have Hs := Lib.hid hs
    clear h hs
    go_enter Try.func9, Try.ntmps9
    go_wp2_with fail
    refine (HN.out _ _).mono ?_
    rintro e w1 ⟨he, rfl⟩
    rw [Hs.out] at he
    subst he
    go_wp2_with fail
    go_ret2
    exact ⟨rfl, (Below.refl _ _).alloc (Nat.le_refl _) _⟩
  cases hm : nameOf met.data.toList
  · rw [if_neg (by simp)]
    have Hs := Lib.hid hs
    have Hm := Lib.hid hm
    clear h hs hm
    go_enter Try.func9, Try.ntmps9
    go_wp2_with fail
    refine (HN.out _ _).mono ?_
    rintro e w1 ⟨he, rfl⟩
    rw [Hs.out] at he
    subst he
    go_wp2_with fail
    refine (HN.out _ _).mono ?_
    rintro e w1 ⟨he, rfl⟩
    rw [Hm.out] at he
    subst he
    go_wp2_with fail
    go_ret2
    exact ⟨rfl, (Below.refl _ _).alloc (Nat.le_refl _) _⟩
  rw [if_pos ⟨hs, hm⟩] at h
  rw [if_pos ⟨rfl, rfl⟩]
  have Hs := Lib.hid hs
  have Hm := Lib.hid hm
  have HG := Lib.hid (fun w1 => read_any bits w1 hbits)
  obtain ⟨⟨q, r⟩, hqr⟩ : ∃ x, refOf bits = x := ⟨_, rfl⟩
  rw [hqr] at h HG ⊢
  dsimp only at h ⊢
  have hne : (r != 0) = true := bne_iff_ne.2 h
  clear h hs hm hqr
  go_enter Try.func9, Try.ntmps9
  go_wp2_with fail
  refine (HN.out _ _).mono ?_
  rintro e w1 ⟨he, rfl⟩
  rw [Hs.out] at he
  subst he
  go_wp2_with fail
  refine (HN.out _ _).mono ?_
  rintro e w1 ⟨he, rfl⟩
  rw [Hm.out] at he
  subst he
  go_wp2_with fail
  refine (HG.out _).mono ?_
  rintro e w1 ⟨rfl, hb⟩
  have Hb := Lib.hid hb
  clear hb
  go_wp2_with fail
  go_ret2
  exact ⟨rfl, ((Below.refl _ _).alloc (Nat.le_refl _) _).trans (Hb.out.mono (by simp))⟩
end Go.Proofs.Ytolgkehlnhkgiaa
