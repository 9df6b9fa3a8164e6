/- Contracts of the reference's numbers in bits: at, trim, Of. Condition: the rows read. -/
import Derived.Test.YteolfpgdpajldaaRows
import Derived.Test.YteolfpgdpajldaaFrame
import Derived.Test.YteolfpgdpajldaaBitsPlain
namespace Go.Proofs.Yteolfpgdpajldaa
open Go.ChangeShapes Go.WideShapes Go.ChangeAt Go.RowKit Go.Deep

def bitC (d : Nat) : List Value := [.int .u8 (d : Int)]

/-- The slice (ao, len, cap) reads as the bits l. -/
structure BitsAt (w : World) (ao : Option Addr) (len cap : Nat) (l : List Nat) : Prop where
  read : SlR (Flat bitC) 1 w ao len cap l
  bin : Bin l

theorem BitsAt.keeps {w w' : World} {ao : Option Addr} {len cap : Nat} {l : List Nat} (h : BitsAt w ao len cap l) (hk : Keeps w w') : BitsAt w' ao len cap l := ⟨h.read.flatKeeps hk, h.bin⟩
theorem BitsAt.below {w w' : World} {ao : Option Addr} {len cap : Nat} {l : List Nat} (h : BitsAt w ao len cap l) (hb : Below w.heap.size w w') : BitsAt w' ao len cap l := h.keeps (Keeps.below hb)

theorem BitsAt.take {w : World} {ao : Option Addr} {len cap k : Nat} {l : List Nat} (h : BitsAt w ao len cap l) (hk : k ≤ len) : BitsAt w ao k cap (l.take k) := by
  refine ⟨⟨?_, Nat.le_trans hk h.read.hcap, h.read.hmax, h.read.hnil, fun a ha i hi => ?_⟩, h.bin.take k⟩
  · rw [List.length_take, h.read.hlen]; omega
  · have hi' : i < l.length := by rw [List.length_take] at hi; omega
    obtain ⟨c, h1, h2, h3⟩ := h.read.hat a ha i hi'
    exact ⟨c, h1, h2, by rw [List.getElem_take]; exact h3⟩

/-- The digit at i. -/
theorem BitsAt.cell {w : World} {b off len cap : Nat} {l : List Nat} (h : BitsAt w (some ⟨b, off, none⟩) len cap l) {i : Nat} (hi : i < len) : w.cell? ⟨b, off + i, none⟩ = some (.int .u8 ((l.getD i 0 : Nat) : Int)) := by
  have hi' : i < l.length := by rw [h.read.hlen]; exact hi
  have := h.read.flat0 hi' _ rfl
  rw [Nat.mul_one] at this
  rw [this, getD_in hi']

set_option maxHeartbeats 1000000 in
theorem at_any (l : List Nat) (i : Nat) (ao : Option Addr) (la ca : Nat) (w : World) (h : BitsAt w ao la ca l) (hi : i ≤ 1000000) :
    Calls Try.prog 38 #[.slice ao la ca, .int .i64 i] w fun e w' => e = .returned (.int .u8 ((l.getD i 0 : Nat) : Int)) ∧ w = w' := by
  have h1 := h.read.hmax; have h2 := h.read.hcap
  unfold maxLen at h1
  by_cases hlt : i < la
  · obtain ⟨b, off, rfl⟩ := h.read.ptr (by decide) (by omega)
    have c := h.cell hlt
    obtain ⟨d, hd⟩ : ∃ d, l.getD i 0 = d := ⟨_, rfl⟩
    rw [hd] at c ⊢
    clear hd h
    go_enter Try.func38, Try.ntmps38
    go_wp2
    go_ret
    exact ⟨rfl, rfl⟩
  · have e : l.getD i 0 = 0 := getD_out (by rw [h.read.hlen]; omega)
    rw [e]
    clear h e
    go_enter Try.func38, Try.ntmps38
    go_wp2
    go_ret
    exact ⟨rfl, rfl⟩

theorem trim_zero {l : List Nat} {k : Nat} (h : l.getD k 0 = 0) (hv : bval (l.take (k + 1)) = bval l) : bval (l.take k) = bval l := by
  rw [← hv, bval_take_succ, h]; simp
theorem trim_last {l : List Nat} {k : Nat} (hb : Bin l) (hk : k < l.length) (h : ¬ l.getD k 0 = 0) (hv : bval (l.take (k + 1)) = bval l) : l.take (k + 1) = bitsOf (bval l) := by
  rw [← hv]
  refine bits_of_last (hb.take _) fun d hd => ?_
  rw [take_snocD hk] at hd
  simp at hd
  subst hd
  simpa using h

set_option maxHeartbeats 1000000 in
theorem trim_any (l : List Nat) (ao : Option Addr) (la ca : Nat) (w : World) (h : BitsAt w ao la ca l) :
    Calls Try.prog 36 #[.slice ao la ca] w fun e w' => (∃ k, e = .returned (.slice ao k ca) ∧ k ≤ la ∧ l.take k = bitsOf (bval l)) ∧ w = w' := by
  have h1 := h.read.hmax; have h2 := h.read.hcap
  unfold maxLen at h1
  have hl := Lib.hid h.read.hlen
  go_enter Try.func36, Try.ntmps36
  go_wp2
  go_loop [0] (fun s => ∃ k : Nat, k ≤ la ∧ s = .slice ao k ca ∧ Hid (bval (l.take k) = bval l)) (fun s => match s with | .slice _ k _ => k | _ => 0)
  case atStart => exact ⟨la, Nat.le_refl _, rfl, by show _ = _; rw [List.take_of_length_le (by rw [hl.out]; omega)]⟩
  case round =>
    obtain ⟨k, hk, rfl, hv⟩ := hrel
    cases k with
    | zero =>
      go_wp2
      go_ret
      exact ⟨⟨0, rfl, Nat.zero_le _, by rw [← hv.out]; simp [bval, bitsOf_zero]⟩, rfl⟩
    | succ j =>
      obtain ⟨b, off, rfl⟩ := h.read.ptr (by decide) (by omega)
      have c := h.cell (i := j) (by omega)
      have hb := Lib.hid h.bin
      obtain ⟨d, hd⟩ : ∃ d, l.getD j 0 = d := ⟨_, rfl⟩
      rw [hd] at c
      have hdd := Lib.hid hd
      clear hd
      by_cases hz : d = 0
      · have q : (((d : Nat) : Int) == 0) = true := by rw [hz]; rfl
        have hz' := Lib.hid hz
        clear hz
        go_wp2
        go_round
        case rel => exact ⟨j, by omega, rfl, trim_zero (hdd.out.trans hz'.out) hv.out⟩
        case measure => simp
      · have q : (((d : Nat) : Int) == 0) = false := by rw [beq_eq_false_iff_ne]; omega
        have hz' := Lib.hid hz
        clear hz
        go_wp2
        go_ret
        exact ⟨⟨j + 1, rfl, hk, trim_last hb.out (by rw [hl.out]; omega) (by rw [hdd.out]; exact hz'.out) hv.out⟩, rfl⟩

theorem elemByte : ElemOK Try.prog 44 5 1 1 := .mk' Try.underlying44 (by kernel_rfl) (by decide)

theorem owns_some {w : World} {B e sz : Nat} {v : Value} {n : Nat} {xs : List Value} (h : w.ownsRow B e sz v n xs) (hn : 0 < n) : v ≠ .slice none 0 0 := by
  rcases h.2 with ⟨_, h0⟩ | ⟨g, cap, cur, rfl, _⟩
  · omega
  · intro e; cases e

theorem ownsRow_bits {w : World} {B : Nat} {v : Value} {n : Nat} {l : List Nat} (h : w.ownsRow B 5 1 v n (l.flatMap bitC)) (hn : l.length = n) (hb : Bin l) (hv : v ≠ .slice none 0 0) : ∃ a cap, v = .slice (some a) n cap ∧ BitsAt w (some a) n cap l := by
  subst hn
  rcases h.2 with ⟨h0, _⟩ | ⟨g, cap, cur, rfl, _⟩
  · exact absurd h0 hv
  · obtain ⟨ao, cap', hv', hS, _⟩ := SlR.of_owns (f := bitC) (sz := 1) h rfl (fun _ => rfl)
    cases hv'
    exact ⟨_, _, rfl, hS, hb⟩
end Go.Proofs.Yteolfpgdpajldaa
