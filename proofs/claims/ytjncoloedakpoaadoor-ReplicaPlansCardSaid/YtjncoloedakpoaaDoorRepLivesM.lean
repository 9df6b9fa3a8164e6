/- The contract of chapter 16's same: the same names? Condition: rows that read. || Chapter 16's example is as it should be. Condition: the library's table lies. -/
import Derived.Test.YtjncoloedakpoaaDoorRepLawP
namespace Go.Proofs.YtjncoloedakpoaaDoor
open Go.ChangeShapes Go.WideShapes Go.ChangeAt Go.RowKit Go.Deep

theorem SlR.one {w : World} {b off n cap : Nat} {xs : List ByteArray} (h : SlR (Flat cN) 1 w (some ⟨b, off, none⟩) n cap xs) {k : Nat} (hk : k < xs.length) : w.cell? ⟨b, off + k, none⟩ = some (.string xs[k]) := by
  have := h.flat hk 0 _ rfl
  rwa [Nat.add_zero, Nat.mul_one] at this

set_option maxRecDepth 100000 in
theorem same16_any (xs : List ByteArray) (a1 a2 : Option Addr) (n m c1 c2 : Nat) (w : World) (hS : SlR (Flat cN) 1 w a1 n c1 xs) (hT : SlR (Flat cN) 1 w a2 m c2 xs) :
    Calls Tryd.prog 9 #[.slice a1 n c1, .slice a2 m c2] w fun e w' => e = .returned (.bool true) ∧ Below w.heap.size w w' := by
  have hcm := hS.hmax
  have hlc := hS.hcap
  have hcm2 := hT.hmax
  have hlc2 := hT.hcap
  unfold maxLen at hcm hcm2
  obtain rfl : n = m := by have h1 := hS.hlen; have h2 := hT.hlen; omega
  have HS := Lib.hid hS
  have HT := Lib.hid hT
  clear hS hT
  go_enter Tryd.func9, Tryd.ntmps9
  go_wp2_with fail
  go_loopw [13] (fun i wr => ∃ k : Nat, k ≤ n ∧ i = .int .i64 k ∧ Hid (Below w.heap.size w wr)) (fun i _ => n - (intOf i).toNat)
  case atStart => exact ⟨0, Nat.zero_le _, rfl, Below.refl _ _⟩
  case round =>
    obtain ⟨k, hk, rfl, hb⟩ := hrel
    obtain ⟨wq, rfl⟩ : ∃ wq : World, wq = wr := ⟨_, rfl⟩
    by_cases hlt : k < n
    · have hS2 := HS.out.flatKeeps (Keeps.below hb.out)
      have hT2 := HT.out.flatKeeps (Keeps.below hb.out)
      obtain ⟨b0, off, rfl⟩ := hS2.ptr (by decide) (by omega)
      obtain ⟨b1, of1, rfl⟩ := hT2.ptr (by decide) (by omega)
      have kx : k < xs.length := by have := hS2.hlen; omega
      have c0 := hS2.one kx
      have c1' := hT2.one kx
      obtain ⟨y, hy⟩ : ∃ y, xs[k] = y := ⟨_, rfl⟩
      rw [hy] at c0 c1'
      clear hS2 hT2 hy
      go_wp2_with fail
      go_quiet (fail)
      go_wp2_with fail
      go_roundw
      case rel => exact ⟨k + 1, by omega, by go_num, drewN_below hb.out _⟩
      case measure => simp [intOf]; omega
    · obtain rfl : k = n := by omega
      go_wp2_with fail
      go_ret
      exact ⟨rfl, hb.out⟩
end Go.Proofs.YtjncoloedakpoaaDoor
namespace Go.Proofs.YtjncoloedakpoaaDoor
open Go.ChangeShapes Go.WideShapes Go.ChangeAt Go.RowKit Go.Deep

def nr16 {α : Type} : RowV α := ⟨none, 0, 0, []⟩
def app16 : ByteArray := ⟨#[97, 112, 112]⟩
def ex16 : ObI := ⟨0, app16, 0, ⟨⟨2, 0, 0, nr16, nr16, nr16, 0⟩, ⟨⟨#[]⟩, ⟨#[]⟩, 0, 0, 0, 0, nr16, nr16, nr16, 0⟩, ⟨⟨#[]⟩, 0, 0, nr16, nr16, 0, false⟩, ⟨0, 0, 0, 0, 0, nr16, nr16, 0⟩, ⟨⟨#[]⟩, 0, 0, nr16, 0, ⟨0, 0, nr16⟩, ⟨0, 0, nr16⟩, nr16⟩⟩⟩
theorem pod0 : podNm app16 0 = ⟨#[97, 112, 112, 45, 48, 48, 48, 48]⟩ := by kernel_rfl
theorem pod1 : podNm app16 1 = ⟨#[97, 112, 112, 45, 48, 48, 48, 49]⟩ := by kernel_rfl
theorem ex_create : createR ex16 [] = [⟨#[97, 112, 112, 45, 48, 48, 48, 48]⟩, ⟨#[97, 112, 112, 45, 48, 48, 48, 49]⟩] := by
  have h2 : freeN (podNm app16) (gB []) 2 2 = [⟨#[97, 112, 112, 45, 48, 48, 48, 48]⟩, ⟨#[97, 112, 112, 45, 48, 48, 48, 49]⟩] := by
    rw [← pod0, ← pod1]
    rfl
  have h := freeN_full (podNm app16) (gB []) 2 (K := 2) (by rw [h2]; rfl) 9998
  rw [h2] at h
  unfold createR
  rw [wantL_yes (by rfl)]
  exact h
theorem ex_remove {ys : List ObI} (h : SortedO ((liveR ex16 []).filter fun y => y.kd == 1) ys) : removeR ex16 [] ys = [] := by
  have hl : ys.length = 0 := h.length
  obtain rfl : ys = [] := List.eq_nil_of_length_eq_zero hl
  have hr : remF ex16 [] = [] := List.eq_nil_of_length_eq_zero (sortN_length _)
  unfold removeR
  rw [List.take_nil, hr]
  rfl

set_option maxRecDepth 100000 in
set_option maxHeartbeats 1000000 in
theorem lives16 (w : World) (hT : LT w) : Calls Tryd.prog 4 #[] w fun e w' => e = .returned (.bool true) ∧ Below w.heap.size w w' := by
  have hPl := rplan_any ex16 [] none 0 0 w ⟨rfl, Nat.le_refl _, Nat.zero_le _, fun _ => rfl, fun a h => by cases h⟩ (fun y hy => by cases hy) rfl (by decide) hT (by omega) (by decide)
  obtain ⟨xc, hxc⟩ : ∃ c, ex16.cells = c := ⟨_, rfl⟩
  rw [hxc] at hPl
  have HPl := Lib.hid hPl
  have Hxc := Lib.hid hxc
  clear hPl hxc hT
  go_enter Tryd.func4, Tryd.ntmps4
  go_wp2_with ((with_reducible refine at_slot 5 ?_); go_must (refine wpList_build rfl 44 [(0, _), (1, _), (3, _)] rfl _ rfl (.agg xc.toArray) (fun w => by rw [← Hxc.out]; kernel_rfl) ?_))
  refine HPl.out.mono ?_
  rintro e w1 ⟨v1, v2, ys, rfl, hso, h1, h2, hb⟩
  rw [ex_create] at h1
  rw [ex_remove hso] at h2
  obtain ⟨a1, c1, rfl, hS1⟩ := h1.reads
  obtain ⟨a2, c2, rfl, hS2⟩ := h2.reads
  have hc := hS1.hcap
  obtain ⟨b0, off, rfl⟩ := hS1.ptr (by decide) (by decide)
  have k0 := hS1.one (k := 0) (by decide)
  have k1 := hS1.one (k := 1) (by decide)
  simp only [List.length_cons, List.length_nil, Nat.add_zero, Nat.zero_add, Nat.reduceAdd, List.getElem_cons_zero, List.getElem_cons_succ] at k0 k1 hc ⊢
  have HB := Lib.hid hb
  clear hb hS1 hS2 h1 h2 hso HPl Hxc
  go_wp2_with fail
  go_ret
  exact ⟨rfl, HB.out⟩
end Go.Proofs.YtjncoloedakpoaaDoor
