/- The contracts of law 20's lives and of proposal.Most. Condition: the slices read. -/
import Derived.Test.YtkjononoaabclaaRow
namespace Go.Proofs.Ytkjononoaabclaa
open Go.ChangeShapes Go.WideShapes Go.ChangeAt Go.RowKit Go.Deep

def livesUse : UseI := ⟨⟨#[]⟩, true, true, 1000, 900⟩

theorem rowF_lives : rowF 0 500 [livesUse, livesUse] 2 100 = (4, 0) := by decide +kernel

set_option maxRecDepth 100000 in
theorem lives20 (w : World) : Calls Try.prog 6 #[] w fun e w' => e = .returned (.bool true) ∧ Below w.heap.size w w' := by
  have hS := SlR.of_new (f := UseI.cells) (sz := 5) (w.alloc (.cells #[.string ⟨#[]⟩, .bool true, .bool true, .int .i64 1000, .int .i64 900] 30)) [livesUse, livesUse] 30
    #[.string ⟨#[]⟩, .bool true, .bool true, .int .i64 1000, .int .i64 900, .string ⟨#[]⟩, .bool true, .bool true, .int .i64 1000, .int .i64 900] 2 rfl (by unfold maxLen; omega) (fun _ => rfl) rfl
  have HR := Lib.hid (row_any 0 500 2 100 ⟨#[99, 112, 117]⟩ [livesUse, livesUse] _ 2 2 _ hS (by omega))
  rw [rowF_lives, World.size_alloc] at HR
  clear hS
  go_enter Try.func6, Try.ntmps6
  go_wp2_with fail
  refine HR.out.mono ?_
  rintro e w1 ⟨rfl, hb1⟩
  have Hb1 : Hid (Below w.heap.size w w1) := (((Below.refl _ _).alloc (Nat.le_refl _) _).alloc (by simp) _).trans (hb1.mono (by simp; omega))
  clear hb1
  go_wp2_with fail
  go_ret
  exact ⟨rfl, Hb1.out⟩

def intC (x : Int) : List Value := [.int .i64 x]

/-- One proposal more: the greatest, is there one, was one wrong. -/
def mStep (s : Int × Bool × Bool) (p : Int × Int) : Int × Bool × Bool :=
  if p.2 ≠ 0 then (s.1, s.2.1, true) else if s.2.1 = false ∨ s.1 < p.1 then (p.1, true, s.2.2) else s

def mSt (l es : List Int) (k : Nat) : Int × Bool × Bool := ((l.zip es).take k).foldl mStep (0, false, false)

theorem mSt_succ (l es : List Int) {k : Nat} (h1 : k < l.length) (h2 : k < es.length) : mSt l es (k + 1) = mStep (mSt l es k) (l[k], es[k]) := by
  unfold mSt
  have h : k < (l.zip es).length := by simp; omega
  rw [List.take_succ_eq_append_getElem h, List.foldl_append, List.getElem_zip]
  rfl

def mostF (l es : List Int) (rep : Int) : Int × Int :=
  if l.length ≠ es.length then (0, 1) else
    if (mSt l es l.length).2.1 = false then (0, 7) else if (mSt l es l.length).2.2 = true then (max (mSt l es l.length).1 rep, 0) else ((mSt l es l.length).1, 0)

set_option maxRecDepth 100000 in
set_option maxHeartbeats 2000000 in
theorem most_any (l es : List Int) (rep : Int) (ao bo : Option Addr) (n cap m dap : Nat) (w : World) (hS : SlR (Flat intC) 1 w ao n cap l) (hE : SlR (Flat intC) 1 w bo m dap es) :
    Calls Try.prog 8 #[.slice ao n cap, .slice bo m dap, .int .i64 rep] w fun e w' => e = .returned (.tuple #[.int .i64 (mostF l es rep).1, .int .i64 (mostF l es rep).2]) ∧ w = w' := by
  have h1 := hS.hlen
  have h2 := hE.hlen
  have hcm := hS.hmax
  have hlc := hS.hcap
  have hdm := hE.hmax
  have hld := hE.hcap
  unfold maxLen at hcm hdm
  have hF : mostF l es rep = if l.length ≠ es.length then (0, 1) else if (mSt l es l.length).2.1 = false then (0, 7) else if (mSt l es l.length).2.2 = true then (max (mSt l es l.length).1 rep, 0) else ((mSt l es l.length).1, 0) := rfl
  obtain ⟨R, hR⟩ : ∃ R, mostF l es rep = R := ⟨_, rfl⟩
  rw [hR, h1, h2] at hF
  rw [hR]
  have HF := Lib.hid hF
  obtain ⟨ra, re⟩ := R
  have HS := Lib.hid hS
  have HE := Lib.hid hE
  clear hF hR hS hE
  go_enter Try.func8, Try.ntmps8
  by_cases hnm : n = m
  · subst hnm
    have H0 := Lib.hid (HF.out.trans (if_neg (by simp)))
    go_wp2_with fail
    go_loopw [8, 9, 10, 20] (fun b mt wg i wr => w = wr ∧ ∃ (k : Nat) (s : Int × Bool × Bool), k ≤ n ∧ i = .int .i64 k ∧ b = .int .i64 s.1 ∧ mt = .bool s.2.1 ∧ wg = .bool s.2.2 ∧ Hid (mSt l es k = s)) (fun _ _ _ i _ => n - (intOf i).toNat)
    case atStart => exact ⟨rfl, 0, (0, false, false), Nat.zero_le _, rfl, rfl, rfl, rfl, rfl⟩
    case round =>
      obtain ⟨rfl, k, ⟨b, mt, wg⟩, hk, rfl, rfl, rfl, rfl, hs⟩ := hrel
      by_cases hlt : k < n
      · obtain ⟨b0, off, rfl⟩ := HS.out.ptr (by decide) (by omega)
        obtain ⟨b1, off1, rfl⟩ := HE.out.ptr (by decide) (by omega)
        have kx : k < l.length := by omega
        have ky : k < es.length := by omega
        have c0 := HS.out.flat0 kx _ rfl
        have d0 := HE.out.flat0 ky _ rfl
        have hst := mSt_succ l es kx ky
        rw [hs.out] at hst
        obtain ⟨x, hx⟩ : ∃ x, l[k] = x := ⟨_, rfl⟩
        obtain ⟨y, hy⟩ : ∃ y, es[k] = y := ⟨_, rfl⟩
        rw [hx] at c0 hst
        rw [hy] at d0 hst
        rw [Nat.mul_one] at c0 d0
        unfold mStep at hst
        dsimp only at hst
        have HT := Lib.hid hst
        clear hst hx hy
        by_cases hy0 : y = 0
        · subst hy0
          have HT2 := Lib.hid (HT.out.trans (if_neg (by simp)))
          cases mt
          · have HT3 := Lib.hid (HT2.out.trans (if_pos (.inl rfl)))
            go_wp2_with fail
            go_roundw
            case rel => exact ⟨trivial, k + 1, (x, true, wg), by omega, by go_num, rfl, rfl, rfl, HT3.out⟩
            case measure => simp [intOf]; omega
          · by_cases hbx : b < x
            · have hd : decide (b < x) = true := decide_eq_true hbx
              have HT3 := Lib.hid (HT2.out.trans (if_pos (.inr hbx)))
              go_wp2_with fail
              go_roundw
              case rel => exact ⟨trivial, k + 1, (x, true, wg), by omega, by go_num, rfl, rfl, rfl, HT3.out⟩
              case measure => simp [intOf]; omega
            · have hd : decide (b < x) = false := decide_eq_false hbx
              have HT3 := Lib.hid (HT2.out.trans (if_neg (fun h => h.elim (fun h => by cases h) hbx)))
              go_wp2_with fail
              go_roundw
              case rel => exact ⟨trivial, k + 1, (b, true, wg), by omega, by go_num, rfl, rfl, rfl, HT3.out⟩
              case measure => simp [intOf]; omega
        · have hyb : (y == 0) = false := by rw [beq_eq_false_iff_ne]; exact hy0
          have hyb2 : (y != 0) = true := by simp [bne, hyb]
          have HT2 := Lib.hid (HT.out.trans (if_pos hy0))
          go_wp2_with fail
          go_roundw
          case rel => exact ⟨trivial, k + 1, (b, mt, true), by omega, by go_num, rfl, rfl, rfl, HT2.out⟩
          case measure => simp [intOf]; omega
      · obtain rfl : k = n := by omega
        have H1 := H0.out
        rw [hs.out] at H1
        dsimp only at H1
        have H1' := Lib.hid H1
        clear H1
        cases mt
        · have H2 := Lib.hid (H1'.out.trans (if_pos rfl))
          go_wp2_with fail
          go_ret2
          have H3 := H2.out
          simp only [Prod.mk.injEq] at H3
          exact ⟨by rw [H3.1, H3.2]; rfl, rfl⟩
        · have H2 := Lib.hid (H1'.out.trans (if_neg (by simp)))
          cases wg
          · have H4 := Lib.hid (H2.out.trans (if_neg (by simp)))
            go_wp2_with fail
            go_ret2
            have H3 := H4.out
            simp only [Prod.mk.injEq] at H3
            exact ⟨by rw [H3.1, H3.2]; rfl, rfl⟩
          · have H4 := Lib.hid (H2.out.trans (if_pos rfl))
            go_wp2_with fail
            go_ret2
            have H3 := H4.out
            simp only [Prod.mk.injEq] at H3
            exact ⟨by rw [H3.1, H3.2]; rfl, rfl⟩
  · have H0 := Lib.hid (HF.out.trans (if_pos hnm))
    have hnb : ((n : Int) == (m : Int)) = false := by rw [beq_eq_false_iff_ne]; omega
    have hnb2 : ((n : Int) != (m : Int)) = true := by simp [bne, hnb]
    have hnb3 : (n != m) = true := by simp [bne, hnm]
    go_wp2_with fail
    go_ret2
    have H3 := H0.out
    simp only [Prod.mk.injEq] at H3
    exact ⟨by rw [H3.1, H3.2]; rfl, rfl⟩
end Go.Proofs.Ytkjononoaabclaa
