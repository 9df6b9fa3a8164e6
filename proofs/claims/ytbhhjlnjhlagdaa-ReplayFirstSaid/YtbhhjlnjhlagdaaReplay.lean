/- Contracts of replay.First over slices of marks. Condition: the slices read. -/
import Derived.Test.YtbhhjlnjhlagdaaRows
import Derived.Test.YtbhhjlnjhlagdaaBase
namespace Go.Proofs.Ytbhhjlnjhlagdaa
open Go.ChangeShapes Go.WideShapes Go.ChangeAt Go.RowKit Go.Deep

structure Mk where
  at_ : Int
  now : Int
  err : Int
  ev : Int
  sum : Int
deriving DecidableEq, Inhabited

def Mk.cells (m : Mk) : List Value := [.int .i64 m.at_, .int .i64 m.now, .int .i64 m.err, .int .i64 m.ev, .int .u64 m.sum]

def fstNe : List Mk → List Mk → Nat → Int
  | [], [], _ => -1
  | a :: A, b :: B, k => if a = b then fstNe A B (k + 1) else k
  | _, _, k => k

theorem fstNe_comm : ∀ (A B : List Mk) (k : Nat), fstNe A B k = fstNe B A k
  | [], [], _ => rfl
  | [], _ :: _, _ => rfl
  | _ :: _, [], _ => rfl
  | a :: A, b :: B, k => by
    simp only [fstNe, fstNe_comm A B]
    by_cases h : a = b
    · simp [h]
    · simp [h, Ne.symm h]

theorem fstNe_self : ∀ (A : List Mk) (k : Nat), fstNe A A k = -1
  | [], _ => rfl
  | _ :: A, k => by simp [fstNe, fstNe_self A]

theorem fstNe_drop {A B : List Mk} {k : Nat} (ha : k < A.length) (hb : k < B.length) : fstNe (A.drop k) (B.drop k) k = if A[k] = B[k] then fstNe (A.drop (k + 1)) (B.drop (k + 1)) (k + 1) else (k : Int) := by
  rw [List.drop_eq_getElem_cons ha, List.drop_eq_getElem_cons hb, fstNe]

theorem fstNe_end {A B : List Mk} {k : Nat} (h : k = A.length ∨ k = B.length) (ha : k ≤ A.length) (hb : k ≤ B.length) : fstNe (A.drop k) (B.drop k) k = if A.length = B.length then (-1 : Int) else k := by
  by_cases h1 : k < A.length
  · have hb' : k = B.length := by omega
    rw [List.drop_eq_getElem_cons h1, List.drop_eq_nil_of_le (by omega : B.length ≤ k), if_neg (by omega)]
    rfl
  · rw [List.drop_eq_nil_of_le (by omega : A.length ≤ k)]
    by_cases h2 : k < B.length
    · rw [List.drop_eq_getElem_cons h2, if_neg (by omega)]
      rfl
    · rw [List.drop_eq_nil_of_le (by omega : B.length ≤ k), if_pos (by omega)]
      rfl

theorem mk_if (x y : Mk) {α : Type} (t f : α) : (if x.at_ = y.at_ then if x.now = y.now then if x.err = y.err then if x.ev = y.ev then if x.sum = y.sum then f else t else t else t else t else t) = if x = y then f else t := by
  cases x; cases y
  simp only [Mk.mk.injEq]
  repeat' split
  all_goals simp_all

set_option maxHeartbeats 1000000 in
theorem first_any (A B : List Mk) (ao bo : Option Addr) (la ca lb cb : Nat) (w : World) (hA : SlR (Flat Mk.cells) 5 w ao la ca A) (hB : SlR (Flat Mk.cells) 5 w bo lb cb B) :
    Calls Try.prog 16 #[.slice ao la ca, .slice bo lb cb] w fun e w' => e = .returned (.int .i64 (fstNe A B 0)) ∧ ∃ n, w' = w.drewN n := by
  have ha := hA.hmax; have hac := hA.hcap
  have hb := hB.hmax; have hbc := hB.hcap
  unfold maxLen at ha hb
  go_enter Try.func16, Try.ntmps16
  go_wp2
  all_goals
    go_loopw [13] (fun j wr => ∃ k : Nat, k ≤ la ∧ k ≤ lb ∧ j = .int .i64 k ∧ Hid (fstNe A B 0 = fstNe (A.drop k) (B.drop k) k) ∧ ∃ n, wr = w.drewN n) (fun j _ => la - (intOf j).toNat)
    case atStart => exact ⟨0, Nat.zero_le _, Nat.zero_le _, rfl, rfl, 0, rfl⟩
    case round =>
      obtain ⟨k, hka, hkb, rfl, hf, n, rfl⟩ := hrel
      by_cases hlt : k < la ∧ k < lb
      · obtain ⟨hla, hlb⟩ := hlt
        obtain ⟨b1, o1, rfl⟩ := hA.ptr (by decide) (by omega)
        obtain ⟨b2, o2, rfl⟩ := hB.ptr (by decide) (by omega)
        have ka : k < A.length := by have := hA.hlen; omega
        have kb : k < B.length := by have := hB.hlen; omega
        have fa := hA.flat ka
        have fb := hB.flat kb
        have a0 := hA.flat0 ka _ rfl; have a1 := fa 1 _ rfl; have a2 := fa 2 _ rfl; have a3 := fa 3 _ rfl; have a4 := fa 4 _ rfl
        have b0 := hB.flat0 kb _ rfl; have b1' := fb 1 _ rfl; have b2' := fb 2 _ rfl; have b3 := fb 3 _ rfl; have b4 := fb 4 _ rfl
        clear fa fb
        have hd := fstNe_drop ka kb
        by_cases hab : A[k] = B[k]
        · rw [if_pos hab] at hd
          have Hd := Lib.hid hd
          clear hd
          go_wp2
          go_quiet (fail)
          go_wp2
          go_roundw
          case rel => exact ⟨k + 1, by omega, by omega, by go_num, hf.out.trans Hd.out, n + nq, rfl⟩
          case measure => simp [intOf]; omega
        · rw [if_neg hab] at hd
          have Hd := Lib.hid hd
          clear hd
          have hm := @mk_if
          go_wp2
          go_quiet (fail)
          go_wp2
          go_ret
          exact ⟨ret_int (by rw [hf.out, Hd.out]), n + nq, by first | rfl | rw [World.drewN_drewN]⟩
      · have He := Lib.hid (fstNe_end (A := A) (B := B) (k := k) (by have := hA.hlen; have := hB.hlen; omega) (by have := hA.hlen; omega) (by have := hB.hlen; omega))
        by_cases hl : la = lb
        · have hl' : ((la : Int) == (lb : Int)) = true := by rw [hl]; simp
          have Hl := Lib.hid hl
          clear hl
          go_wp2
          go_ret
          exact ⟨ret_int (by rw [hf.out, He.out, if_pos (by rw [hA.hlen, hB.hlen]; exact Hl.out)]), n, rfl⟩
        · have hl' : ((la : Int) == (lb : Int)) = false := by simp; omega
          go_wp2
          go_ret
          exact ⟨ret_int (by rw [hf.out, He.out, if_neg (by rw [hA.hlen, hB.hlen]; exact hl)]; omega), n, rfl⟩
end Go.Proofs.Ytbhhjlnjhlagdaa
