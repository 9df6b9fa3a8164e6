/- Contracts of lease's Give, and the chapter's example. Condition: the board lies in blocks of the call's own. -/
import Derived.Test.YtcgfjbbdadjegaaLease4
namespace Go.Proofs.Ytcgfjbbdadjegaa
open Go.ChangeShapes Go.WideShapes Go.ChangeAt Go.RowKit Go.Deep Go.Maps

def GivePost (bb bm : Nat) (b : Bd) (name holder : ByteArray) (now : Int) (w : World) (e : Ending) (w' : World) : Prop :=
  e = .returned (.int .i64 (giveOf b name holder now).1) ∧ BoardAt w' bb bm (giveOf b name holder now).2 ∧ Fr (fun k => k = bm) w w'

theorem give_same {bb bm : Nat} {b : Bd} {name holder : ByteArray} {now : Int} {w w' : World} {r : Int} (hB : BoardAt w bb bm b) (h : giveOf b name holder now = (r, b)) (hb : Below w.heap.size w w') :
    GivePost bb bm b name holder now w (.returned (.int .i64 r)) w' := by
  unfold GivePost
  rw [h]
  exact ⟨rfl, hB.fr (Fr.of_below hb (fun _ => False)) id id, Fr.of_below hb _⟩

theorem give_done {bb bm : Nat} {b : Bd} {l : Lease} {name holder : ByteArray} {now : Int} {w W w2 : World} (hB : BoardAt w bb bm b) (hW : Below w.heap.size w W)
    (hown : MapIs w2 Try.prog 9 bm (if (byStr Lease.val b.f (.string name.data.toList)).isSome then b.n else b.n + 1) (fset (byStr Lease.val b.f) (.string name.data.toList) l.val)) (hturn : W.mapTurned w2 bm)
    (ht : giveOf b name holder now = (0, b.putAt name.data.toList l)) :
    GivePost bb bm b name holder now w (.returned (.int .i64 0)) w2 := by
  obtain ⟨h1, h2⟩ := putAt_done hB hW hown hturn
  unfold GivePost
  rw [ht]
  exact ⟨rfl, h1, h2⟩

set_option maxRecDepth 100000 in
set_option maxHeartbeats 1000000 in
theorem give_err (bb bm : Nat) (b : Bd) (name holder : ByteArray) (now r : Int) (w : World) (hB : BoardAt w bb bm b) (hr : rightOf name holder now 1 = r) (h0 : r ≠ 0) :
    Calls Try.prog 18 #[.pointer (some ⟨bb, 0, none⟩), .string name, .string holder, .int .i64 now] w (GivePost bb bm b name holder now w) := by
  have HR : Hid (∀ w1, Calls Try.prog 13 #[.string name, .string holder, .int .i64 now, .int .i64 1] w1 fun e w' => e = .returned (.int .i64 r) ∧ w1 = w') := by rw [← hr]; exact fun w1 => right_any name holder now 1 w1
  have H := Lib.hid (give_same (name := name) (holder := holder) (now := now) hB (r := r) (w' := w) (by unfold giveOf; rw [hr, if_neg h0]) (Below.refl _ _))
  have hd : (r == 0) = false := beq_eq_false_iff_ne.2 h0
  clear hr hB
  go_enter Try.func18, Try.ntmps18
  go_wp2_with fail
  refine (HR.out _).mono ?_
  rintro e w1 ⟨rfl, rfl⟩
  go_wp2_with fail
  go_ret
  exact H.out

set_option maxRecDepth 100000 in
set_option maxHeartbeats 2000000 in
theorem give_own (bb bm : Nat) (b : Bd) (name holder : ByteArray) (now : Int) (w : World) (hB : BoardAt w bb bm b) (hr : rightOf name holder now 1 = 0) (hn : name.size ≤ maxLen) (h512 : b.n ≤ 512) :
    Calls Try.prog 18 #[.pointer (some ⟨bb, 0, none⟩), .string name, .string holder, .int .i64 now] w (GivePost bb bm b name holder now w) := by
  have HR : Hid (∀ w1, Calls Try.prog 13 #[.string name, .string holder, .int .i64 now, .int .i64 1] w1 fun e w' => e = .returned (.int .i64 0) ∧ w1 = w') := by rw [← hr]; exact fun w1 => right_any name holder now 1 w1
  have c0 := cell_of_one hB.blk
  have s0 := blk c0
  have hne := hB.ne
  have HM := Lib.hid (hB.map)
  have sm := MapIs.lt HM.out
  have HK := Lib.hid (strKey hn)
  obtain ⟨g1, g2, g3, g4⟩ := right_range hr
  have HO := Lib.hid (own_any bb bm b name holder now w hB hn)
  have HB := Lib.hid hB
  have HL : Hid (b.n < maxLen) := by unfold Hid maxLen; omega
  have HT : Hid (giveOf b name holder now = giveWith b name now (ownOf b name holder now)) := by unfold giveOf; rw [if_pos hr]; rfl
  clear hr hB hn h512
  obtain ⟨p, hp⟩ : ∃ p, ownOf b name holder now = p := ⟨_, rfl⟩
  rw [hp] at HO HT
  clear hp
  obtain ⟨l, r⟩ := p
  obtain ⟨l0, l1, l2, l3⟩ := l
  have HO2 : Hid (Calls Try.prog 28 #[.pointer (some ⟨bb, 0, none⟩), .string name, .string holder, .int .i64 now] w fun e w' => e = .returned (.tuple #[.agg #[.string l0, .string l1, .int .i64 l2, .int .i64 l3], .int .i64 r]) ∧ Below w.heap.size w w') := HO.out
  clear HO
  by_cases h0 : r = 0
  · subst h0
    have HT2 := Lib.hid (HT.out.trans (if_pos rfl))
    clear HT
    dsimp only at HT2
    go_enter Try.func18, Try.ntmps18
    go_wp2_with fail
    refine (HR.out _).mono ?_
    rintro e w1 ⟨rfl, rfl⟩
    go_wp2_with fail
    refine HO2.out.mono ?_
    rintro e w1 ⟨rfl, hb1⟩
    have hz := hb1.size
    have sb : bb < w1.heap.size := by omega
    have cb : w1.cell? ⟨bb, 0, none⟩ = some (.map (some bm)) := (hb1.cell (p := ⟨bb, 0, none⟩) s0).trans c0
    have HW1 := Lib.hid hb1
    clear hb1
    go_wp2_with fail
    obtain ⟨w2, hrun2, hown2, hturn2⟩ := MapIs.store (w := (w1.alloc (.cells #[.string l0, .string l1, .int .i64 now, .int .i64 l3] 34)).drew) (MapIs.below HM.out ((HW1.out.alloc (by omega) _).drew)) strKeyed Try.underlying44 HL.out (val := (.agg #[.string l0, .string l1, .int .i64 now, .int .i64 l3])) HK.out
    have Hown2 := Lib.hid hown2
    have Hturn2 := Lib.hid hturn2
    clear hown2 hturn2
    go_region
    go_wp2_with fail
    go_ret
    exact give_done (l := ⟨l0, l1, now, l3⟩) HB.out ((HW1.out.alloc (by omega) _).drew) Hown2.out Hturn2.out HT2.out
  · have HT2 := Lib.hid (HT.out.trans (if_neg h0))
    clear HT
    dsimp only at HT2
    have hd : (r == 0) = false := beq_eq_false_iff_ne.2 h0
    go_enter Try.func18, Try.ntmps18
    go_wp2_with fail
    refine (HR.out _).mono ?_
    rintro e w1 ⟨rfl, rfl⟩
    go_wp2_with fail
    refine HO2.out.mono ?_
    rintro e w1 ⟨rfl, hb1⟩
    have hz := hb1.size
    have HW1 := Lib.hid hb1
    clear hb1
    go_wp2_with fail
    go_ret
    exact give_same HB.out HT2.out (HW1.out.alloc (by omega) _)

theorem give_any (bb bm : Nat) (b : Bd) (name holder : ByteArray) (now : Int) (w : World) (hB : BoardAt w bb bm b) (hn : name.size ≤ maxLen) (h512 : b.n ≤ 512) :
    Calls Try.prog 18 #[.pointer (some ⟨bb, 0, none⟩), .string name, .string holder, .int .i64 now] w (GivePost bb bm b name holder now w) := by
  by_cases hr : rightOf name holder now 1 = 0
  · exact give_own bb bm b name holder now w hB hr hn h512
  · exact give_err bb bm b name holder now _ w hB rfl hr

/-! ### the chapter's example -/

def ex0 : Bd := ⟨0, fun _ => none⟩
def sl : ByteArray := ⟨#[108]⟩
def sa : ByteArray := ⟨#[97]⟩
def sb : ByteArray := ⟨#[98]⟩
theorem ex1 : takeOf ex0 sl sa 5 10 = (⟨sl, sa, 15, 1⟩, 0, ex0.put ⟨sl, sa, 15, 1⟩) := by kernel_rfl
theorem ex2 : takeOf (ex0.put ⟨sl, sa, 15, 1⟩) sl sb 9 10 = (.zero, 12, ex0.put ⟨sl, sa, 15, 1⟩) := by kernel_rfl
theorem ex3 : (takeOf (ex0.put ⟨sl, sa, 15, 1⟩) sl sb 15 10).1 = ⟨sl, sb, 25, 2⟩ ∧ (takeOf (ex0.put ⟨sl, sa, 15, 1⟩) sl sb 15 10).2.1 = 0 := ⟨by kernel_rfl, by kernel_rfl⟩

theorem take_val {bb bm : Nat} {b : Bd} {name holder : ByteArray} {now ticks : Int} {w : World} {l : Lease} {r : Int} {b' : Bd} (hB : BoardAt w bb bm b) (hn : name.size ≤ maxLen) (h512 : b.n ≤ 512) (ht : takeOf b name holder now ticks = (l, r, b')) :
    Calls Try.prog 7 #[.pointer (some ⟨bb, 0, none⟩), .string name, .string holder, .int .i64 now, .int .i64 ticks] w fun e w' =>
      e = .returned (.tuple #[.agg #[.string l.name, .string l.holder, .int .i64 l.till, .int .i64 l.turns], .int .i64 r]) ∧ BoardAt w' bb bm b' ∧ Fr (fun k => k = bm) w w' := by
  refine (take_any bb bm b name holder now ticks w hB hn h512).mono fun e w' h => ?_
  unfold TakePost at h
  rw [ht] at h
  exact h

set_option maxRecDepth 100000 in
set_option maxHeartbeats 1000000 in
theorem lives36 (w : World) : Calls Try.prog 4 #[] w fun e w' => e = .returned (.bool true) ∧ Below w.heap.size w w' := by
  go_enter Try.func4, Try.ntmps4
  go_wp2_with fail
  refine (newBoard_any w).mono ?_
  rintro e w1 ⟨rfl, hw1⟩
  have hB : BoardAt w1 (w.heap.size + 1) w.heap.size ex0 := by rw [hw1]; exact BoardAt.made w
  have hb0 : Below w.heap.size w w1 := by rw [hw1]; exact ((Below.refl _ _).alloc (Nat.le_refl _) _).alloc (by simp) _
  have HB0 := Lib.hid hb0
  have HB := Lib.hid hB
  clear hw1 hB hb0
  go_wp2_with fail
  refine (take_val (l := ⟨⟨#[108]⟩, ⟨#[97]⟩, 15, 1⟩) (r := 0) HB.out (by decide) (by decide) ex1).mono ?_
  rintro e w2 ⟨rfl, hB2, hF2⟩
  have hz2 := hF2.size
  have HB2 := Lib.hid (hB2.fr ((Fr.refl (fun _ => False) w2).alloc (.cells #[.string ⟨#[108]⟩, .string ⟨#[97]⟩, .int .i64 15, .int .i64 1] 34)) id id)
  have HF2 := Lib.hid ((HB0.out.trans (hF2.below (B := w.heap.size) HB0.out.size (fun k hk => by rw [hk]; exact Nat.le_refl _))).alloc (by have := HB0.out.size; omega) (.cells #[.string ⟨#[108]⟩, .string ⟨#[97]⟩, .int .i64 15, .int .i64 1] 34))
  clear hB2 hF2
  go_wp2_with fail
  refine (take_val (l := ⟨⟨#[]⟩, ⟨#[]⟩, 0, 0⟩) (r := 12) HB2.out (by decide) (by decide) ex2).mono ?_
  rintro e w3 ⟨rfl, hB3, hF3⟩
  have hz3 := hF3.size
  have HB3 := Lib.hid (hB3.fr ((Fr.refl (fun _ => False) w3).alloc (.cells #[.string ⟨#[]⟩, .string ⟨#[]⟩, .int .i64 0, .int .i64 0] 34)) id id)
  have HF3 := Lib.hid ((HF2.out.trans (hF3.below (B := w.heap.size) HF2.out.size (fun k hk => by rw [hk]; exact Nat.le_refl _))).alloc (by have := HF2.out.size; omega) (.cells #[.string ⟨#[]⟩, .string ⟨#[]⟩, .int .i64 0, .int .i64 0] 34))
  clear hB3 hF3
  go_wp2_with fail
  refine (take_val (l := ⟨⟨#[108]⟩, ⟨#[98]⟩, 25, 2⟩) (r := 0) HB3.out (by decide) (by decide) (Prod.ext ex3.1 (Prod.ext ex3.2 rfl))).mono ?_
  rintro e w4 ⟨rfl, hB4, hF4⟩
  have HF4 := Lib.hid ((HF3.out.trans (hF4.below (B := w.heap.size) HF3.out.size (fun k hk => by rw [hk]; exact Nat.le_refl _))).alloc (by have := hF4.size; have := HF3.out.size; omega) (.cells #[.string ⟨#[108]⟩, .string ⟨#[98]⟩, .int .i64 25, .int .i64 2] 34))
  clear hB4 hF4
  go_wp2_with fail
  go_ret
  exact ⟨rfl, HF4.out⟩
end Go.Proofs.Ytcgfjbbdadjegaa
