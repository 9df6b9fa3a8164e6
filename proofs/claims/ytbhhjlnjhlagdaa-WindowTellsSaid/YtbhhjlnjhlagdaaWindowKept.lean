/- The contract of the law's kept. Condition: the slice reads; the memory lies in blocks of the call's own, empty. -/
import Derived.Test.YtbhhjlnjhlagdaaWindowWithin
namespace Go.Proofs.Ytbhhjlnjhlagdaa
open Go.ChangeShapes Go.WideShapes Go.ChangeAt Go.RowKit Go.Deep

def badB (a v : Int) : Bool := decide (a < 0 ∨ 4611686018427387904 < a ∨ v < 0)
def lastAt (out : List LNote) : Int := match out.getLast? with | some l => l.at_ | none => 0
def leftOf (out : List LNote) : List LNote := out.filter fun x => decide (lastAt out - x.at_ ≤ 1800)

theorem noteRes_len (xs : List Note) (a n : Int) : (noteRes xs a n).2.length ≤ xs.length + 1 := by
  unfold noteRes
  split
  · exact Nat.le_succ _
  · split
    · exact Nat.succ_le_succ (Nat.zero_le _)
    · split
      · exact Nat.le_succ _
      · split
        · simp only [List.length_append, List.length_dropLast, List.length_cons, List.length_nil]; omega
        · have := List.length_filter_le (fun x : Note => !decide (x.at_ < a - 1800)) (xs ++ [(⟨a, n, n⟩ : Note)])
          simpa using this

theorem accept_len (out : List LNote) (x : LNote) : (accept out x).length ≤ out.length + 1 := by
  unfold accept
  split
  · simp
  · exact Nat.le_succ _

theorem elemL : ElemOK Try.prog 55 61 2 16 := .mk' Try.underlying55 (by kernel_rfl) (by decide)
theorem oneL (a b : Int) (w : World) : (Instr.buildSlice 55 1 [(0, .agg #[.int .i64 a, .int .i64 b])].toArray).run Try.prog w = .ok (.slice (some ⟨w.heap.size, 0, none⟩) 1 1) (w.alloc (.cells #[.int .i64 a, .int .i64 b] 61)) := by kernel_rfl

theorem cell_keep {B : Nat} {w0 w : World} (hB : B = w0.heap.size) (h : Below B w0 w) : Keeps w0 w := by subst hB; exact Keeps.below h

theorem below_drawn {B : Nat} {w0 w : World} (h : Below B w0 w) (n : Nat) : Below B w0 (w.drewN n) := ⟨h.os, h.tape, h.output, h.size, h.block⟩

theorem owns_lt {w : World} {B : Nat} {e : TypeId} {size : Nat} {v : Value} {n : Nat} {xs : List Value} (h : w.ownsRow B e size v n xs) {k : Nat} (hk : v.ownBlock = some k) : k < w.heap.size ∧ B ≤ k := by
  rcases h.2 with ⟨rfl, _⟩ | ⟨g, cap, cur, rfl, hb, hh, r⟩
  · cases hk
  · cases hk
    exact ⟨(Array.getElem?_eq_some_iff.1 hh).1, hb⟩

theorem MemAt.lt {w : World} {B mb : Nat} {v : Value} {xs : List Note} (h : MemAt w B mb v xs) {k : Nat} (hk : foot mb v k) : k < w.heap.size ∧ B ≤ k := by
  rcases hk with rfl | hk
  · exact ⟨(Array.getElem?_eq_some_iff.1 h.blk).1, h.base⟩
  · exact owns_lt h.own hk

/-- The world's part of what holds at a note: the memory, the notes taken, and that they lie apart. -/
structure KW (w0 : World) (B mb : Nat) (w : World) (v : Value) (xs : List Note) (o : Value) (out : List LNote) : Prop where
  mem : MemAt w B mb v xs
  own : w.ownsRow B 61 2 o out.length (out.flatMap LNote.cells)
  dis : ∀ j, o.ownBlock = some j → ¬ foot mb v j
  below : Below B w0 w

theorem KW.noted {w0 : World} {B mb : Nat} {w w1 : World} {v v' : Value} {xs xs' : List Note} {o : Value} {out : List LNote} (h : KW w0 B mb w v xs o out) {X : Obj} {nq : Nat} (hB : B ≤ w.heap.size) (hM : MemAt w1 B mb v' xs')
    (hf : Fr (foot mb v) ((w.alloc X).drewN nq) w1) (hs : ∀ k, foot mb v' k → foot mb v k ∨ ((w.alloc X).drewN nq).heap.size ≤ k) : KW w0 B mb w1 v' xs' o out := by
  have e : ((w.alloc X).drewN nq).heap.size = w.heap.size + 1 := World.size_alloc ..
  have f2 : Fr (foot mb v) w w1 := (((Fr.refl (foot mb v) w).alloc X).drewN nq).trans hf (fun i hi => .inl hi)
  refine ⟨hM, owns_fr f2 h.own h.dis, fun j hj hk => ?_, h.below.trans (f2.below hB (fun k hk => (h.mem.lt hk).2))⟩
  rcases hs j hk with hk | hk
  · exact h.dis j hj hk
  · have := (owns_lt h.own hj).1
    omega

theorem KW.grown {w0 : World} {B mb : Nat} {w w1 : World} {v : Value} {xs : List Note} {o o' : Value} {out out' : List LNote} (h : KW w0 B mb w v xs o out) {X : Obj} (hB : B ≤ w.heap.size) (hg : (w.alloc X).grownBy w1 o.ownBlock)
    (ho : w1.ownsRow B 61 2 o' out'.length (out'.flatMap LNote.cells)) (hb : ∀ j, o'.ownBlock = some j → o.ownBlock = some j ∨ (w.alloc X).heap.size ≤ j) : KW w0 B mb w1 v xs o' out' := by
  have e : (w.alloc X).heap.size = w.heap.size + 1 := World.size_alloc ..
  have f1 : Fr (fun k => o.ownBlock = some k) (w.alloc X) w1 := Fr.grown hg (fun k hk => hk)
  have f2 : Fr (fun k => o.ownBlock = some k) w w1 := ((Fr.refl _ w).alloc X).trans f1 (fun i hi => .inl hi)
  refine ⟨h.mem.fr f2 (fun k hk hj => h.dis k hj hk), ho, fun j hj hk => ?_, h.below.trans (f2.below hB (fun k hk => (owns_lt h.own hk).2))⟩
  rcases hb j hj with hj | hj
  · exact h.dis j hj hk
  · have := (h.mem.lt hk).1
    omega

set_option maxRecDepth 100000 in
set_option maxHeartbeats 4000000 in
theorem kept_any (mb : Nat) (v : Value) (ls : List LNote) (ao : Option Addr) (n cap : Nat) (w0 w : World) (hS : SlR (Flat LNote.cells) 2 w0 ao n cap ls) (hb : Below w0.heap.size w0 w) (hn : n ≤ 100) (hM : MemAt w w0.heap.size mb v []) :
    Calls Try.prog 34 #[.pointer (some ⟨mb, 0, none⟩), .slice ao n cap] w fun e w' => ∃ al nl cl v' xs, e = .returned (.tuple #[.slice al nl cl, .bool true]) ∧ Mem (ls.foldl accept []) xs ∧ MemAt w' w0.heap.size mb v' xs ∧ xs.length ≤ 100 ∧
      SlR (Flat LNote.cells) 2 w' al nl cl (leftOf (ls.foldl accept [])) ∧ Below w0.heap.size w0 w' := by
  have hf : ∀ x : LNote, x.cells.length = 2 := fun _ => rfl
  have hcm := hS.hmax
  have hlc := hS.hcap
  unfold maxLen at hcm
  have Hm := Lib.hid hS.hlen
  obtain ⟨B, hB⟩ : ∃ B, w0.heap.size = B := ⟨_, rfl⟩
  rw [hB] at hb hM ⊢
  have HB := Lib.hid hB.symm
  have hBw : B ≤ w.heap.size := by rw [← hB]; exact hb.size
  clear hB
  go_enter Try.func34, Try.ntmps34
  go_wp2_with fail
  go_loopw [6, 15] (fun o i wr => ∃ (k : Nat) (v : Value) (xs : List Note), k ≤ n ∧ i = .int .i64 k ∧ Hid (Mem ((ls.take k).foldl accept []) xs ∧ xs.length ≤ k ∧ ((ls.take k).foldl accept []).length ≤ k ∧ KW w0 B mb wr v xs o ((ls.take k).foldl accept []))) (fun _ i _ => n - (intOf i).toNat)
  case atStart => exact ⟨0, v, [], Nat.zero_le _, rfl, Mem.nil, Nat.le_refl _, Nat.le_refl _, hM, World.ownsRow_nil _ _ _ _, fun j h => (by cases h), hb⟩
  case round =>
    obtain ⟨k, v, xs, hk, rfl, hI⟩ := hrel
    by_cases hlt : k < n
    · obtain ⟨b, off, rfl⟩ := hS.ptr (by decide) (by omega)
      have kx : k < ls.length := by rw [Hm.out]; exact hlt
      have hc := (hS.flatKeeps (cell_keep HB.out hI.out.2.2.2.below)).flat kx
      have c1 := hc 0 _ rfl
      have c2 := hc 1 _ rfl
      rw [Nat.add_zero] at c1
      obtain ⟨out, ho⟩ : ∃ out, (ls.take k).foldl accept [] = out := ⟨_, rfl⟩
      have hft : (ls.take (k + 1)).foldl accept [] = accept out ls[k] := by rw [foldl_take_succ accept [] ls k kx, ho]
      obtain ⟨x, hx⟩ : ∃ x, ls[k] = x := ⟨_, rfl⟩
      rw [hx] at c1 c2 hft
      have Hft := Lib.hid hft
      rw [ho] at hI
      clear hc hx hft ho
      obtain ⟨a, q⟩ := x
      dsimp only at c1 c2
      obtain ⟨wn, hwn⟩ : ∃ wn, wantOf out ⟨a, q⟩ = wn := ⟨_, rfl⟩
      have Hwn := Lib.hid hwn
      clear hwn
      obtain ⟨wq, rfl⟩ : ∃ wq : World, wq = wr := ⟨_, rfl⟩
      go_upto_region 6 with (fail)
      go_cut [31] (fun s wx => s = .bool (badB a q) ∧ wx = wq.alloc (.cells #[.int .i64 a, .int .i64 q] 61))
      case first =>
        rcases (show a < 0 ∨ (0 ≤ a ∧ 4611686018427387904 < a) ∨ (0 ≤ a ∧ a ≤ 4611686018427387904 ∧ q < 0) ∨ (0 ≤ a ∧ a ≤ 4611686018427387904 ∧ 0 ≤ q) by omega) with i1 | ⟨i1, i2⟩ | ⟨i1, i2, i3⟩ | ⟨i1, i2, i3⟩
        · have hbd : Hid (badB a q = true) := by show _ = true; unfold badB; exact decide_eq_true (by omega)
          go_wp2
          go_meet
          exact ⟨by rw [hbd.out], rfl⟩
        · have hbd : Hid (badB a q = true) := by show _ = true; unfold badB; exact decide_eq_true (by omega)
          go_wp2
          go_meet
          exact ⟨by rw [hbd.out], rfl⟩
        · have hbd : Hid (badB a q = true) := by show _ = true; unfold badB; exact decide_eq_true (by omega)
          go_wp2
          go_meet
          exact ⟨by rw [hbd.out], rfl⟩
        · have hbd : Hid (badB a q = false) := by show _ = false; unfold badB; exact decide_eq_false (by omega)
          go_wp2
          go_meet
          exact ⟨by rw [hbd.out]; congr 1; simp; omega, rfl⟩
      case rest =>
      obtain ⟨rfl, rfl⟩ := hcut
      go_upto_if 31 with (fail)
      go_cut [9] (fun s wx => s = .int .i64 wn ∧ ∃ nq, wx = (wq.alloc (.cells #[.int .i64 a, .int .i64 q] 61)).drewN nq)
      case first =>
        obtain ⟨m, hm⟩ : ∃ m, out.length = m := ⟨_, rfl⟩
        obtain ⟨a2, cap2, ho2, hS2, -⟩ := SlR.of_owns hI.out.2.2.2.own rfl hf
        have hcm2 := hS2.hmax
        have hlc2 := hS2.hcap
        unfold maxLen at hcm2
        have hml := hI.out.2.2.1
        rw [hm] at ho2 hS2 hlc2 hml
        subst ho2
        have Hmm := Lib.hid hm
        clear hm
        cases hbd : badB a q
        · have hgood : Hid (0 ≤ a ∧ a ≤ 4611686018427387904 ∧ 0 ≤ q) := by
            unfold badB at hbd
            have := of_decide_eq_false hbd
            show 0 ≤ a ∧ a ≤ 4611686018427387904 ∧ 0 ≤ q
            omega
          by_cases hm0 : 0 < m
          · obtain ⟨b2, o2, rfl⟩ := hS2.ptr (by decide) hm0
            have kx2 : m - 1 < out.length := by rw [Hmm.out]; omega
            have d0 := hS2.flat0 kx2 _ rfl
            obtain ⟨y, hy⟩ : ∃ y, out[m - 1] = y := ⟨_, rfl⟩
            rw [hy] at d0
            have hlast : Hid (out.getLast? = some y) := by
              show _ = _
              rw [List.getLast?_eq_getElem?, Hmm.out, List.getElem?_eq_getElem kx2, hy]
            have hwant : Hid (wn = if a < y.at_ then 13 else 0) := by
              show _ = _
              rw [← Hwn.out]
              unfold wantOf
              rw [if_neg (by have := hgood.out; dsimp only; omega), hlast.out]
            clear hy
            have hb2 := blk d0
            have hd1 : decide (0 < m) = true := decide_eq_true hm0
            have hd2 : (1 : Int) ≤ (m : Int) := by omega
            have hd3 : (m : Int) - 1 < (m : Int) := by omega
            have hd4 : ((m : Int) - 1).toNat = m - 1 := by omega
            have hd5 : IntKind.i64.wrap ((m : Int) - 1) = (m : Int) - 1 := IntWalk.i64_in _ (by omega)
            by_cases hya : a < y.at_
            · have hw := Lib.hid (hwant.out.trans (if_pos hya))
              go_wp2
              go_quiet (fail)
              go_wp2
              go_meet
              exact ⟨by rw [hw.out], _, rfl⟩
            · have hw := Lib.hid (hwant.out.trans (if_neg hya))
              have hdy : decide (a < y.at_) = false := decide_eq_false hya
              go_wp2
              go_quiet (fail)
              go_wp2
              go_meet
              exact ⟨by rw [hw.out], _, rfl⟩
          · have hw : Hid (wn = 0) := by
              show _ = _
              rw [← Hwn.out]
              unfold wantOf
              have : out = [] := List.eq_nil_of_length_eq_zero (by rw [Hmm.out]; omega)
              rw [if_neg (by have := hgood.out; dsimp only; omega), this]
              rfl
            have hmz : m = 0 := by omega
            subst hmz
            go_wp2
            go_quiet (fail)
            go_wp2
            go_meet
            exact ⟨by rw [hw.out], _, rfl⟩
        · have hw : Hid (wn = 1) := by
            show _ = _
            rw [← Hwn.out]
            unfold wantOf
            unfold badB at hbd
            have := of_decide_eq_true hbd
            rw [if_pos this]
          go_wp2
          go_meet
          exact ⟨by rw [hw.out], 0, rfl⟩
      case rest =>
        obtain ⟨rfl, nq, rfl⟩ := hcut
        have HQ := Lib.hid (hI.out.1.want ⟨a, q⟩)
        have hBq : B ≤ wq.heap.size := (by rw [HB.out]; exact hI.out.2.2.2.below.size)
        have HN := Lib.hid (note_any B mb v xs a q ((wq.alloc (.cells #[.int .i64 a, .int .i64 q] 61)).drewN nq) (hI.out.2.2.2.mem.fr (((Fr.refl (fun _ => False) wq).alloc _).drewN nq) (fun _ _ h => h)) (by show B ≤ (wq.alloc _).heap.size; rw [World.size_alloc]; omega) (by have := hI.out.2.1; omega))
        have hML := hI.out.2.2.1
        go_upto_region 12 with (go_wp2_with fail; refine HN.out.mono ?_; rintro e w1 ⟨rfl, v', hM', hF', hS'⟩; rw [HQ.out, Hwn.out])
        have HK := Lib.hid (hI.out.2.2.2.noted hBq hM' hF' hS')
        have hnf : ¬ foot mb v wq.heap.size := fun h => by have := (hI.out.2.2.2.mem.lt h).1; omega
        have v0 := hF'.cell (p := ⟨wq.heap.size, 0, none⟩) (v := .int .i64 a) (cell_of_row (wq.alloc _) _ 0 _ _ (0, 0) (heap_alloc_new wq (.cells #[.int .i64 a, .int .i64 q] 61))) hnf
        have v1 := hF'.cell (p := ⟨wq.heap.size, 1, none⟩) (v := .int .i64 q) (cell_of_row (wq.alloc _) _ 1 _ _ (0, 0) (heap_alloc_new wq (.cells #[.int .i64 a, .int .i64 q] 61))) hnf
        have hBw1 : B ≤ w1.heap.size := by rw [HB.out]; exact HK.out.below.size
        have hNL := noteRes_len xs a q
        have hXL := hI.out.2.1
        have HNX := Lib.hid (hI.out.1.next ⟨a, q⟩)
        obtain ⟨xs', hxs'⟩ : ∃ xs', (noteRes xs a q).2 = xs' := ⟨_, rfl⟩
        rw [hxs'] at hNL HK HNX
        obtain ⟨wp, rfl⟩ : ∃ wp : World, wp = w1 := ⟨_, rfl⟩
        clear hxs' hM' hF' hS' HN HQ hI hnf
        by_cases hw0 : wn = 0
        · have hac : Hid (accept out ⟨a, q⟩ = out ++ [⟨a, q⟩]) := by show _ = _; unfold accept; rw [if_pos (Hwn.out.trans hw0)]
          subst hw0
          go_wp2_with ((with_reducible refine at_slot 59 ?_); go_must (refine wpList_buildSlice rfl 55 1 _ rfl [(0, .agg #[.int .i64 a, .int .i64 q])] rfl _ _ (oneL _ _) ?_; refine wpList_append_new elemL rfl _ _ rfl B _ out.length _ rfl (by exact HK.out.own.alloc _) (by rw [World.size_alloc]; omega) wp.heap.size _ rfl (by exact heap_alloc_new wp _) rfl rfl (by unfold maxLen; omega) (by omega) ?_; intro g' cap' w2 hown2 hgr2 hfr2; have HK2 := Lib.hid (HK.out.grown (out' := out ++ [⟨a, q⟩]) hBw1 hgr2 (by simpa [LNote.cells] using hown2) (fun j hj => by cases hj; exact hfr2)); clear hown2 hgr2 hfr2))
          go_roundw
          case rel => exact ⟨k + 1, v', xs', by omega, by go_num, by show _ ∧ _; rw [Hft.out, hac.out]; exact ⟨hac.out ▸ HNX.out, by omega, by simp; omega, HK2.out⟩⟩
          case measure => simp [intOf]; omega
        · have hac : Hid (accept out ⟨a, q⟩ = out) := by show _ = _; unfold accept; rw [if_neg (fun h => hw0 (Hwn.out.symm.trans h))]
          have hwb : (wn == 0) = false := by rw [beq_eq_false_iff_ne]; exact hw0
          clear hw0
          go_wp2
          go_roundw
          case rel => exact ⟨k + 1, v', xs', by omega, by go_num, by show _ ∧ _; rw [Hft.out, hac.out]; exact ⟨hac.out ▸ HNX.out, by omega, by omega, HK.out⟩⟩
          case measure => simp [intOf]; omega
    · have hkn : k = n := by omega
      have Ht : Hid (ls.take k = ls) := List.take_of_length_le (by rw [Hm.out]; omega)
      rw [Ht.out] at hI
      obtain ⟨out, hout⟩ : ∃ out, ls.foldl accept [] = out := ⟨_, rfl⟩
      rw [hout] at hI
      have Hout := Lib.hid hout
      obtain ⟨m, hm⟩ : ∃ m, out.length = m := ⟨_, rfl⟩
      obtain ⟨a2, cap2, ho2, hS2, -⟩ := SlR.of_owns hI.out.2.2.2.own rfl hf
      have hcm2 := hS2.hmax
      have hlc2 := hS2.hcap
      unfold maxLen at hcm2
      have hml := hI.out.2.2.1
      rw [hm] at ho2 hS2 hlc2 hml
      subst ho2
      have Hmm := Lib.hid hm
      have Hgood := Lib.hid hI.out.1.good
      obtain ⟨wq, rfl⟩ : ∃ wq : World, wq = wr := ⟨_, rfl⟩
      obtain ⟨L, hL⟩ : ∃ L, lastAt out = L := ⟨_, rfl⟩
      have HLe : Hid (∀ p : LNote → Bool, p = (fun x => decide (L - x.at_ ≤ 1800)) → leftOf out = out.filter p) := by show ∀ _, _; intro p hp; unfold leftOf; rw [hL, hp]
      have HLL := Lib.hid hL
      clear hL hm hout Ht hkn
      obtain ⟨p, hp⟩ : ∃ p : LNote → Bool, p = (fun x => decide (L - x.at_ ≤ 1800)) := ⟨_, rfl⟩
      have HP := Lib.hid hp
      have HLe := Lib.hid (HLe.out p hp)
      clear hp
      go_wp2_with fail
      go_loopw [10, 64] (fun o i wr => ∃ j : Nat, j ≤ m ∧ i = .int .i64 j ∧ Hid (wr.ownsRow wq.heap.size 61 2 o ((out.take j).filter p).length (((out.take j).filter p).flatMap LNote.cells)) ∧ Below wq.heap.size wq wr) (fun _ i _ => m - (intOf i).toNat)
      case atStart => exact ⟨0, Nat.zero_le _, rfl, World.ownsRow_nil _ _ _ _, Below.refl _ _⟩
      case round =>
        obtain ⟨j, hj, rfl, hown, hb2⟩ := hrel
        by_cases hlt2 : j < m
        · obtain ⟨b2, off2, rfl⟩ := hS2.ptr (by decide) (by omega)
          have kx : j < out.length := by rw [Hmm.out]; exact hlt2
          have kl : m - 1 < out.length := by rw [Hmm.out]; omega
          have hc := (hS2.flatKeeps (Keeps.below hb2)).flat kx
          have hd := (hS2.flatKeeps (Keeps.below hb2)).flat kl
          have c1 := hc 0 _ rfl
          have c2 := hc 1 _ rfl
          have d1 := hd 0 _ rfl
          rw [Nat.add_zero] at c1 d1
          have hg1 := Hgood.out out[j] (List.getElem_mem kx)
          have hg2 := Hgood.out out[m - 1] (List.getElem_mem kl)
          have hlast : out[m - 1].at_ = L := by
            rw [← HLL.out]
            unfold lastAt
            rw [List.getLast?_eq_getElem?, Hmm.out, List.getElem?_eq_getElem kl]
          rw [hlast] at d1 hg2
          have Hft := Lib.hid (filter_take_succ p out j kx)
          have hfl : ((out.take j).filter p).length ≤ 100 := by
            have h1 := List.length_filter_le p (out.take j)
            rw [List.length_take] at h1
            omega
          obtain ⟨x, hx⟩ : ∃ x, out[j] = x := ⟨_, rfl⟩
          rw [hx] at c1 c2 hg1 Hft
          obtain ⟨a, q⟩ := x
          dsimp only at c1 c2 hg1
          have hb3 := blk d1
          have hpx : Hid (p ⟨a, q⟩ = decide (L - a ≤ 1800)) := by show _ = _; rw [HP.out]
          have Hb := Lib.hid hb2
          have Hown := Lib.hid hown
          have hsz := hb2.size
          have Hb2 := Lib.hid (hb2.alloc hb2.size (.cells #[.int .i64 a, .int .i64 q] 61))
          obtain ⟨wp, rfl⟩ : ∃ wp : World, wp = wr := ⟨_, rfl⟩
          clear hc hd hx hlast hb2 hown
          have hd2 : (1 : Int) ≤ (m : Int) := by omega
          have hd3 : (m : Int) - 1 < (m : Int) := by omega
          have hd4 : ((m : Int) - 1).toNat = m - 1 := by omega
          have hd5 : IntKind.i64.wrap ((m : Int) - 1) = (m : Int) - 1 := IntWalk.i64_in _ (by omega)
          have hd6 : IntKind.i64.wrap (L - a) = L - a := IntWalk.i64_in _ (by omega)
          clear hg1 hg2
          by_cases ht : L - a ≤ 1800
          · have hp1 := Lib.hid (hpx.out.trans (decide_eq_true ht))
            have ht1 : decide (L - a ≤ 1800) = true := decide_eq_true ht
            go_wp2
            go_quiet (fail)
            go_wp2_with ((with_reducible refine at_slot 81 ?_); go_must (refine wpList_buildSlice rfl 55 1 _ rfl [(0, .agg #[.int .i64 a, .int .i64 q])] rfl _ _ (oneL _ _) ?_; refine wpList_append_one elemL rfl _ _ rfl wq _ wq.heap.size _ _ ((out.take j).filter p).length _ rfl (by exact Hown.out.alloc _) (by exact below_drawn Hb2.out _) (by simp; omega) rfl rfl rfl (by unfold maxLen; omega) (by omega) ?_; intro v2 w2 hown2 hb2 _; have Ho2 := Lib.hid hown2; have Hb3 := Lib.hid hb2; clear hown2 hb2))
            go_roundw
            case rel => exact ⟨j + 1, by omega, by go_num, by show World.ownsRow _ _ _ _ _ _ _; have h := Ho2.out; rw [Hft.out, if_pos hp1.out]; simpa [LNote.cells] using h, Hb3.out⟩
            case measure => simp [intOf]; omega
          · have hp1 := Lib.hid (hpx.out.trans (decide_eq_false ht))
            have ht1 : decide (L - a ≤ 1800) = false := decide_eq_false ht
            go_wp2
            go_quiet (fail)
            go_wp2
            go_roundw
            case rel => exact ⟨j + 1, by omega, by go_num, by show World.ownsRow _ _ _ _ _ _ _; have h := Hown.out; rw [Hft.out, if_neg (by rw [hp1.out]; decide), List.append_nil]; exact h.alloc _, below_drawn Hb2.out _⟩
            case measure => simp [intOf]; omega
        · have hjm : j = m := by omega
          have Hown := Lib.hid hown
          have Hb := Lib.hid hb2
          have Ht : Hid (out.take j = out) := List.take_of_length_le (by rw [Hmm.out]; omega)
          clear hown hb2 hjm
          go_wp2
          go_ret2
          have h := Hown.out
          rw [Ht.out] at h
          obtain ⟨ao3, cap3, hv3, hS3, -⟩ := SlR.of_owns h rfl hf
          subst hv3
          rw [Hout.out, HLe.out]
          have hbq : B ≤ wq.heap.size := by rw [HB.out]; exact hI.out.2.2.2.below.size
          exact ⟨_, _, _, v, xs, rfl, hI.out.1, hI.out.2.2.2.mem.fr (Fr.of_below Hb.out (fun _ => False)) (fun _ _ h => h), by have := hI.out.2.1; omega, hS3, hI.out.2.2.2.below.trans (Hb.out.mono hbq)⟩
end Go.Proofs.Ytbhhjlnjhlagdaa
