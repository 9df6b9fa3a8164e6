/- Contracts of ring.Ring: New, Len, at, drop, Last. Condition: the ring lies in blocks of the call's own. -/
import Derived.Test.YtoamjihchmokcaaRows
import Derived.Test.YtoamjihchmokcaaCellsM
import Derived.StillTailTactics
namespace Go.Proofs.Ytoamjihchmokcaa
open Go.ChangeShapes Go.WideShapes Go.ChangeAt Go.RowKit Go.Deep

structure Sm where
  at0 : Int
  v : Int
instance : Inhabited Sm := ⟨⟨0, 0⟩⟩
def Sm.cells (x : Sm) : List Value := [.int .i64 x.at0, .int .i64 x.v]
def Sm.zero : Sm := ⟨0, 0⟩

def capOf (w : World) (b : Nat) : Nat := match w.heap[b]? with
  | some (.cells cs _ _) => (match cs[0]? with | some (Value.slice _ _ c) => c | _ => 0)
  | _ => 0
def slackOf (w : World) (b k : Nat) : List Value := match w.heap[b]? with
  | some (.cells cs _ _) => cs.toList.drop (k * 2)
  | _ => []
theorem capOf_of {w : World} {b : Nat} {p : Option Addr} {m c : Nat} {cs : List Value} {t : TypeId} {fr : Nat × Nat} (h : w.heap[b]? = some (.cells (.slice p m c :: cs).toArray t fr)) : capOf w b = c := by unfold capOf; rw [h]; rfl
theorem slackOf_of {w : World} {b k : Nat} {xs sl : List Value} {t : TypeId} {fr : Nat × Nat} (h : w.heap[b]? = some (.cells (xs ++ sl).toArray t fr)) (hl : xs.length = k * 2) : slackOf w b k = sl := by
  unfold slackOf
  rw [h]
  exact List.drop_left' hl
structure RingAt (w : World) (rb lb most first n : Nat) (buf : List Sm) : Prop where
  blk : w.heap[rb]? = some (.cells #[.slice (some ⟨lb, 0, none⟩) most (capOf w rb), .int .i64 first, .int .i64 n] 91 (0, 0))
  row : w.heap[lb]? = some (.cells (buf.flatMap Sm.cells ++ slackOf w lb buf.length).toArray 64 (0, 0))
  len : buf.length = most
  hf : first < most
  hn : n ≤ most
  hm : most ≤ 32
  ne : rb ≠ lb
  cap : most ≤ capOf w rb ∧ capOf w rb ≤ maxLen
theorem RingAt.mk' {w : World} {rb lb most first n c : Nat} {buf : List Sm} {sl : List Value} (blk : w.heap[rb]? = some (.cells #[.slice (some ⟨lb, 0, none⟩) most c, .int .i64 first, .int .i64 n] 91 (0, 0)))
    (row : w.heap[lb]? = some (.cells (buf.flatMap Sm.cells ++ sl).toArray 64 (0, 0))) (len : buf.length = most) (hf : first < most) (hn : n ≤ most) (hm : most ≤ 32) (ne : rb ≠ lb) (cap : most ≤ c ∧ c ≤ maxLen) : RingAt w rb lb most first n buf := by
  have hc : capOf w rb = c := capOf_of blk
  have hs : slackOf w lb buf.length = sl := slackOf_of row (flatMap_len (f := Sm.cells) (sz := 2) (fun _ => rfl) buf)
  exact ⟨by rw [hc]; exact blk, by rw [hs]; exact row, len, hf, hn, hm, ne, by rw [hc]; exact cap⟩
theorem RingAt.blk' {w : World} {rb lb most first n : Nat} {buf : List Sm} (h : RingAt w rb lb most first n buf) : ∃ c, w.heap[rb]? = some (.cells #[.slice (some ⟨lb, 0, none⟩) most c, .int .i64 first, .int .i64 n] 91 (0, 0)) := ⟨_, h.blk⟩

def ringL (buf : List Sm) (first n : Nat) : List Sm := (List.range n).map fun i => buf[(first + i) % buf.length]!

theorem RingAt.fr {S : Nat → Prop} {w w' : World} {rb lb most first n : Nat} {buf : List Sm} (h : RingAt w rb lb most first n buf) (hf : Fr S w w') (h1 : ¬ S rb) (h2 : ¬ S lb) : RingAt w' rb lb most first n buf :=
  .mk' (hf.heap h.blk h1) (hf.heap h.row h2) h.len h.hf h.hn h.hm h.ne h.cap
theorem RingAt.below {w w' : World} {rb lb most first n : Nat} {buf : List Sm} (h : RingAt w rb lb most first n buf) (hb : Below w.heap.size w w') : RingAt w' rb lb most first n buf := h.fr (Fr.of_below hb (fun _ => False)) id id
theorem RingAt.lt {w : World} {rb lb most first n : Nat} {buf : List Sm} (h : RingAt w rb lb most first n buf) : rb < w.heap.size ∧ lb < w.heap.size := ⟨(Array.getElem?_eq_some_iff.1 h.blk).1, (Array.getElem?_eq_some_iff.1 h.row).1⟩

theorem cells3 {w : World} {b : Nat} {t : TypeId} {x0 x1 x2 : Value} {fr : Nat × Nat} (h : w.heap[b]? = some (.cells #[x0, x1, x2] t fr)) :
    w.cell? ⟨b, 0, none⟩ = some x0 ∧ w.cell? ⟨b, 1, none⟩ = some x1 ∧ w.cell? ⟨b, 2, none⟩ = some x2 :=
  ⟨cell_of_row w b 0 _ t _ h, cell_of_row w b 1 _ t _ h, cell_of_row w b 2 _ t _ h⟩

theorem RingAt.cell {w : World} {rb lb most first n : Nat} {buf : List Sm} (h : RingAt w rb lb most first n buf) {i : Nat} (hi : i < buf.length) :
    w.cell? ⟨lb, i * 2, none⟩ = some (.int .i64 buf[i].at0) ∧ w.cell? ⟨lb, i * 2 + 1, none⟩ = some (.int .i64 buf[i].v) := by
  constructor
  · rw [cell_of_row w lb _ _ _ _ h.row]
    have hl := flatMap_len (f := Sm.cells) (sz := 2) (fun _ => rfl) buf
    rw [List.getElem?_toArray, List.getElem?_append_left (by omega)]
    have := flatMap_get (f := Sm.cells) (sz := 2) (fun _ => rfl) buf i 0 hi (by decide)
    rw [Nat.add_zero] at this
    rw [this]; rfl
  · rw [cell_of_row w lb _ _ _ _ h.row]
    have hl := flatMap_len (f := Sm.cells) (sz := 2) (fun _ => rfl) buf
    rw [List.getElem?_toArray, List.getElem?_append_left (by omega), flatMap_get (f := Sm.cells) (sz := 2) (fun _ => rfl) buf i 1 hi (by decide)]; rfl


theorem lenNil_any (w : World) : Calls Try.prog 45 #[.pointer none] w fun e w' => e = .returned (.int .i64 0) ∧ w = w' := by
  go_enter Try.func45, Try.ntmps45
  go_wp2
  go_ret
  exact ⟨rfl, rfl⟩

theorem ringLen_any (rb lb most first n : Nat) (buf : List Sm) (w : World) (h : RingAt w rb lb most first n buf) :
    Calls Try.prog 45 #[.pointer (some ⟨rb, 0, none⟩)] w fun e w' => e = .returned (.int .i64 n) ∧ w = w' := by
  obtain ⟨cp, hcp⟩ := h.blk'
  obtain ⟨c0, c1, c2⟩ := cells3 hcp
  clear hcp
  clear h
  go_enter Try.func45, Try.ntmps45
  go_wp2
  go_ret
  exact ⟨rfl, rfl⟩

theorem at_any (rb lb most first n i : Nat) (buf : List Sm) (w : World) (h : RingAt w rb lb most first n buf) (hi : i ≤ 32) :
    Calls Try.prog 38 #[.pointer (some ⟨rb, 0, none⟩), .int .i64 i] w fun e w' => e = .returned (.int .i64 (((first + i) % most : Nat) : Int)) ∧ ∃ q, w' = w.drewN q := by
  obtain ⟨cp, hcp⟩ := h.blk'
  obtain ⟨c0, c1, c2⟩ := cells3 hcp
  clear hcp
  have h1 := h.hf
  have h2 := h.hm
  clear h
  go_enter Try.func38, Try.ntmps38
  go_wp2_with fail
  go_quiet (fail)
  go_wp2_with fail
  go_ret
  exact ⟨ret_int (by push_cast; rfl), _, rfl⟩


theorem zeroRow (most : Nat) : (List.replicate most Sm.zero).flatMap Sm.cells = List.replicate (most * 2) (.int .i64 0) := by
  induction most with
  | zero => rfl
  | succ m ih =>
    rw [List.replicate_succ, List.flatMap_cons, ih, show (m + 1) * 2 = m * 2 + 1 + 1 by omega, List.replicate_succ, List.replicate_succ]
    rfl

theorem aggSm : AggOK Try.prog 64 2 := .mk' (by kernel_rfl) (by kernel_rfl)
theorem infoSm : (Try.prog.info? 64).map (fun i => (i.zero, i.size, i.bytes)) = some (some (.agg #[.int .i64 0, .int .i64 0]), 2, 16) := by kernel_rfl
theorem buildRing (p : Option Addr) (m : Nat) (w : World) : (Instr.build 91 [(0, .slice p m m)].toArray).run Try.prog w = .ok (.agg #[.slice p m m, .int .i64 0, .int .i64 0]) w := by kernel_rfl

theorem made_zero (n : Nat) : (madeCells (Value.agg #[.int .i64 0, .int .i64 0]).cells (n * 2)).toList = (List.replicate n Sm.zero).flatMap Sm.cells := by
  rw [zeroRow]
  apply List.ext_getElem
  · rw [Array.length_toList, size_madeCells]; simp
  · intro i h1 h2
    rw [List.getElem_replicate]
    simp [madeCells, Value.cells]
    rcases (show i % 2 = 0 ∨ i % 2 = 1 by omega) with h | h <;> simp [h]

theorem own_full {w : World} {B e sz g n : Nat} {xs : List Value} (h : w.ownsRow B e sz (.slice (some ⟨g, 0, none⟩) n n) n xs) : w.heap[g]? = some (.cells xs.toArray e (0, 0)) := by
  obtain ⟨_, _, _, rest, hg, hl⟩ := owns_row h
  have h1 := h.1
  rw [List.length_append] at hl
  have : rest = [] := List.eq_nil_of_length_eq_zero (by omega)
  rw [this, List.append_nil] at hg
  exact hg

set_option maxRecDepth 100000 in
theorem ringNew_any (most : Nat) (w : World) (h1 : 1 ≤ most) (h2 : most ≤ 32) :
    Calls Try.prog 16 #[.int .i64 most] w fun e w' => ∃ rb, e = .returned (.tuple #[.pointer (some ⟨rb, 0, none⟩), .int .i64 0]) ∧ RingAt w' rb w.heap.size most 0 0 (List.replicate most Sm.zero) ∧ w.heap.size ≤ rb ∧ Below w.heap.size w w' := by
  obtain ⟨i0, hi, hz0, hz1, hz2⟩ := info_parts infoSm
  go_enter Try.func16, Try.ntmps16
  go_wp2_with (first
    | (at_make; go_must (refine wpList_make_full _ rfl _ _ 42 rfl w.heap.size 64 i0 _ 2 Try.underlying42 hi hz0 hz1 .i64 .i64 most most most rfl rfl rfl rfl (by rw [hz2]; omega) (by unfold maxLen; omega) (Nat.le_refl _) ?_; intro w1 hown1 hg1; have Hown1 := Lib.hid hown1; have Hg1 := Lib.hid hg1; clear hown1 hg1))
    | ((with_reducible refine at_slot 12 ?_); go_must (refine wpList_build rfl 91 _ rfl [(0, .slice (some ⟨w.heap.size, 0, none⟩) most most)] rfl _ (buildRing _ _) ?_)))
  go_ret2
  have hrow := own_full Hown1.out
  rw [made_zero] at hrow
  have hb1 : Below w.heap.size w w1 := (Below.refl _ w).grown Hg1.out (Nat.le_refl _) (fun _ h => by cases h)
  have hlt : w.heap.size < w1.heap.size := (Array.getElem?_eq_some_iff.1 hrow).1
  refine ⟨w1.heap.size, rfl, .mk' (sl := []) (heap_alloc_new w1 _) (by rw [List.append_nil]; exact (Below.heap_alloc _ _ _ hlt).trans hrow) List.length_replicate h1 (Nat.zero_le _) h2 (by omega) ⟨Nat.le_refl _, by unfold maxLen; omega⟩, hb1.size, hb1.alloc hb1.size _⟩


theorem Fr.set1 {S : Nat → Prop} {a b : World} (h : Fr S a b) {g j : Nat} (hg : S g) (v : Value) : Fr S a (b.setCell ⟨g, j, none⟩ v) := by
  have hB := (Below.refl 0 b).setCell (p := ⟨g, j, none⟩) (Nat.zero_le _) v
  exact ⟨hB.os.trans h.os, hB.tape.trans h.tape, hB.output.trans h.output, Nat.le_trans h.size hB.size, fun k hk hs => by
    rw [Below.heap_setCell _ _ _ _ (by rintro rfl; exact hs hg), h.block k hk hs]⟩

theorem RingAt.put {w : World} {rb lb most first n : Nat} {buf : List Sm} (h : RingAt w rb lb most first n buf) (q : Nat) (x : Sm) :
    RingAt (w.setRow lb ((buf.set q x).flatMap Sm.cells ++ slackOf w lb buf.length).toArray) rb lb most first n (buf.set q x) :=
  .mk' ((Fr.setRow (fun k => k = lb) w lb _ rfl).heap h.blk h.ne) (setRow_heap h.row) (by rw [List.length_set]; exact h.len) h.hf h.hn h.hm h.ne h.cap

theorem RingAt.set1 {w : World} {rb lb most first n : Nat} {buf : List Sm} (h : RingAt w rb lb most first n buf) {f2 : Nat} (hq : f2 < most) :
    RingAt (w.setCell ⟨rb, 1, none⟩ (.int .i64 f2)) rb lb most f2 n buf :=
  .mk' (row_setCell h.blk _) ((Below.heap_setCell _ _ _ _ h.ne.symm).trans h.row) h.len hq h.hn h.hm h.ne h.cap

theorem RingAt.set2 {w : World} {rb lb most first n : Nat} {buf : List Sm} (h : RingAt w rb lb most first n buf) {n2 : Nat} (hq : n2 ≤ most) :
    RingAt (w.setCell ⟨rb, 2, none⟩ (.int .i64 n2)) rb lb most first n2 buf :=
  .mk' (row_setCell h.blk _) ((Below.heap_setCell _ _ _ _ h.ne.symm).trans h.row) h.len h.hf hq h.hm h.ne h.cap

theorem RingAt.drewN {w : World} {rb lb most first n : Nat} {buf : List Sm} (h : RingAt w rb lb most first n buf) (k : Nat) : RingAt (w.drewN k) rb lb most first n buf := .mk' h.blk h.row h.len h.hf h.hn h.hm h.ne h.cap

theorem set_row_eq (buf : List Sm) (sl : List Value) (q : Nat) (x : Sm) (hq : q < buf.length) : ((buf.flatMap Sm.cells ++ sl).toArray.toList.take (q * 2) ++ x.cells.toArray.toList ++ (buf.flatMap Sm.cells ++ sl).toArray.toList.drop (q * 2 + 2)).toArray = ((buf.set q x).flatMap Sm.cells ++ sl).toArray := by
  have := flatMap_set (f := Sm.cells) (sz := 2) (fun _ => rfl) buf q x sl hq
  show (List.take (q * 2) (buf.flatMap Sm.cells ++ sl) ++ x.cells ++ List.drop (q * 2 + 2) (buf.flatMap Sm.cells ++ sl)).toArray = _
  rw [this]

set_option maxRecDepth 100000 in
set_option maxHeartbeats 1000000 in
theorem drop_any (rb lb most first n : Nat) (buf : List Sm) (w : World) (h : RingAt w rb lb most first n buf) (hn : 1 ≤ n) :
    Calls Try.prog 37 #[.pointer (some ⟨rb, 0, none⟩)] w fun e w' => (∃ v, e = .returned v) ∧ RingAt w' rb lb most ((first + 1) % most) (n - 1) (buf.set first Sm.zero) ∧ Fr (fun k => k = rb ∨ k = lb) w w' := by
  obtain ⟨cp, hcp⟩ := h.blk'
  obtain ⟨c0, c1, c2⟩ := cells3 hcp
  clear hcp
  have h1 := h.hf
  have h2 := h.hm
  have h3 := h.len
  have h4 := h.hn
  have HR := Lib.hid h
  clear h
  go_enter Try.func37, Try.ntmps37
  go_wp2_with fail
  go_still_tail 10, (by kernel_rfl)
  change wpList _ _ _ _ _ w.drew
  refine wpList_store_row aggSm rfl _ _ rfl rfl lb (first * 2) _ Sm.zero.cells.toArray rfl rfl (show w.drew.heap[lb]? = _ from HR.out.row) rfl (by simp [flatMap_len (f := Sm.cells) (sz := 2) (fun _ => rfl)]; omega) rfl ?_
  rw [set_row_eq buf _ first Sm.zero (by omega)]
  have hR1 : RingAt (w.drew.setRow lb ((buf.set first Sm.zero).flatMap Sm.cells ++ slackOf w lb buf.length).toArray) rb lb most first n (buf.set first Sm.zero) := RingAt.put (w := w.drew) (.mk' HR.out.blk HR.out.row HR.out.len HR.out.hf HR.out.hn HR.out.hm HR.out.ne HR.out.cap) first Sm.zero
  have hF1 : Fr (fun k => k = rb ∨ k = lb) w (w.drew.setRow lb ((buf.set first Sm.zero).flatMap Sm.cells ++ slackOf w lb buf.length).toArray) := ((Fr.refl (fun k => k = rb ∨ k = lb) w).drew).trans (Fr.setRow (fun k => k = rb ∨ k = lb) _ lb _ (.inr rfl)) (fun _ h => .inl h)
  obtain ⟨w1, hw1⟩ : ∃ w1, w.drew.setRow lb ((buf.set first Sm.zero).flatMap Sm.cells ++ slackOf w lb buf.length).toArray = w1 := ⟨_, rfl⟩
  rw [hw1] at hR1 hF1 ⊢
  have HR1 := Lib.hid hR1
  have HF1 := Lib.hid hF1
  have HA := Lib.hid (at_any rb lb most first n 1 _ w1 hR1 (by decide))
  clear hw1 hF1 hR1 c0 c1 c2
  go_wp2_with fail
  refine HA.out.mono ?_
  rintro e w2 ⟨rfl, q, rfl⟩
  have hlt : (first + 1) % most < most := Nat.mod_lt _ (by omega)
  obtain ⟨f2, hf2⟩ : ∃ f2, (first + 1) % most = f2 := ⟨_, rfl⟩
  rw [hf2] at hlt ⊢
  obtain ⟨w2, hw2⟩ : ∃ w2, w1.drewN q = w2 := ⟨_, rfl⟩
  have hR2 : RingAt w2 rb lb most first n (buf.set first Sm.zero) := by rw [← hw2]; exact HR1.out.drewN q
  have hF2 : Fr (fun k => k = rb ∨ k = lb) w w2 := by rw [← hw2]; exact HF1.out.drewN q
  rw [hw2]
  obtain ⟨cp, hcp⟩ := hR2.blk'
  obtain ⟨d0, d1, d2⟩ := cells3 hcp
  clear hcp
  have e1 := row_free hR2.blk 1
  have e2 := row_free hR2.blk 2
  have HR2 := Lib.hid hR2
  have HF2 := Lib.hid hF2
  have Hf2 := Lib.hid hf2
  clear hw2 hR2 hF2 hf2
  go_wp2_with fail
  go_end0
  have hn1 : ((n : Int) - 1) = ((n - 1 : Nat) : Int) := by omega
  rw [hn1, Hf2.out]
  exact ⟨⟨_, rfl⟩, (HR2.out.set1 hlt).set2 (by have := HR2.out.hn; omega), (HF2.out.set1 (.inl rfl) _).set1 (.inl rfl) _⟩
end Go.Proofs.Ytoamjihchmokcaa
