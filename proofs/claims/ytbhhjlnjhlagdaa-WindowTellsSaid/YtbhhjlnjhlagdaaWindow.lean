/- Contracts of package window. Condition: the memory lies in blocks of the call's own. -/
import Derived.Test.YtbhhjlnjhlagdaaNotes
import Derived.BigRegion
namespace Go.Proofs.Ytbhhjlnjhlagdaa
open Go.ChangeShapes Go.WideShapes Go.ChangeAt Go.RowKit Go.Deep

/-- A memory: block mb holds the slice v, which owns the notes xs; all of it from block B on. -/
structure MemAt (w : World) (B mb : Nat) (v : Value) (xs : List Note) : Prop where
  blk : w.heap[mb]? = some (.cells #[v] 138 (0, 0))
  base : B ≤ mb
  own : w.ownsRow B 141 3 v xs.length (xs.flatMap Note.cells)

/-- The blocks of a memory. -/
def foot (mb : Nat) (v : Value) : Nat → Prop := fun k => k = mb ∨ v.ownBlock = some k

theorem MemAt.fr {S : Nat → Prop} {w w' : World} {B mb : Nat} {v : Value} {xs : List Note} (h : MemAt w B mb v xs) (hf : Fr S w w') (hS : ∀ k, foot mb v k → ¬ S k) : MemAt w' B mb v xs :=
  ⟨hf.heap h.blk (hS mb (.inl rfl)), h.base, owns_fr hf h.own (fun k hk => hS k (.inr hk))⟩

/-- What a note comes to: the error, and the notes. -/
def noteRes (xs : List Note) (at_ n : Int) : Int × List Note :=
  if at_ < 0 ∨ 4611686018427387904 < at_ ∨ n < 0 then (1, xs)
  else match xs.getLast? with
    | none => (0, [⟨at_, n, n⟩])
    | some l => if at_ < l.at_ then (13, xs) else if at_ = l.at_ then (0, xs.dropLast ++ [⟨l.at_, min l.low n, max l.high n⟩]) else (0, (xs ++ [(⟨at_, n, n⟩ : Note)]).filter fun x => !decide (x.at_ < at_ - 1800))

theorem note_nil (at_ n : Int) (w : World) : Calls Try.prog 38 #[.pointer none, .int .i64 at_, .int .i64 n] w fun e w' => e = .returned (.int .i64 1) ∧ Below w.heap.size w w' := by
  go_enter Try.func38, Try.ntmps38
  go_wp2
  go_ret
  exact ⟨rfl, (Below.refl _ _).alloc (Nat.le_refl _) _⟩

theorem note_arg (mb : Nat) (at_ n : Int) (w : World) (h : at_ < 0 ∨ 4611686018427387904 < at_ ∨ n < 0) :
    Calls Try.prog 38 #[.pointer (some ⟨mb, 0, none⟩), .int .i64 at_, .int .i64 n] w fun e w' => e = .returned (.int .i64 1) ∧ Below w.heap.size w w' := by
  rcases (show at_ < 0 ∨ (0 ≤ at_ ∧ 4611686018427387904 < at_) ∨ (0 ≤ at_ ∧ at_ ≤ 4611686018427387904 ∧ n < 0) by omega) with h1 | ⟨h1, h2⟩ | ⟨h1, h2, h3⟩
  all_goals
    clear h
    go_enter Try.func38, Try.ntmps38
    go_wp2
    go_ret
    exact ⟨rfl, (Below.refl _ _).alloc (Nat.le_refl _) _⟩

/-- The last note of a memory, in its cells. -/
theorem MemAt.last {w : World} {B mb : Nat} {v : Value} {xs : List Note} {l : Note} (hM : MemAt w B mb v (xs ++ [l])) :
    ∃ g cap, v = .slice (some ⟨g, 0, none⟩) (xs.length + 1) cap ∧ B ≤ g ∧ xs.length + 1 ≤ cap ∧ cap ≤ 9223372036854775807 ∧ w.cell? ⟨mb, 0, none⟩ = some v ∧ w.frozen? ⟨mb, 0, none⟩ = false ∧
      w.cell? ⟨g, xs.length * 3, none⟩ = some (.int .i64 l.at_) ∧ w.cell? ⟨g, xs.length * 3 + 1, none⟩ = some (.int .i64 l.low) ∧ w.cell? ⟨g, xs.length * 3 + 2, none⟩ = some (.int .i64 l.high) ∧
      w.frozen? ⟨g, xs.length * 3 + 1, none⟩ = false ∧ w.frozen? ⟨g, xs.length * 3 + 2, none⟩ = false := by
  have hf : ∀ x : Note, x.cells.length = 3 := fun _ => rfl
  obtain ⟨g, cap, rfl, hg, hc1, hc2, hcell⟩ := owns_shape hM.own (by simp)
  have hlen : (xs ++ [l]).length = xs.length + 1 := by simp
  have hx : ∀ j, j < 3 → ((xs ++ [l]).flatMap Note.cells)[xs.length * 3 + j]? = l.cells[j]? := fun j hj => by
    rw [flatMap_get hf (xs ++ [l]) xs.length j (by simp) hj]
    simp
  unfold maxLen at hc2
  have hfz := hM.own
  rw [hlen] at hfz hc1 ⊢
  refine ⟨g, cap, rfl, hg, hc1, hc2, ?_, ?_, hcell _ _ (hx 0 (by decide)), hcell _ _ (hx 1 (by decide)), hcell _ _ (hx 2 (by decide)), hfz.frozenAt _, hfz.frozenAt _⟩
  · rw [← hlen]; exact cell_of_one hM.blk
  · exact free_of_one hM.blk

set_option maxHeartbeats 1000000 in
theorem note_stale (B mb : Nat) (v : Value) (xs : List Note) (l : Note) (at_ n : Int) (w : World) (hM : MemAt w B mb v (xs ++ [l])) (h1 : 0 ≤ at_) (h2 : at_ ≤ 4611686018427387904) (h3 : 0 ≤ n) (h4 : at_ < l.at_) :
    Calls Try.prog 38 #[.pointer (some ⟨mb, 0, none⟩), .int .i64 at_, .int .i64 n] w fun e w' => e = .returned (.int .i64 13) ∧ Below w.heap.size w w' := by
  obtain ⟨g, cap, rfl, hg, hc1, hc2, c0, z0, c1, c2, c3, z2, z3⟩ := hM.last
  have s0 := blk c0
  have s1 := blk c1
  obtain ⟨m, hm⟩ : ∃ m, xs.length = m := ⟨_, rfl⟩
  rw [hm] at hc1 c0 c1 c2 c3 z2 z3
  clear hM hm
  go_enter Try.func38, Try.ntmps38
  go_wp2
  go_quiet (fail)
  go_wp2
  go_ret
  exact ⟨rfl, ((Below.refl _ _).alloc (Nat.le_refl _) _).trans (below_drewN _ _ _)⟩

theorem last_set (xs : List Note) (l : Note) (a b : Int) : (((xs ++ [l]).flatMap Note.cells).set (xs.length * 3 + 1) (.int .i64 a)).set (xs.length * 3 + 2) (.int .i64 b) = (xs ++ [(⟨l.at_, a, b⟩ : Note)]).flatMap Note.cells := by
  have hf : ∀ x : Note, x.cells.length = 3 := fun _ => rfl
  have hl := flatMap_len hf xs
  rw [List.flatMap_append, List.flatMap_append, List.set_append_right _ _ (by omega), List.set_append_right _ _ (by omega)]
  have e1 : xs.length * 3 + 1 - (xs.flatMap Note.cells).length = 1 := by omega
  have e2 : xs.length * 3 + 2 - (xs.flatMap Note.cells).length = 2 := by omega
  rw [e1, e2]
  rfl

theorem note_stores {w w2 : World} {B mb g cap : Nat} {xs : List Note} {l : Note} (hM : MemAt w B mb (.slice (some ⟨g, 0, none⟩) (xs.length + 1) cap) (xs ++ [l])) (h2 : Fr (fun _ => False) w w2) (a b : Int) :
    MemAt ((w2.setCell ⟨g, xs.length * 3 + 1, none⟩ (.int .i64 a)).setCell ⟨g, xs.length * 3 + 2, none⟩ (.int .i64 b)) B mb (.slice (some ⟨g, 0, none⟩) (xs.length + 1) cap) (xs ++ [⟨l.at_, a, b⟩]) ∧
    Fr (foot mb (.slice (some ⟨g, 0, none⟩) (xs.length + 1) cap)) w ((w2.setCell ⟨g, xs.length * 3 + 1, none⟩ (.int .i64 a)).setCell ⟨g, xs.length * 3 + 2, none⟩ (.int .i64 b)) := by
  have hM2 := hM.fr h2 (fun _ _ h => h)
  have hl : ∀ q : Note, (xs ++ [q]).length = xs.length + 1 := fun q => by simp
  have ho := hM2.own
  rw [hl] at ho
  have hne : ¬ mb = g := by
    intro e
    rcases ho.2 with ⟨h, _⟩ | ⟨g', cap', cur, hv, _, hh, _⟩
    · cases h
    · have := hM2.blk
      simp at hv
      rw [← hv.1, ← e, this] at hh
      simp at hh
  have hsz : ∀ (u : World) (p : Addr) (v : Value), (u.setCell p v).heap.size = u.heap.size := fun u p v => by simp [World.setCell]
  refine ⟨⟨?_, hM.base, ?_⟩, ?_⟩
  · rw [Below.heap_setCell _ _ _ _ hne, Below.heap_setCell _ _ _ _ hne]
    exact hM2.blk
  · rw [hl, ← last_set]
    exact ((ho.stored _ _).1.stored _ _).1
  · refine ⟨h2.os, h2.tape, h2.output, by rw [hsz, hsz]; exact h2.size, fun k hk hs => ?_⟩
    have hkg : k ≠ g := fun e => hs (.inr (by rw [e]; rfl))
    rw [Below.heap_setCell _ _ _ _ hkg, Below.heap_setCell _ _ _ _ hkg]
    exact h2.block k hk (fun h => h)

set_option maxHeartbeats 4000000 in
theorem note_same (B mb : Nat) (v : Value) (xs : List Note) (l : Note) (n : Int) (w : World) (hM : MemAt w B mb v (xs ++ [l])) (h1 : 0 ≤ l.at_) (h2 : l.at_ ≤ 4611686018427387904) (h3 : 0 ≤ n) :
    Calls Try.prog 38 #[.pointer (some ⟨mb, 0, none⟩), .int .i64 l.at_, .int .i64 n] w fun e w' => e = .returned (.int .i64 0) ∧ MemAt w' B mb v (xs ++ [⟨l.at_, min l.low n, max l.high n⟩]) ∧ Fr (foot mb v) w w' := by
  obtain ⟨g, cap, rfl, hg, hc1, hc2, c0, z0, c1, c2, c3, z2, z3⟩ := hM.last
  have s0 := blk c0
  have s1 := blk c1
  have Hm := Lib.hid hM
  obtain ⟨m, hm⟩ : ∃ m, xs.length = m := ⟨_, rfl⟩
  rw [hm] at hc1 c0 c1 c2 c3 z2 z3
  have Hxm := Lib.hid hm
  clear hM hm
  go_enter Try.func38, Try.ntmps38
  go_wp2
  go_quiet (fail)
  go_wp2
  go_quiet (fail)
  go_wp2
  go_region
  go_wp2
  all_goals
    go_ret
    refine ⟨rfl, ?_⟩
    have hlo : min l.low n = n ∨ min l.low n = l.low := by omega
    rw [← Hxm.out]
    first
      | (rw [show min l.low n = n from by omega, show max l.high n = n from by omega]; exact note_stores Hm.out (((Fr.refl _ w).alloc _).drewN _) _ _)
      | (rw [show min l.low n = n from by omega, show max l.high n = l.high from by omega]; exact note_stores Hm.out (((Fr.refl _ w).alloc _).drewN _) _ _)
      | (rw [show min l.low n = l.low from by omega, show max l.high n = n from by omega]; exact note_stores Hm.out (((Fr.refl _ w).alloc _).drewN _) _ _)
      | (rw [show min l.low n = l.low from by omega, show max l.high n = l.high from by omega]; exact note_stores Hm.out (((Fr.refl _ w).alloc _).drewN _) _ _)

end Go.Proofs.Ytbhhjlnjhlagdaa
