/- The contract of window.Note where a note is new. Condition: the memory lies in blocks of the call's own. -/
import Derived.Test.YtbhhjlnjhlagdaaWindow
namespace Go.Proofs.Ytbhhjlnjhlagdaa
open Go.ChangeShapes Go.WideShapes Go.ChangeAt Go.RowKit Go.Deep

/-- The slice's row is another block than the memory's own. -/
theorem MemAt.ne {w : World} {B mb : Nat} {v : Value} {xs : List Note} (h : MemAt w B mb v xs) : v.ownBlock ≠ some mb := by
  intro e
  rcases h.own.2 with ⟨h', _⟩ | ⟨g', cap', cur, hv, _, hh, _⟩
  · rw [h'] at e; cases e
  · rw [hv] at e
    simp [Value.ownBlock] at e
    have := h.blk
    rw [e, this] at hh
    simp at hh

/-- Behind the append, ahead of the call that deletes: what the memory is. -/
theorem note_mid {w wc w' : World} {B mb m cap cap' g' : Nat} {ao : Option Addr} {v : Value} {xs : List Note} {x : Note} {o : Obj} {u : Value}
    (hfr : Fr (fun _ => False) w wc) (hM : MemAt w B mb v xs)
    (hown : w'.ownsRow B 141 3 (.slice (some ⟨g', 0, none⟩) (m + 1) cap') (m + 1) (xs.flatMap Note.cells ++ x.cells)) (hgr : (wc.alloc o).drew.grownBy w' v.ownBlock) (hfresh : v.ownBlock = some g' ∨ (wc.alloc o).drew.heap.size ≤ g')
    (hm' : w'.heap[mb]? = some (.cells #[.slice ao m cap] 138 (0, 0))) (hsz : w.heap.size < wc.heap.size) (hu : wc.cell? ⟨w.heap.size, 0, none⟩ = some u) :
    B ≤ g' ∧ m + 1 ≤ cap' ∧ cap' ≤ maxLen ∧ mb ≠ g' ∧ w.heap.size ≠ g' ∧ (foot mb v g' ∨ w.heap.size ≤ g') ∧ mb < w.heap.size ∧
      (∃ rest, (w'.setCell ⟨mb, 0, none⟩ (.slice (some ⟨g', 0, none⟩) (m + 1) cap')).heap[g']? = some (.cells ((xs ++ [x]).flatMap Note.cells ++ rest).toArray 141 (0, 0)) ∧ ((xs ++ [x]).flatMap Note.cells ++ rest).length = cap' * 3) ∧
      (w'.setCell ⟨mb, 0, none⟩ (.slice (some ⟨g', 0, none⟩) (m + 1) cap')).cell? ⟨w.heap.size, 0, none⟩ = some u ∧
      (w'.setCell ⟨mb, 0, none⟩ (.slice (some ⟨g', 0, none⟩) (m + 1) cap')).heap[mb]? = some (.cells #[.slice (some ⟨g', 0, none⟩) (m + 1) cap'] 138 (0, 0)) ∧
      Fr (foot mb v) w (w'.setCell ⟨mb, 0, none⟩ (.slice (some ⟨g', 0, none⟩) (m + 1) cap')) := by
  obtain ⟨hBg, hnc, hcm, rest, hrow, hrl⟩ := owns_row hown
  have hmb : mb < w.heap.size := (Array.getElem?_eq_some_iff.1 hM.blk).1
  have hne : mb ≠ g' := by
    intro e
    rw [← e, hm'] at hrow
    simp at hrow
  have hosz : ∀ k, v.ownBlock = some k → k < w.heap.size := fun k hk => (hM.own.lt k hk).2
  have hs2 : (wc.alloc o).drew.heap.size = wc.heap.size + 1 := by show (wc.alloc o).heap.size = _; rw [World.size_alloc]
  have hg2 : w.heap.size ≠ g' := by
    rcases hfresh with h | h
    · have := hosz _ h; omega
    · omega
  have hfoot : foot mb v g' ∨ w.heap.size ≤ g' := by
    rcases hfresh with h | h
    · exact .inl (.inr h)
    · exact .inr (by omega)
  have e1 : xs.flatMap Note.cells ++ x.cells = (xs ++ [x]).flatMap Note.cells := by simp
  have hF1 : Fr (foot mb v) wc w' := by
    have h1 : Fr (foot mb v) wc (wc.alloc o).drew := ((Fr.refl _ wc).alloc o).drew
    exact h1.trans (Fr.grown hgr (fun k hk => hk.symm ▸ rfl : ∀ k, v.ownBlock = some k → v.ownBlock = some k)) (fun k hk => .inl (.inr hk))
  have hF : Fr (foot mb v) w w' := (hfr.weaken (fun _ h => h.elim)).trans hF1 (fun k hk => .inl hk)
  have hset : ∀ k, k ≠ mb → (w'.setCell ⟨mb, 0, none⟩ (.slice (some ⟨g', 0, none⟩) (m + 1) cap')).heap[k]? = w'.heap[k]? := fun k hk => Below.heap_setCell w' ⟨mb, 0, none⟩ _ k hk
  refine ⟨hBg, hnc, hcm, hne, hg2, hfoot, hmb, ⟨rest, ?_, ?_⟩, ?_, ?_, ?_⟩
  · rw [hset _ (Ne.symm hne), hrow, e1]
  · rw [← e1]; exact hrl
  · have h1 : w'.cell? ⟨w.heap.size, 0, none⟩ = some u := hF1.cell hu (fun hk => by
      rcases hk with hk | hk
      · have : w.heap.size = mb := hk
        omega
      · have := hosz _ hk
        simp at this)
    rw [← h1]
    exact World.cell?_of_block (w := w') (hset _ (by show w.heap.size ≠ mb; omega))
  · exact one_setCell hm'
  · refine ⟨hF.os, hF.tape, hF.output, by simpa [World.setCell] using hF.size, fun k hk hs => ?_⟩
    rw [hset _ (fun e => hs (.inl e))]
    exact hF.block k hk hs

/-- Behind the call that deletes: the memory, as it is stored. -/
theorem note_end {w W1 w3 : World} {B mb n cap' g' q : Nat} {v : Value} {ys zs : List Note} {rest rest' : List Value}
    (hF : Fr (foot mb v) w W1) (hfoot : foot mb v g' ∨ w.heap.size ≤ g') (hB : B ≤ mb) (hBg : B ≤ g') (hne : mb ≠ g') (hnc : n ≤ cap') (hcm : cap' ≤ maxLen) (hmb1 : W1.heap[mb]? = some (.cells #[.slice (some ⟨g', 0, none⟩) n cap'] 138 (0, 0)))
    (hlen : (ys.flatMap Note.cells ++ rest).length = cap' * 3) (hn : ys.length = n) (hq : q = zs.length) (hqn : q ≤ n) (hrl : rest'.length = (n - q) * 3 + rest.length)
    (hrow3 : w3.heap[g']? = some (.cells (zs.flatMap Note.cells ++ rest').toArray 141 (0, 0))) (hfr3 : Fr (fun k => k = g') W1 w3) :
    MemAt (w3.setCell ⟨mb, 0, none⟩ (.slice (some ⟨g', 0, none⟩) q cap')) B mb (.slice (some ⟨g', 0, none⟩) q cap') zs ∧ Fr (foot mb v) w (w3.setCell ⟨mb, 0, none⟩ (.slice (some ⟨g', 0, none⟩) q cap')) ∧
      (∀ k, foot mb (.slice (some ⟨g', 0, none⟩) q cap') k → foot mb v k ∨ w.heap.size ≤ k) := by
  have hf : ∀ x : Note, x.cells.length = 3 := fun _ => rfl
  have hm3 : w3.heap[mb]? = some (.cells #[.slice (some ⟨g', 0, none⟩) n cap'] 138 (0, 0)) := hfr3.heap hmb1 hne
  have hset : ∀ k, k ≠ mb → (w3.setCell ⟨mb, 0, none⟩ (.slice (some ⟨g', 0, none⟩) q cap')).heap[k]? = w3.heap[k]? := fun k hk => Below.heap_setCell w3 ⟨mb, 0, none⟩ _ k hk
  have h1 : (ys.flatMap Note.cells).length = n * 3 := by rw [flatMap_len hf, hn]
  have h2 : (zs.flatMap Note.cells).length = q * 3 := by rw [flatMap_len hf, hq]
  rw [List.length_append, h1] at hlen
  refine ⟨⟨one_setCell hm3, hB, ?_⟩, ?_, ?_⟩
  · subst hq
    refine owns_of_row (rest := rest') hBg (by omega) hcm ?_ h2 (by rw [List.length_append, h2, hrl]; omega)
    rw [hset _ (Ne.symm hne), hrow3]
  · have hF3 : Fr (foot mb v) w w3 := hF.trans hfr3 (fun k hk => by
      have : k = g' := hk
      rw [this]
      exact hfoot)
    refine ⟨hF3.os, hF3.tape, hF3.output, by simpa [World.setCell] using hF3.size, fun k hk hs => ?_⟩
    rw [hset _ (fun e => hs (.inl e))]
    exact hF3.block k hk hs
  · intro k hk
    rcases hk with hk | hk
    · exact .inl (.inl hk)
    · have : g' = k := by simpa [Value.ownBlock] using hk
      rw [← this]
      exact hfoot

theorem enters_note1 : Enters Try.prog 70 := fun args w => by kernel_rfl

theorem note1_any (x : Note) (tb : Nat) (at_ : Int) (w : World) (h0 : 0 ≤ at_) (h1 : at_ ≤ 4611686018427387904) (hk : w.cell? ⟨tb, 0, none⟩ = some (.int .i64 at_)) :
    Calls Try.prog 70 #[.agg x.cells.toArray, .pointer (some ⟨tb, 0, none⟩)] w fun e w' => e = .returned (.bool (decide (x.at_ < at_ - 1800))) ∧ Below w.heap.size w w' := by
  show Calls Try.prog 70 #[.agg #[.int .i64 x.at_, .int .i64 x.low, .int .i64 x.high], .pointer (some ⟨tb, 0, none⟩)] w _
  have hne := blk hk
  go_enter Try.func70, Try.ntmps70
  go_wp2
  go_ret
  exact ⟨rfl, (Below.refl _ _).alloc (Nat.le_refl _) _⟩

set_option maxRecDepth 100000 in
set_option maxHeartbeats 4000000 in
theorem note_new (B mb : Nat) (v : Value) (xs : List Note) (at_ n : Int) (w : World) (hM : MemAt w B mb v xs) (hB : B ≤ w.heap.size) (h1 : 0 ≤ at_) (h2 : at_ ≤ 4611686018427387904) (h3 : 0 ≤ n) (hlen : xs.length ≤ 1000000)
    (hlast : ∀ ys l, xs = ys ++ [l] → l.at_ < at_) :
    Calls Try.prog 38 #[.pointer (some ⟨mb, 0, none⟩), .int .i64 at_, .int .i64 n] w fun e w' => e = .returned (.int .i64 0) ∧
      ∃ v', MemAt w' B mb v' ((xs ++ [(⟨at_, n, n⟩ : Note)]).filter fun x => !decide (x.at_ < at_ - 1800)) ∧ Fr (foot mb v) w w' ∧ (∀ k, foot mb v' k → foot mb v k ∨ w.heap.size ≤ k) := by
  have hf : ∀ x : Note, x.cells.length = 3 := fun _ => rfl
  obtain ⟨ao, cap, hv, hS, _⟩ := SlR.of_owns hM.own rfl hf
  have hcm := hS.hmax
  have hlc := hS.hcap
  unfold maxLen at hcm
  have c0 := cell_of_one hM.blk
  have z0 := free_of_one hM.blk
  have s0 := blk c0
  obtain ⟨m, hm⟩ : ∃ m, xs.length = m := ⟨_, rfl⟩
  rw [hm] at hlen hlc hv
  have Hm := Lib.hid hm
  rw [hv] at c0
  have Hv := Lib.hid hv
  have HM := Lib.hid hM
  have Hl := Lib.hid hlast
  clear hM hm hv hS hlast
  go_enter Try.func38, Try.ntmps38
  go_upto_if 29 with (fail)
  go_cut [] (fun wx => Fr (fun _ => False) w wx ∧ wx.cell? ⟨w.heap.size, 0, none⟩ = some (.int .i64 at_) ∧ w.heap.size < wx.heap.size)
  case first =>
    by_cases hm0 : 0 < m
    · obtain ⟨ys, l, hx⟩ : ∃ ys l, xs = ys ++ [l] := ⟨xs.dropLast, xs.getLast (by intro e; have := Hm.out; rw [e] at this; simp at this; omega), by rw [List.dropLast_concat_getLast]⟩
      have hll := Hl.out ys l hx
      have hML : MemAt w B mb v (ys ++ [l]) := by rw [← hx]; exact HM.out
      obtain ⟨g, cap', hv', hg, -, -, -, -, c1, c2, c3, -, -⟩ := hML.last
      have hym : ys.length + 1 = m := by have := Hm.out; rw [hx] at this; simpa using this
      rw [Hv.out] at hv'
      simp only [Value.slice.injEq] at hv'
      obtain ⟨rfl, -, -⟩ := hv'
      have s1 := blk c1
      have hyp : ys.length = m - 1 := by omega
      rw [hyp] at c1 c2 c3
      clear hym hyp hML hx
      go_wp2
      go_quiet (fail)
      go_wp2
      go_quiet (fail)
      go_wp2
      go_meet
      exact ⟨(((Fr.refl _ _).alloc _).drewN _).drewN _, cell_new w _ _ 0, by simp [World.drewN]⟩
    · go_wp2
      go_meet
      exact ⟨(Fr.refl _ _).alloc _, cell_new w _ _ 0, by simp⟩
  case rest =>
    obtain ⟨hfr, hat, hsz⟩ := hcut
    have hMx := HM.out.fr hfr (fun _ _ h => h)
    have hne := hMx.ne
    have hmb := hMx.blk
    have c1 := cell_of_one hMx.blk
    have z1 := free_of_one hMx.blk
    have s1 := blk c1
    have ho := hMx.own
    rw [Hv.out] at c1 hne hmb ho
    rw [Hm.out] at ho
    have Ho := Lib.hid ho
    have Hne := Lib.hid hne
    have Hmb := Lib.hid hmb
    have HMx := Lib.hid hMx
    have Hfr := Lib.hid hfr
    have hBx : B ≤ wc.heap.size := by omega
    clear hMx hfr c0 z0 ho hne hmb
    go_wp2
    go_region_law (go_must (refine step_append_new elemNote rfl _ _ rfl B (.slice ao m cap) m _ rfl (by exact (Ho.out.alloc _).drew) (by show B ≤ (wc.alloc _).heap.size; rw [World.size_alloc]; omega) wc.heap.size #[.int .i64 at_, .int .i64 n, .int .i64 n] rfl (by exact heap_alloc_new wc _) rfl rfl (by unfold maxLen; omega) (by omega) ?_; intro g' cap' w' hown' hgr hfresh; have hm' : w'.heap[mb]? = some (.cells #[.slice ao m cap] 138 (0, 0)) := (hgr.block mb (by show mb < (wc.alloc _).heap.size; rw [World.size_alloc]; omega) (fun e => Hne.out e.symm)).trans ((Below.heap_alloc wc _ mb s1).trans Hmb.out); have c0 := cell_of_one hm'; have z0 := free_of_one hm'; have Hown := Lib.hid hown'; have Hgr := Lib.hid hgr; have Hfresh := Lib.hid hfresh; have Hm' := Lib.hid hm'; clear hown' hgr hfresh hm'))
    all_goals
      go_wp2_with fail
      obtain ⟨hBg, hnc, hcm', hne, hg2, hfoot, hmbs, ⟨rest, hrow, hrl⟩, hut, hmb1, hF⟩ := note_mid (x := ⟨at_, n, n⟩) Hfr.out HM.out Hown.out (by rw [Hv.out]; exact Hgr.out) (by rw [Hv.out]; exact Hfresh.out) Hm'.out hsz hat
      have HF := Lib.hid hF
      have Hrl := Lib.hid hrl
      have Hmb1 := Lib.hid hmb1
      have Hut := Lib.hid hut
      have Hfoot := Lib.hid hfoot
      have Hne := Lib.hid hne
      have Hg2 := Lib.hid hg2
      refine (deleteFunc_Note (fun x => decide (x.at_ < at_ - 1800)) _ enters_note1 #[.pointer (some ⟨w.heap.size, 0, none⟩)] (xs ++ [⟨at_, n, n⟩]) rest g' (m + 1) cap' _ hrow (by rw [List.length_append, Hm.out]; rfl) hnc hcm' (fun x w1 hq => note1_any x _ at_ w1 h1 h2 (hq.cell Hut.out Hg2.out))).mono ?_
      rintro e w3 ⟨q, rest', rfl, hq, hrl', hrow3, hfr3⟩
      have hm3 : w3.heap[mb]? = some (.cells #[.slice (some ⟨g', 0, none⟩) (m + 1) cap'] 138 (0, 0)) := hfr3.heap Hmb1.out Hne.out
      have c3 := cell_of_one hm3
      have z3 := free_of_one hm3
      have hqn : q ≤ m + 1 := by
        have := List.length_filter_le (fun x : Note => !decide (x.at_ < at_ - 1800)) (xs ++ [⟨at_, n, n⟩])
        rw [List.length_append, Hm.out] at this
        simp only [List.length_cons, List.length_nil] at this
        omega
      have HEnd := Lib.hid (note_end HF.out Hfoot.out HM.out.base hBg Hne.out hnc hcm' Hmb1.out Hrl.out (by rw [List.length_append, Hm.out]; rfl) hq hqn hrl' hrow3 hfr3)
      clear hrow hrl hut hmb1 hF hfoot hne hg2 hm3 hq hrl' hrow3 hfr3 c0 z0 hat
      go_wp2
      go_ret
      exact ⟨rfl, _, HEnd.out⟩
end Go.Proofs.Ytbhhjlnjhlagdaa
