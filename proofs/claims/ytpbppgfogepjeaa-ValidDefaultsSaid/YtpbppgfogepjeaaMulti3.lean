/- Five variables out of five fields: the region's law. Conditions are of the operations alone. -/
import Derived.Test.YtpbppgfogepjeaaMulti2M
namespace Go.Proofs.Ytpbppgfogepjeaa
open Go.ChangeShapes Go.WideShapes Go.ChangeAt Go.RowKit Go.Deep

def Five.sets {P : Program} (f : Five P) (sl : Nat → Nat) (B : Nat → Nat) : List (Nat × Value) := (List.range 15).map fun i => (sl i, f.val B i)

theorem wp_five {P : Program} (f : Five P) {ops : Array Oper} {sl : Nat → Nat} {id : Nat} {Q : Exit → Act → World → Prop} {a : Act} {w : World} (hm : P.follows .mixedOrders = true) (hf : FiveOK f) (ho : FiveOps f ops sl)
    (hsl : ∀ i, i < 15 → sl i < a.tmps.size) (hinj : ∀ i j, i < 15 → j < 15 → sl i = sl j → i = j) (hone : ∀ i, i < 15 → sl i ≠ 1) (h1 : a.tmps[1]? = some (.pointer (some ⟨f.b1, 0, none⟩)))
    (hc : ∀ k, k < 5 → ∀ j u, (f.cs k)[j]? = some u → w.cell? ((⟨f.b1, f.off k, none⟩ : Addr).add j) = some u)
    (h : ∀ (B : Nat → Nat) (w' : World), Below w.heap.size w w' → (∀ k, k < 5 → w.heap.size ≤ B k ∧ w'.heap[B k]? = some (.cells (f.cs k).toArray (f.T k) (0, 0))) → Q .normal (puts a (f.sets sl B)) w') :
    (Code.region id ops true).wp P Q a w := by
  refine wp_region_any hm ?_
  have hbel : Below w.heap.size w { w with drawn := w.drawn + 1 } := ⟨rfl, rfl, rfl, Nat.le_refl _, fun _ _ => rfl⟩
  refine wpAny_inv (fun l a' w' => ∃ B, FiveInv f sl a w B l a' w') (fun l a' w' hI => by obtain ⟨B, hI⟩ := hI; rw [hI.size, ho.size]) ho.ord ?_ ?_ _ _ _ _ (fun _ _ => trivial) ?_ ?_
  · rintro l a' w' i ⟨B, hI⟩ hr
    obtain ⟨hun, o, hoi, _⟩ := mem_ready.1 hr
    have hi : i < 20 := by rw [← ho.size]; exact (Array.getElem?_eq_some_iff.1 hoi).1
    have hun' : l.getD i false = false := by
      have : i < l.size := by rw [hI.size]; exact hi
      simp [this] at hun ⊢
      exact hun
    rcases (show (∃ k, k < 5 ∧ i = 2 * k) ∨ (∃ k, k < 5 ∧ i = 2 * k + 1) ∨ (∃ k, k < 5 ∧ i = 10 + k) ∨ (∃ k, k < 5 ∧ i = 15 + k) by
      rcases Nat.lt_or_ge i 10 with h10 | h10
      · rcases Nat.mod_two_eq_zero_or_one i with e | e
        · exact .inl ⟨i / 2, by omega, by omega⟩
        · exact .inr (.inl ⟨i / 2, by omega, by omega⟩)
      · rcases Nat.lt_or_ge i 15 with h15 | h15
        · exact .inr (.inr (.inl ⟨i - 10, by omega, by omega⟩))
        · exact .inr (.inr (.inr ⟨i - 15, by omega, by omega⟩))) with ⟨k, hk, rfl⟩ | ⟨k, hk, rfl⟩ | ⟨k, hk, rfl⟩ | ⟨k, hk, rfl⟩
    · obtain ⟨o', ho', hd, hop, hg⟩ := ho.field k hk
      have e1 : a'.eval (.tmp 1) = .pointer (some ⟨f.b1, 0, none⟩) := eval_tmp (by rw [hI.oth 1 (fun i hi e => hone i hi e.symm)]; exact h1)
      refine wpOp_value ho' hg (v := .pointer (some ⟨f.b1, f.off k, none⟩)) (w' := w') ?_ ⟨B, ?_⟩
      · unfold execOp
        simp only [hop, e1, Sem.run_bind, hf.addr k hk w', Result.andThen_ok, Sem.run_pure]
      · have := hI.put (i := 2 * k) (by omega) hsl hinj
        have e : f.val B (2 * k) = .pointer (some ⟨f.b1, f.off k, none⟩) := by
          unfold Five.val
          rw [if_pos (by omega), if_pos (by omega), show 2 * k / 2 = k by omega]
        rw [e] at this
        rw [hd]
        exact this
    · obtain ⟨o', ho', hd, hop, hg, hw⟩ := ho.load k hk
      have hl := ready_waits hr hw
      have e1 : a'.eval (.tmp (sl (2 * k))) = .pointer (some ⟨f.b1, f.off k, none⟩) := eval_tmp (by
        rw [hI.val (2 * k) (by omega) hl]
        unfold Five.val
        rw [if_pos (by omega), if_pos (by omega), show 2 * k / 2 = k by omega])
      have hld := run_loadVar_at (hf.agg k hk) w' ⟨f.b1, f.off k, none⟩ (f.cs k) (hf.len k hk) (fun j u hu => Below.cell_some hI.bel (hc k hk j u hu))
      refine wpOp_value ho' hg (v := .agg (f.cs k).toArray) (w' := w') ?_ ⟨B, ?_⟩
      · unfold execOp
        simp only [hop, e1, Instr.loadAt, Instr.sureAddr, Sem.run_bind, Sem.run_pure, Result.andThen_ok, hld]
      · have := hI.put (i := 2 * k + 1) (by omega) hsl hinj
        have e : f.val B (2 * k + 1) = .agg (f.cs k).toArray := by
          unfold Five.val
          rw [if_pos (by omega), if_neg (by omega), show (2 * k + 1) / 2 = k by omega]
        rw [e] at this
        rw [hd]
        exact this
    · obtain ⟨o', ho', hd, hop, hg⟩ := ho.alloc k hk
      obtain ⟨inf, z, hi', hz, hsz, hzc⟩ := (hf.agg k hk).info
      have hal : (Instr.alloc (f.T k) true (.tuple #[])).run P w' = .ok (.pointer (some ⟨w'.heap.size, 0, none⟩)) (w'.alloc (.cells z.cells (f.T k))) := by
        simp [Instr.alloc, zeroValue, typeInfo, hi', hz, newVar, newRow, go_sem]
      refine wpOp_value ho' hg (v := .pointer (some ⟨w'.heap.size, 0, none⟩)) (w' := w'.alloc (.cells z.cells (f.T k))) ?_ ⟨fun j => if j = k then w'.heap.size else B j, ?_⟩
      · unfold execOp
        simp only [hop, Sem.run_bind, hal, Result.andThen_ok, Sem.run_pure]
      · rw [hd]
        exact hI.alloc hk hun' z.cells hzc hsl hinj
    · obtain ⟨o', ho', hd, hop, hg, hw1, hw2⟩ := ho.store k hk
      have hl1 := ready_waits hr hw1
      have hl2 := ready_waits hr hw2
      have e1 : a'.eval (.tmp (sl (10 + k))) = .pointer (some ⟨B k, 0, none⟩) := eval_tmp (by
        rw [hI.val (10 + k) (by omega) hl1]
        unfold Five.val
        rw [if_neg (by omega), show 10 + k - 10 = k by omega])
      have e2 : a'.eval (.tmp (sl (2 * k + 1))) = .agg (f.cs k).toArray := eval_tmp (by
        rw [hI.val (2 * k + 1) (by omega) hl2]
        unfold Five.val
        rw [if_pos (by omega), if_neg (by omega), show (2 * k + 1) / 2 = k by omega])
      obtain ⟨_, cur, b2, b3, _⟩ := hI.blk k hk hl1
      have hs : (f.cs k).toArray.size = f.sz k := by simpa using hf.len k hk
      have hst := run_store_row (hf.agg k hk) w' (B k) 0 cur (f.cs k).toArray b2 hs (by omega) (by simpa using hf.one k hk)
      have e3 : (cur.toList.take 0 ++ (f.cs k).toArray.toList ++ cur.toList.drop (0 + f.sz k)).toArray = (f.cs k).toArray := by
        rw [List.drop_eq_nil_of_le (by simp; omega)]
        simp
      rw [e3] at hst
      refine wpOp_skip ho' hg hd (w' := w'.setRow (B k) (f.cs k).toArray) ?_ ⟨B, ?_⟩
      · unfold execOp
        simp only [hop, e1, e2, Instr.storeAt, Instr.sureAddr, Sem.run_bind, Sem.run_pure, Result.andThen_ok, hst]
      · exact hI.store hk hl1 (hf.len k hk)
  · rintro l a' w' ⟨B, hI⟩ hall
    rw [ho.size] at hall
    have e : a' = puts a (f.sets sl B) := by
      refine puts_eq _ a a' hI.defers hI.tsz ?_ ?_
      · intro p hp
        obtain ⟨i, hi, rfl⟩ := List.mem_map.1 hp
        have hi := List.mem_range.1 hi
        exact hI.val i hi (hall i (by omega))
      · intro t ht
        refine hI.oth t fun i hi e => ?_
        exact ht (sl i, f.val B i) (List.mem_map.2 ⟨i, List.mem_range.2 hi, rfl⟩) e
    rw [e]
    refine h B w' hI.bel fun k hk => ?_
    obtain ⟨b1, cur, b2, _, b4⟩ := hI.blk k hk (hall _ (by omega))
    rw [b4 (hall _ (by omega))] at b2
    exact ⟨b1, b2⟩
  · rw [ho.size]
    refine Nat.le_trans List.countP_le_length ?_
    simp
  · refine ⟨fun _ => 0, by simp [ho.size], rfl, rfl, fun _ _ => rfl, fun i _ hl => ?_, fun k _ hl => ?_, fun k j _ _ _ hl => ?_, fun k _ hl => ?_, hbel⟩
    all_goals
      rw [getD_replicate_false] at hl
      cases hl
end Go.Proofs.Ytpbppgfogepjeaa
