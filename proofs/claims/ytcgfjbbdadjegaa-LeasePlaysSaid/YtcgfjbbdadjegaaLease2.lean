/- Contracts of lease's own and Get. Condition: the board lies in blocks of the call's own. -/
import Derived.Test.YtcgfjbbdadjegaaLease
import Derived.Test.YtcgfjbbdadjegaaCells
namespace Go.Proofs.Ytcgfjbbdadjegaa
open Go.ChangeShapes Go.WideShapes Go.ChangeAt Go.RowKit Go.Deep Go.Maps

theorem strKey {s : ByteArray} (h : s.size ≤ maxLen) : keyOf Try.prog 9 (.string s) = some (.string s.data.toList) := WideMaps.keyOf_string_mk Try.underlying9 h

/-- The board's new maker. -/
theorem BoardAt.made (w : World) : BoardAt ((w.alloc (.map #[] 0)).alloc (.cells #[.map (some w.heap.size)] 46)) (w.heap.size + 1) w.heap.size ⟨0, fun _ => none⟩ := by
  have h := StrMap.made Lease.val w Try.prog 9
  refine ⟨?_, MapIs.below h ((Below.refl _ _).alloc (Nat.le_refl _) _)⟩
  have := heap_alloc_new (w.alloc (.map #[] 0)) (.cells #[.map (some w.heap.size)] 46)
  rw [World.size_alloc] at this
  exact this

set_option maxRecDepth 100000 in
set_option maxHeartbeats 1000000 in
theorem own_any (bb bm : Nat) (b : Bd) (name holder : ByteArray) (now : Int) (w : World) (hB : BoardAt w bb bm b) (hn : name.size ≤ maxLen) :
    Calls Try.prog 28 #[.pointer (some ⟨bb, 0, none⟩), .string name, .string holder, .int .i64 now] w fun e w' => e = .returned (.tuple #[(ownOf b name holder now).1.val, .int .i64 (ownOf b name holder now).2]) ∧ Below w.heap.size w w' := by
  have c0 := cell_of_one hB.blk
  have s0 := blk c0
  have HM := Lib.hid (hB.map)
  have HK := Lib.hid (strKey hn)
  have HH : Hid (∀ (l : Lease) now w1, Calls Try.prog 14 #[l.val, .int .i64 now] w1 fun e w' => e = .returned (.bool (decide (now < l.till))) ∧ Below w1.heap.size w1 w') := fun l now w1 => held_any l now w1
  cases hf : b.f name.data.toList with
  | none =>
    have hv : Hid (((byStr Lease.val b.f (.string name.data.toList)).getD Lease.zero.val) = Lease.zero.val ∧ (byStr Lease.val b.f (.string name.data.toList)).isSome = false) := by constructor <;> simp [byStr, hf]
    have H : Hid (ownOf b name holder now = (.zero, 7)) := by unfold ownOf; rw [hf]; rfl
    clear hf hB
    go_enter Try.func28, Try.ntmps28
    go_wp2_with (at_lookup; refine wpList_look_ok _ rfl _ _ 44 rfl 9 34 strKeyed Try.underlying44 (zeroLease _) bm b.n _ rfl (MapIs.below HM.out ((Below.refl _ _).alloc (Nat.le_refl _) _)) _ _ rfl HK.out (.agg #[.string ⟨#[]⟩, .string ⟨#[]⟩, .int .i64 0, .int .i64 0]) false hv.out.1 hv.out.2 ?_)
    refine bodyPost_ret (v := .tuple #[.agg #[.string ⟨#[]⟩, .string ⟨#[]⟩, .int .i64 0, .int .i64 0], .int .i64 7]) (by simp [results, Try.results28, go_sem]) rfl ⟨by rw [H.out]; rfl, ?_⟩
    exact ((Below.refl _ _).alloc (Nat.le_refl _) _).alloc (by simp) _
  | some l =>
    have hv : Hid (((byStr Lease.val b.f (.string name.data.toList)).getD Lease.zero.val) = l.val ∧ (byStr Lease.val b.f (.string name.data.toList)).isSome = true) := by constructor <;> simp [byStr, hf]
    have H : Hid (ownOf b name holder now = if l.holder = holder ∧ now < l.till then (l, 0) else (.zero, 12)) := by unfold ownOf; rw [hf]; rfl
    clear hf hB
    by_cases hh : l.holder = holder
    · have hb : (l.holder.toList == holder.toList) = true := by rw [hh]; simp
      have hb2 : l.holder.toList = holder.toList := by rw [hh]
      obtain ⟨c, hc⟩ : ∃ c, decide (now < l.till) = c := ⟨_, rfl⟩
      have hc2 : now < l.till ↔ c = true := by rw [← hc]; simp
      have HC := Lib.hid hc
      have HC2 := Lib.hid hc2
      have HHH := Lib.hid hh
      clear hc hh hc2
      cases c
      all_goals
        go_enter Try.func28, Try.ntmps28
        go_wp2_with (at_lookup; refine wpList_look_ok _ rfl _ _ 44 rfl 9 34 strKeyed Try.underlying44 (zeroLease _) bm b.n _ rfl (MapIs.below HM.out ((Below.refl _ _).alloc (Nat.le_refl _) _)) _ _ rfl HK.out (.agg #[.string l.name, .string l.holder, .int .i64 l.till, .int .i64 l.turns]) true hv.out.1 hv.out.2 ?_)
        refine (HH.out l now _).mono ?_
        rintro e w1 ⟨he, hb1⟩
        rw [HC.out] at he
        subst he
        obtain ⟨hc, hf⟩ := bcell hb1
        have hz := hb1.size
        have Hb1 := Lib.hid hb1
        clear hb1
        simp only [World.size_alloc] at hz
        go_wp2_with fail
        have hr := (Hb1.out.block w.heap.size (by simp; omega)).trans (heap_alloc2 _ _ _)
        obtain ⟨k0, k1, k2, k3⟩ := row4_cells hr
      · refine bodyPost_ret (v := .tuple #[.agg #[.string ⟨#[]⟩, .string ⟨#[]⟩, .int .i64 0, .int .i64 0], .int .i64 12]) (by simp [results, Try.results28, go_sem, k0, k1, k2, k3]) rfl ⟨by rw [H.out, if_neg (fun h => by have := HC2.out.1 h.2; cases this)]; rfl, ?_⟩
        exact below_set4 ((((Below.refl _ _).alloc (Nat.le_refl _) _).alloc (by simp) _).trans (Hb1.out.mono (by simp; omega))) (Nat.le_refl _) _ _ _ _
      · refine bodyPost_ret (v := .tuple #[.agg #[.string l.name, .string l.holder, .int .i64 l.till, .int .i64 l.turns], .int .i64 0]) (by simp [results, Try.results28, go_sem, k0, k1, k2, k3]) rfl ⟨by rw [H.out, if_pos ⟨HHH.out, HC2.out.2 trivial⟩]; rfl, ?_⟩
        exact below_set4 ((((Below.refl _ _).alloc (Nat.le_refl _) _).alloc (by simp) _).trans (Hb1.out.mono (by simp; omega))) (Nat.le_refl _) _ _ _ _
    · have hb : (l.holder.toList == holder.toList) = false := beq_eq_false_iff_ne.2 (fun h => hh (toList_inj.1 h))
      have hb2 : ¬ l.holder.toList = holder.toList := fun h => hh (toList_inj.1 h)
      have HHH := Lib.hid hh
      clear hh
      go_enter Try.func28, Try.ntmps28
      go_wp2_with (at_lookup; refine wpList_look_ok _ rfl _ _ 44 rfl 9 34 strKeyed Try.underlying44 (zeroLease _) bm b.n _ rfl (MapIs.below HM.out ((Below.refl _ _).alloc (Nat.le_refl _) _)) _ _ rfl HK.out (.agg #[.string l.name, .string l.holder, .int .i64 l.till, .int .i64 l.turns]) true hv.out.1 hv.out.2 ?_)
      refine bodyPost_ret (v := .tuple #[.agg #[.string ⟨#[]⟩, .string ⟨#[]⟩, .int .i64 0, .int .i64 0], .int .i64 12]) (by simp [results, Try.results28, go_sem]) rfl ⟨by rw [H.out, if_neg (fun h => HHH.out h.1)]; rfl, ?_⟩
      exact ((Below.refl _ _).alloc (Nat.le_refl _) _).alloc (by simp) _

set_option maxRecDepth 100000 in
set_option maxHeartbeats 1000000 in
theorem get_nil (name : ByteArray) (w : World) :
    Calls Try.prog 10 #[.pointer none, .string name] w fun e w' => e = .returned (.tuple #[Lease.zero.val, .bool false]) ∧ Below w.heap.size w w' := by
  go_enter Try.func10, Try.ntmps10
  go_wp2_with fail
  refine bodyPost_ret (v := .tuple #[.agg #[.string ⟨#[]⟩, .string ⟨#[]⟩, .int .i64 0, .int .i64 0], .bool false]) (by simp [results, Try.results10, go_sem]) rfl ⟨rfl, ?_⟩
  exact (Below.refl _ _).alloc (Nat.le_refl _) _

set_option maxRecDepth 100000 in
set_option maxHeartbeats 1000000 in
theorem get_any36 (bb bm : Nat) (b : Bd) (name : ByteArray) (w : World) (hB : BoardAt w bb bm b) (hn : name.size ≤ maxLen) :
    Calls Try.prog 10 #[.pointer (some ⟨bb, 0, none⟩), .string name] w fun e w' => e = .returned (.tuple #[((b.f name.data.toList).getD .zero).val, .bool (b.f name.data.toList).isSome]) ∧ Below w.heap.size w w' := by
  have c0 := cell_of_one hB.blk
  have s0 := blk c0
  have HM := Lib.hid (hB.map)
  have HK := Lib.hid (strKey hn)
  obtain ⟨l, hl⟩ : ∃ l, (b.f name.data.toList).getD .zero = l := ⟨_, rfl⟩
  obtain ⟨c, hc⟩ : ∃ c, (b.f name.data.toList).isSome = c := ⟨_, rfl⟩
  have hv : Hid (((byStr Lease.val b.f (.string name.data.toList)).getD Lease.zero.val) = l.val ∧ (byStr Lease.val b.f (.string name.data.toList)).isSome = c) := by
    rw [← hl, ← hc]
    cases hf : b.f name.data.toList <;> constructor <;> simp [byStr, hf]
  rw [hl, hc]
  clear hB hl hc
  go_enter Try.func10, Try.ntmps10
  go_wp2_with (at_lookup; refine wpList_look_ok _ rfl _ _ 44 rfl 9 34 strKeyed Try.underlying44 (zeroLease _) bm b.n _ rfl (MapIs.below HM.out ((Below.refl _ _).alloc (Nat.le_refl _) _)) _ _ rfl HK.out (.agg #[.string l.name, .string l.holder, .int .i64 l.till, .int .i64 l.turns]) c hv.out.1 hv.out.2 ?_)
  refine bodyPost_ret (v := .tuple #[.agg #[.string l.name, .string l.holder, .int .i64 l.till, .int .i64 l.turns], .bool c]) (by simp [results, Try.results10, go_sem]) rfl ⟨rfl, ?_⟩
  exact ((Below.refl _ _).alloc (Nat.le_refl _) _).alloc (by simp) _
end Go.Proofs.Ytcgfjbbdadjegaa
