/- Contracts of lease's Take. Condition: the board lies in blocks of the call's own. -/
import Derived.Test.YtcgfjbbdadjegaaLease2
namespace Go.Proofs.Ytcgfjbbdadjegaa
open Go.ChangeShapes Go.WideShapes Go.ChangeAt Go.RowKit Go.Deep Go.Maps

/-- What Take answers: the lease, the error, the board. -/
def takeOf (b : Bd) (name holder : ByteArray) (now ticks : Int) : Lease × Int × Bd :=
  if rightOf name holder now ticks = 0 then
    match b.f name.data.toList with
    | some l => if l.holder = holder then (⟨name, holder, now + ticks, l.turns⟩, 0, b.put ⟨name, holder, now + ticks, l.turns⟩)
      else if now < l.till then (.zero, 12, b) else (⟨name, holder, now + ticks, wrap64 (l.turns + 1)⟩, 0, b.put ⟨name, holder, now + ticks, wrap64 (l.turns + 1)⟩)
    | none => if 512 ≤ b.n then (.zero, 10, b) else (⟨name, holder, now + ticks, 1⟩, 0, b.put ⟨name, holder, now + ticks, 1⟩)
  else (.zero, rightOf name holder now ticks, b)

theorem right_range {name holder : ByteArray} {now ticks : Int} (h : rightOf name holder now ticks = 0) : 0 ≤ now ∧ now ≤ 4611686018427387904 ∧ 1 ≤ ticks ∧ ticks ≤ 1800 := by
  unfold rightOf at h
  split at h
  · split at h
    · cases h
    · omega
  · cases h

def TakePost (bb bm : Nat) (b : Bd) (name holder : ByteArray) (now ticks : Int) (w : World) (e : Ending) (w' : World) : Prop :=
  e = .returned (.tuple #[(takeOf b name holder now ticks).1.val, .int .i64 (takeOf b name holder now ticks).2.1]) ∧ BoardAt w' bb bm (takeOf b name holder now ticks).2.2 ∧ Fr (fun k => k = bm) w w'

/-- Nothing but new blocks. -/
theorem take_same {bb bm : Nat} {b : Bd} {name holder : ByteArray} {now ticks : Int} {w w' : World} {r : Int} (hB : BoardAt w bb bm b) (h : takeOf b name holder now ticks = (.zero, r, b)) (hb : Below w.heap.size w w') :
    TakePost bb bm b name holder now ticks w (.returned (.tuple #[.agg #[.string ⟨#[]⟩, .string ⟨#[]⟩, .int .i64 0, .int .i64 0], .int .i64 r])) w' := by
  unfold TakePost
  rw [h]
  exact ⟨rfl, hB.fr (Fr.of_below hb (fun _ => False)) id id, Fr.of_below hb _⟩

/-- Behind the store of a lease. -/
theorem put_done {bb bm : Nat} {b : Bd} {l : Lease} {w W w2 : World} (hB : BoardAt w bb bm b) (hW : Below w.heap.size w W)
    (hown : MapIs w2 Try.prog 9 bm (if (byStr Lease.val b.f (.string l.name.data.toList)).isSome then b.n else b.n + 1) (fset (byStr Lease.val b.f) (.string l.name.data.toList) l.val)) (hturn : W.mapTurned w2 bm) : BoardAt w2 bb bm (b.put l) ∧ Fr (fun k => k = bm) w w2 := by
  have hF : Fr (fun k => k = bm) w w2 := (Fr.of_below hW (fun k => k = bm)).trans (Fr.turned (fun k => k = bm) hturn rfl) (fun i hi => .inl hi)
  refine ⟨⟨hF.heap hB.blk hB.ne, ?_⟩, hF⟩
  rw [fset_byStr] at hown
  have e : (byStr Lease.val b.f (.string l.name.data.toList)).isSome = (b.f l.name.data.toList).isSome := by simp [byStr]
  rw [e] at hown
  exact hown

theorem take_done {bb bm : Nat} {b : Bd} {l : Lease} {name holder : ByteArray} {now ticks : Int} {w W w2 : World} (hB : BoardAt w bb bm b) (hW : Below w.heap.size w W)
    (hown : MapIs w2 Try.prog 9 bm (if (byStr Lease.val b.f (.string l.name.data.toList)).isSome then b.n else b.n + 1) (fset (byStr Lease.val b.f) (.string l.name.data.toList) l.val)) (hturn : W.mapTurned w2 bm)
    (ht : takeOf b name holder now ticks = (l, 0, b.put l)) (x0 x1 x2 x3 : Value) :
    TakePost bb bm b name holder now ticks w (.returned (.tuple #[l.val, .int .i64 0])) ((((w2.setCell ⟨w.heap.size, 0, none⟩ x0).setCell ⟨w.heap.size, 1, none⟩ x1).setCell ⟨w.heap.size, 2, none⟩ x2).setCell ⟨w.heap.size, 3, none⟩ x3) := by
  obtain ⟨h1, h2⟩ := put_done hB hW hown hturn
  unfold TakePost
  rw [ht]
  have s0 : bb < w.heap.size := (Array.getElem?_eq_some_iff.1 hB.blk).1
  have sm := MapIs.lt hB.map
  refine ⟨rfl, ⟨?_, ?_⟩, fr_set4 h2 (Nat.le_refl _) x0 x1 x2 x3⟩
  · rw [heap_set4 (by omega)]; exact h1.blk
  · exact MapIs.same h1.map (heap_set4 (by omega) _ _ _ _)

set_option maxRecDepth 100000 in
set_option maxHeartbeats 1000000 in
theorem take_err (bb bm : Nat) (b : Bd) (name holder : ByteArray) (now ticks r : Int) (w : World) (hB : BoardAt w bb bm b) (hr : rightOf name holder now ticks = r) (h0 : r ≠ 0) :
    Calls Try.prog 7 #[.pointer (some ⟨bb, 0, none⟩), .string name, .string holder, .int .i64 now, .int .i64 ticks] w (TakePost bb bm b name holder now ticks w) := by
  have HR : Hid (∀ w1, Calls Try.prog 13 #[.string name, .string holder, .int .i64 now, .int .i64 ticks] w1 fun e w' => e = .returned (.int .i64 r) ∧ w1 = w') := by rw [← hr]; exact fun w1 => right_any name holder now ticks w1
  have H := Lib.hid (take_same (name := name) (holder := holder) (now := now) (ticks := ticks) hB (r := r) (w' := w.alloc (.cells #[.string ⟨#[]⟩, .string ⟨#[]⟩, .int .i64 0, .int .i64 0] 34)) (by unfold takeOf; rw [hr, if_neg h0]) ((Below.refl _ _).alloc (Nat.le_refl _) _))
  have hd : (r == 0) = false := beq_eq_false_iff_ne.2 h0
  clear hr hB
  go_enter Try.func7, Try.ntmps7
  go_wp2_with fail
  refine (HR.out _).mono ?_
  rintro e w1 ⟨rfl, rfl⟩
  go_wp2_with fail
  exact bodyPost_ret (v := .tuple #[.agg #[.string ⟨#[]⟩, .string ⟨#[]⟩, .int .i64 0, .int .i64 0], .int .i64 r]) (by simp [results, Try.results7, go_sem]) rfl H.out

set_option maxRecDepth 100000 in
set_option maxHeartbeats 2000000 in
theorem take_none (bb bm : Nat) (b : Bd) (name holder : ByteArray) (now ticks : Int) (w : World) (hB : BoardAt w bb bm b) (hr : rightOf name holder now ticks = 0) (hf : b.f name.data.toList = none) (hn : name.size ≤ maxLen) (h512 : b.n ≤ 512) :
    Calls Try.prog 7 #[.pointer (some ⟨bb, 0, none⟩), .string name, .string holder, .int .i64 now, .int .i64 ticks] w (TakePost bb bm b name holder now ticks w) := by
  have HR : Hid (∀ w1, Calls Try.prog 13 #[.string name, .string holder, .int .i64 now, .int .i64 ticks] w1 fun e w' => e = .returned (.int .i64 0) ∧ w1 = w') := by rw [← hr]; exact fun w1 => right_any name holder now ticks w1
  have c0 := cell_of_one hB.blk
  have s0 := blk c0
  have hne := hB.ne
  have HM := Lib.hid (hB.map)
  have sm := MapIs.lt HM.out
  have HK := Lib.hid (strKey hn)
  obtain ⟨g1, g2, g3, g4⟩ := right_range hr
  have hv : Hid (((byStr Lease.val b.f (.string name.data.toList)).getD Lease.zero.val) = .agg #[.string ⟨#[]⟩, .string ⟨#[]⟩, .int .i64 0, .int .i64 0] ∧ (byStr Lease.val b.f (.string name.data.toList)).isSome = false) := by constructor <;> simp [byStr, hf] <;> rfl
  have hT : Hid (takeOf b name holder now ticks = if 512 ≤ b.n then (.zero, 10, b) else (⟨name, holder, now + ticks, 1⟩, 0, b.put ⟨name, holder, now + ticks, 1⟩)) := by unfold takeOf; rw [if_pos hr, hf]; rfl
  have HB := Lib.hid hB
  obtain ⟨n, hnn⟩ : ∃ n, b.n = n := ⟨_, rfl⟩
  rw [hnn] at h512
  have Hnn := Lib.hid hnn
  clear hr hB hf hn hnn
  by_cases hfull : 512 ≤ n
  · go_enter Try.func7, Try.ntmps7
    go_wp2_with fail
    refine (HR.out _).mono ?_
    rintro e w1 ⟨rfl, rfl⟩
    go_wp2_with (first | (at_lookup; refine wpList_look_ok _ rfl _ _ 44 rfl 9 34 strKeyed Try.underlying44 (zeroLease _) bm b.n _ rfl (MapIs.below HM.out ((Below.refl _ _).alloc (Nat.le_refl _) _)) _ _ rfl HK.out (.agg #[.string ⟨#[]⟩, .string ⟨#[]⟩, .int .i64 0, .int .i64 0]) false hv.out.1 hv.out.2 ?_) | (at_len; refine wpList_map_len_g _ _ 44 rfl rfl 9 34 Try.underlying44 bm b.n _ rfl (MapIs.below HM.out (((Below.refl _ _).alloc (Nat.le_refl _) _).alloc (by simp) _)) ?_; rw [Hnn.out]))
    refine bodyPost_ret (v := .tuple #[.agg #[.string ⟨#[]⟩, .string ⟨#[]⟩, .int .i64 0, .int .i64 0], .int .i64 10]) (by simp [results, Try.results7, go_sem]) rfl ?_
    exact take_same HB.out (by rw [hT.out, if_pos (by rw [Hnn.out]; exact hfull)]) (((Below.refl _ _).alloc (Nat.le_refl _) _).alloc (by simp) _)
  · go_enter Try.func7, Try.ntmps7
    go_wp2_with fail
    refine (HR.out _).mono ?_
    rintro e w1 ⟨rfl, rfl⟩
    go_wp2_with (first | (at_lookup; refine wpList_look_ok _ rfl _ _ 44 rfl 9 34 strKeyed Try.underlying44 (zeroLease _) bm b.n _ rfl (MapIs.below HM.out ((Below.refl _ _).alloc (Nat.le_refl _) _)) _ _ rfl HK.out (.agg #[.string ⟨#[]⟩, .string ⟨#[]⟩, .int .i64 0, .int .i64 0]) false hv.out.1 hv.out.2 ?_) | (at_len; refine wpList_map_len_g _ _ 44 rfl rfl 9 34 Try.underlying44 bm b.n _ rfl (MapIs.below HM.out (((Below.refl _ _).alloc (Nat.le_refl _) _).alloc (by simp) _)) ?_; rw [Hnn.out]))
    obtain ⟨w2, hrun2, hown2, hturn2⟩ := MapIs.store (w := ((w.alloc (.cells #[.string ⟨#[]⟩, .string ⟨#[]⟩, .int .i64 0, .int .i64 0] 34)).alloc (.cells #[.string name, .string holder, .int .i64 (now + ticks), .int .i64 1] 34)).drew) (MapIs.below HM.out ((((Below.refl _ _).alloc (Nat.le_refl _) _).alloc (by simp) _).drew)) strKeyed Try.underlying44 (by rw [Hnn.out]; unfold maxLen; omega) (val := (.agg #[.string name, .string holder, .int .i64 (now + ticks), .int .i64 1])) HK.out
    have Hown2 := Lib.hid hown2
    have Hturn2 := Lib.hid hturn2
    clear hown2 hturn2
    go_region
    have hr1 := (Hturn2.out.grown.block (w.heap.size + 1) (by simp) (by simp; omega)).trans (heap_alloc3 _ _ _)
    have hr0 := (Hturn2.out.grown.block w.heap.size (by simp; omega) (by simp; omega)).trans (heap_alloc2 _ _ _)
    have hs2 := Hturn2.out.grown.size
    obtain ⟨c10, c11, c12, c13⟩ := row4_cells hr1
    obtain ⟨c20, c21, c22, c23⟩ := row4_cells hr0
    have z1 := row_free hr1
    have z0 := row_free hr0
    simp only [World.size_alloc, World.drew] at hs2
    go_wp2_with fail
    refine bodyPost_ret (v := .tuple #[.agg #[.string name, .string holder, .int .i64 (now + ticks), .int .i64 1], .int .i64 0]) (by simp [results, Try.results7, go_sem, c20, c21, c22, c23]) rfl ?_
    exact take_done (l := ⟨name, holder, now + ticks, 1⟩) HB.out ((((Below.refl _ _).alloc (Nat.le_refl _) _).alloc (by simp) _).drew) Hown2.out Hturn2.out (by rw [hT.out, if_neg (by rw [Hnn.out]; exact hfull)]) _ _ _ _

set_option maxRecDepth 100000 in
set_option maxHeartbeats 4000000 in
theorem take_some (bb bm : Nat) (b : Bd) (name holder : ByteArray) (now ticks : Int) (l : Lease) (w : World) (hB : BoardAt w bb bm b) (hr : rightOf name holder now ticks = 0) (hf : b.f name.data.toList = some l) (hn : name.size ≤ maxLen) (h512 : b.n ≤ 512) :
    Calls Try.prog 7 #[.pointer (some ⟨bb, 0, none⟩), .string name, .string holder, .int .i64 now, .int .i64 ticks] w (TakePost bb bm b name holder now ticks w) := by
  have HR : Hid (∀ w1, Calls Try.prog 13 #[.string name, .string holder, .int .i64 now, .int .i64 ticks] w1 fun e w' => e = .returned (.int .i64 0) ∧ w1 = w') := by rw [← hr]; exact fun w1 => right_any name holder now ticks w1
  have c0 := cell_of_one hB.blk
  have s0 := blk c0
  have hne := hB.ne
  have HM := Lib.hid (hB.map)
  have sm := MapIs.lt HM.out
  have HK := Lib.hid (strKey hn)
  obtain ⟨g1, g2, g3, g4⟩ := right_range hr
  have hv : Hid (((byStr Lease.val b.f (.string name.data.toList)).getD Lease.zero.val) = .agg #[.string l.name, .string l.holder, .int .i64 l.till, .int .i64 l.turns] ∧ (byStr Lease.val b.f (.string name.data.toList)).isSome = true) := by constructor <;> simp [byStr, hf] <;> rfl
  have hT : Hid (takeOf b name holder now ticks = if l.holder = holder then (⟨name, holder, now + ticks, l.turns⟩, 0, b.put ⟨name, holder, now + ticks, l.turns⟩)
      else if now < l.till then (.zero, 12, b) else (⟨name, holder, now + ticks, wrap64 (l.turns + 1)⟩, 0, b.put ⟨name, holder, now + ticks, wrap64 (l.turns + 1)⟩)) := by unfold takeOf; rw [if_pos hr, hf]; rfl
  have HB := Lib.hid hB
  have HL : Hid (b.n < maxLen) := by unfold Hid maxLen; omega
  clear hr hB hf hn h512
  obtain ⟨c, hc⟩ : ∃ c, decide (now < l.till) = c := ⟨_, rfl⟩
  have HH : Hid (∀ w1, Calls Try.prog 14 #[.agg #[.string l.name, .string l.holder, .int .i64 l.till, .int .i64 l.turns], .int .i64 now] w1 fun e w' => e = .returned (.bool c) ∧ Below w1.heap.size w1 w') := by rw [← hc]; exact fun w1 => held_any l now w1
  have HC : Hid (now < l.till ↔ c = true) := by rw [← hc]; show _ ↔ _; simp
  clear hc
  by_cases hh : l.holder = holder
  · have hb : (l.holder.toList == holder.toList) = true := by rw [hh]; simp
    have hb2 : l.holder.toList = holder.toList := by rw [hh]
    have HT2 : Hid (takeOf b name holder now ticks = (⟨name, holder, now + ticks, l.turns⟩, 0, b.put ⟨name, holder, now + ticks, l.turns⟩)) := hT.out.trans (if_pos hh)
    clear hh
    go_enter Try.func7, Try.ntmps7
    go_wp2_with fail
    refine (HR.out _).mono ?_
    rintro e w1 ⟨rfl, rfl⟩
    go_wp2_with (at_lookup; refine wpList_look_ok _ rfl _ _ 44 rfl 9 34 strKeyed Try.underlying44 (zeroLease _) bm b.n _ rfl (MapIs.below HM.out ((Below.refl _ _).alloc (Nat.le_refl _) _)) _ _ rfl HK.out (.agg #[.string l.name, .string l.holder, .int .i64 l.till, .int .i64 l.turns]) true hv.out.1 hv.out.2 ?_)
    refine (HH.out _).mono ?_
    rintro e w1 ⟨rfl, hb1⟩
    have hr1 := (hb1.block (w.heap.size + 1) (by simp)).trans (heap_alloc3 _ _ _)
    have hr0 := (hb1.block w.heap.size (by simp; omega)).trans (heap_alloc2 _ _ _)
    obtain ⟨c10, c11, c12, c13⟩ := row4_cells hr1
    have z1 := row_free hr1
    obtain ⟨k0, k1, k2, k3⟩ := row4_cells hr0
    have z0 := row_free hr0
    have hz := hb1.size
    simp only [World.size_alloc] at hz
    have hW1 := (((Below.refl w.heap.size w).alloc (Nat.le_refl _) (.cells #[.string ⟨#[]⟩, .string ⟨#[]⟩, .int .i64 0, .int .i64 0] 34)).alloc (by simp) (.cells #[.string l.name, .string l.holder, .int .i64 l.till, .int .i64 l.turns] 34)).trans (hb1.mono (by simp; omega))
    have cb : w1.cell? ⟨bb, 0, none⟩ = some (.map (some bm)) := (hW1.cell (p := ⟨bb, 0, none⟩) s0).trans c0
    have Hr1 := Lib.hid hr1
    have Hr0 := Lib.hid hr0
    have HW1 := Lib.hid hW1
    clear hb1 hr1 hr0 hW1
    go_wp2_with fail
    all_goals
      obtain ⟨w2, hrun2, hown2, hturn2⟩ := MapIs.store (w := ((((w1.setCell ⟨w.heap.size + 1, 0, none⟩ (.string name)).setCell ⟨w.heap.size + 1, 1, none⟩ (.string holder)).setCell ⟨w.heap.size + 1, 2, none⟩ (.int .i64 (now + ticks))).setCell ⟨w.heap.size + 1, 3, none⟩ (.int .i64 l.turns)).drew) (MapIs.below HM.out ((below_set4 HW1.out (by omega) _ _ _ _).drew)) strKeyed Try.underlying44 HL.out (val := (.agg #[.string name, .string holder, .int .i64 (now + ticks), .int .i64 l.turns])) HK.out
      have Hown2 := Lib.hid hown2
      have Hturn2 := Lib.hid hturn2
      clear hown2 hturn2
      go_region
      have hr1 := (Hturn2.out.grown.block (w.heap.size + 1) (by simp [World.drew, World.setCell]; omega) (by simp; omega)).trans (row4 Hr1.out _ _ _ _)
      have hr0 := (Hturn2.out.grown.block w.heap.size (by simp [World.drew, World.setCell]; omega) (by simp; omega)).trans ((heap_set4 (by omega) _ _ _ _).trans Hr0.out)
      have hs2 := Hturn2.out.grown.size
      clear k0 k1 k2 k3 c10 c11 c12 c13 z1 z0
      obtain ⟨c10, c11, c12, c13⟩ := row4_cells hr1
      obtain ⟨c20, c21, c22, c23⟩ := row4_cells hr0
      have z1 := row_free hr1
      have z0 := row_free hr0
      simp only [World.drew, World.setCell, Array.size_modify] at hs2
      go_wp2_with fail
      refine bodyPost_ret (v := .tuple #[.agg #[.string name, .string holder, .int .i64 (now + ticks), .int .i64 l.turns], .int .i64 0]) (by simp [results, Try.results7, go_sem, c20, c21, c22, c23]) rfl ?_
      exact take_done (l := ⟨name, holder, now + ticks, l.turns⟩) HB.out ((below_set4 HW1.out (by omega) _ _ _ _).drew) Hown2.out Hturn2.out HT2.out _ _ _ _
  · have hb : (l.holder.toList == holder.toList) = false := beq_eq_false_iff_ne.2 (fun h => hh (toList_inj.1 h))
    have hb2 : ¬ l.holder.toList = holder.toList := fun h => hh (toList_inj.1 h)
    have HT1 : Hid (takeOf b name holder now ticks = if now < l.till then (.zero, 12, b) else (⟨name, holder, now + ticks, wrap64 (l.turns + 1)⟩, 0, b.put ⟨name, holder, now + ticks, wrap64 (l.turns + 1)⟩)) := hT.out.trans (if_neg hh)
    clear hh
    cases c
    · have HT2 : Hid (takeOf b name holder now ticks = (⟨name, holder, now + ticks, wrap64 (l.turns + 1)⟩, 0, b.put ⟨name, holder, now + ticks, wrap64 (l.turns + 1)⟩)) := HT1.out.trans (if_neg (fun h => by have := HC.out.1 h; cases this))
      go_enter Try.func7, Try.ntmps7
      go_wp2_with fail
      refine (HR.out _).mono ?_
      rintro e w1 ⟨rfl, rfl⟩
      go_wp2_with (at_lookup; refine wpList_look_ok _ rfl _ _ 44 rfl 9 34 strKeyed Try.underlying44 (zeroLease _) bm b.n _ rfl (MapIs.below HM.out ((Below.refl _ _).alloc (Nat.le_refl _) _)) _ _ rfl HK.out (.agg #[.string l.name, .string l.holder, .int .i64 l.till, .int .i64 l.turns]) true hv.out.1 hv.out.2 ?_)
      refine (HH.out _).mono ?_
      rintro e w1 ⟨rfl, hb1⟩
      have hr1 := (hb1.block (w.heap.size + 1) (by simp)).trans (heap_alloc3 _ _ _)
      have hr0 := (hb1.block w.heap.size (by simp; omega)).trans (heap_alloc2 _ _ _)
      obtain ⟨c10, c11, c12, c13⟩ := row4_cells hr1
      have z1 := row_free hr1
      obtain ⟨k0, k1, k2, k3⟩ := row4_cells hr0
      have z0 := row_free hr0
      have hz := hb1.size
      simp only [World.size_alloc] at hz
      have hW1 := (((Below.refl w.heap.size w).alloc (Nat.le_refl _) (.cells #[.string ⟨#[]⟩, .string ⟨#[]⟩, .int .i64 0, .int .i64 0] 34)).alloc (by simp) (.cells #[.string l.name, .string l.holder, .int .i64 l.till, .int .i64 l.turns] 34)).trans (hb1.mono (by simp; omega))
      have cb : w1.cell? ⟨bb, 0, none⟩ = some (.map (some bm)) := (hW1.cell (p := ⟨bb, 0, none⟩) s0).trans c0
      have Hr1 := Lib.hid hr1
      have Hr0 := Lib.hid hr0
      have HW1 := Lib.hid hW1
      clear hb1 hr1 hr0 hW1
      go_wp2_with fail
      obtain ⟨w2, hrun2, hown2, hturn2⟩ := MapIs.store (w := ((((w1.setCell ⟨w.heap.size + 1, 0, none⟩ (.string name)).setCell ⟨w.heap.size + 1, 1, none⟩ (.string holder)).setCell ⟨w.heap.size + 1, 2, none⟩ (.int .i64 (now + ticks))).setCell ⟨w.heap.size + 1, 3, none⟩ (.int .i64 (wrap64 (l.turns + 1)))).drew) (MapIs.below HM.out ((below_set4 HW1.out (by omega) _ _ _ _).drew)) strKeyed Try.underlying44 HL.out (val := (.agg #[.string name, .string holder, .int .i64 (now + ticks), .int .i64 (wrap64 (l.turns + 1))])) HK.out
      have Hown2 := Lib.hid hown2
      have Hturn2 := Lib.hid hturn2
      clear hown2 hturn2
      go_region
      have hr1 := (Hturn2.out.grown.block (w.heap.size + 1) (by simp [World.drew, World.setCell]; omega) (by simp; omega)).trans (row4 Hr1.out _ _ _ _)
      have hr0 := (Hturn2.out.grown.block w.heap.size (by simp [World.drew, World.setCell]; omega) (by simp; omega)).trans ((heap_set4 (by omega) _ _ _ _).trans Hr0.out)
      have hs2 := Hturn2.out.grown.size
      clear k0 k1 k2 k3 c10 c11 c12 c13 z1 z0
      obtain ⟨c10, c11, c12, c13⟩ := row4_cells hr1
      obtain ⟨c20, c21, c22, c23⟩ := row4_cells hr0
      have z1 := row_free hr1
      have z0 := row_free hr0
      simp only [World.drew, World.setCell, Array.size_modify] at hs2
      go_wp2_with fail
      refine bodyPost_ret (v := .tuple #[.agg #[.string name, .string holder, .int .i64 (now + ticks), .int .i64 (wrap64 (l.turns + 1))], .int .i64 0]) (by simp [results, Try.results7, go_sem, c20, c21, c22, c23]) rfl ?_
      exact take_done (l := ⟨name, holder, now + ticks, (wrap64 (l.turns + 1))⟩) HB.out ((below_set4 HW1.out (by omega) _ _ _ _).drew) Hown2.out Hturn2.out HT2.out _ _ _ _
    · have HT2 : Hid (takeOf b name holder now ticks = (.zero, 12, b)) := HT1.out.trans (if_pos (HC.out.2 rfl))
      go_enter Try.func7, Try.ntmps7
      go_wp2_with fail
      refine (HR.out _).mono ?_
      rintro e w1 ⟨rfl, rfl⟩
      go_wp2_with (at_lookup; refine wpList_look_ok _ rfl _ _ 44 rfl 9 34 strKeyed Try.underlying44 (zeroLease _) bm b.n _ rfl (MapIs.below HM.out ((Below.refl _ _).alloc (Nat.le_refl _) _)) _ _ rfl HK.out (.agg #[.string l.name, .string l.holder, .int .i64 l.till, .int .i64 l.turns]) true hv.out.1 hv.out.2 ?_)
      refine (HH.out _).mono ?_
      rintro e w1 ⟨rfl, hb1⟩
      have hr1 := (hb1.block (w.heap.size + 1) (by simp)).trans (heap_alloc3 _ _ _)
      have hr0 := (hb1.block w.heap.size (by simp; omega)).trans (heap_alloc2 _ _ _)
      obtain ⟨c10, c11, c12, c13⟩ := row4_cells hr1
      have z1 := row_free hr1
      obtain ⟨k0, k1, k2, k3⟩ := row4_cells hr0
      have z0 := row_free hr0
      have hz := hb1.size
      simp only [World.size_alloc] at hz
      have hW1 := (((Below.refl w.heap.size w).alloc (Nat.le_refl _) (.cells #[.string ⟨#[]⟩, .string ⟨#[]⟩, .int .i64 0, .int .i64 0] 34)).alloc (by simp) (.cells #[.string l.name, .string l.holder, .int .i64 l.till, .int .i64 l.turns] 34)).trans (hb1.mono (by simp; omega))
      have cb : w1.cell? ⟨bb, 0, none⟩ = some (.map (some bm)) := (hW1.cell (p := ⟨bb, 0, none⟩) s0).trans c0
      have Hr1 := Lib.hid hr1
      have Hr0 := Lib.hid hr0
      have HW1 := Lib.hid hW1
      clear hb1 hr1 hr0 hW1
      go_wp2_with fail
      refine bodyPost_ret (v := .tuple #[.agg #[.string ⟨#[]⟩, .string ⟨#[]⟩, .int .i64 0, .int .i64 0], .int .i64 12]) (by simp [results, Try.results7, go_sem, k0, k1, k2, k3]) rfl ?_
      exact take_same HB.out HT2.out (below_set4 HW1.out (Nat.le_refl _) _ _ _ _)
end Go.Proofs.Ytcgfjbbdadjegaa
