/- Contracts of lease's Renew and Give. Condition: the board lies in blocks of the call's own. -/
import Derived.Test.YtcgfjbbdadjegaaLease3
namespace Go.Proofs.Ytcgfjbbdadjegaa
open Go.ChangeShapes Go.WideShapes Go.ChangeAt Go.RowKit Go.Deep Go.Maps

theorem take_any (bb bm : Nat) (b : Bd) (name holder : ByteArray) (now ticks : Int) (w : World) (hB : BoardAt w bb bm b) (hn : name.size ≤ maxLen) (h512 : b.n ≤ 512) :
    Calls Try.prog 7 #[.pointer (some ⟨bb, 0, none⟩), .string name, .string holder, .int .i64 now, .int .i64 ticks] w (TakePost bb bm b name holder now ticks w) := by
  by_cases hr : rightOf name holder now ticks = 0
  · cases hf : b.f name.data.toList with
    | none => exact take_none bb bm b name holder now ticks w hB hr hf hn h512
    | some l => exact take_some bb bm b name holder now ticks l w hB hr hf hn h512
  · exact take_err bb bm b name holder now ticks _ w hB rfl hr

def Bd.putAt (b : Bd) (s : List UInt8) (l : Lease) : Bd := ⟨if (b.f s).isSome then b.n else b.n + 1, sset b.f s l⟩

def renewWith (b : Bd) (name : ByteArray) (now ticks : Int) (p : Lease × Int) : Lease × Int × Bd :=
  if p.2 = 0 then (⟨p.1.name, p.1.holder, max p.1.till (now + ticks), p.1.turns⟩, 0, b.putAt name.data.toList ⟨p.1.name, p.1.holder, max p.1.till (now + ticks), p.1.turns⟩) else (.zero, p.2, b)

def renewOf (b : Bd) (name holder : ByteArray) (now ticks : Int) : Lease × Int × Bd :=
  if rightOf name holder now ticks = 0 then renewWith b name now ticks (ownOf b name holder now) else (.zero, rightOf name holder now ticks, b)

def giveWith (b : Bd) (name : ByteArray) (now : Int) (p : Lease × Int) : Int × Bd :=
  if p.2 = 0 then (0, b.putAt name.data.toList ⟨p.1.name, p.1.holder, now, p.1.turns⟩) else (p.2, b)

def giveOf (b : Bd) (name holder : ByteArray) (now : Int) : Int × Bd :=
  if rightOf name holder now 1 = 0 then giveWith b name now (ownOf b name holder now) else (rightOf name holder now 1, b)

theorem putAt_done {bb bm : Nat} {b : Bd} {s : List UInt8} {l : Lease} {w W w2 : World} (hB : BoardAt w bb bm b) (hW : Below w.heap.size w W)
    (hown : MapIs w2 Try.prog 9 bm (if (byStr Lease.val b.f (.string s)).isSome then b.n else b.n + 1) (fset (byStr Lease.val b.f) (.string s) l.val)) (hturn : W.mapTurned w2 bm) : BoardAt w2 bb bm (b.putAt s l) ∧ Fr (fun k => k = bm) w w2 := by
  have hF : Fr (fun k => k = bm) w w2 := (Fr.of_below hW (fun k => k = bm)).trans (Fr.turned (fun k => k = bm) hturn rfl) (fun i hi => .inl hi)
  refine ⟨⟨hF.heap hB.blk hB.ne, ?_⟩, hF⟩
  rw [fset_byStr] at hown
  have e : (byStr Lease.val b.f (.string s)).isSome = (b.f s).isSome := by simp [byStr]
  rw [e] at hown
  exact hown

def RenewPost (bb bm : Nat) (b : Bd) (name holder : ByteArray) (now ticks : Int) (w : World) (e : Ending) (w' : World) : Prop :=
  e = .returned (.tuple #[(renewOf b name holder now ticks).1.val, .int .i64 (renewOf b name holder now ticks).2.1]) ∧ BoardAt w' bb bm (renewOf b name holder now ticks).2.2 ∧ Fr (fun k => k = bm) w w'

theorem renew_same {bb bm : Nat} {b : Bd} {name holder : ByteArray} {now ticks : Int} {w w' : World} {r : Int} (hB : BoardAt w bb bm b) (h : renewOf b name holder now ticks = (.zero, r, b)) (hb : Below w.heap.size w w') :
    RenewPost bb bm b name holder now ticks w (.returned (.tuple #[.agg #[.string ⟨#[]⟩, .string ⟨#[]⟩, .int .i64 0, .int .i64 0], .int .i64 r])) w' := by
  unfold RenewPost
  rw [h]
  exact ⟨rfl, hB.fr (Fr.of_below hb (fun _ => False)) id id, Fr.of_below hb _⟩

theorem renew_done {bb bm : Nat} {b : Bd} {l : Lease} {name holder : ByteArray} {now ticks : Int} {w W w2 : World} (hB : BoardAt w bb bm b) (hW : Below w.heap.size w W)
    (hown : MapIs w2 Try.prog 9 bm (if (byStr Lease.val b.f (.string name.data.toList)).isSome then b.n else b.n + 1) (fset (byStr Lease.val b.f) (.string name.data.toList) l.val)) (hturn : W.mapTurned w2 bm)
    (ht : renewOf b name holder now ticks = (l, 0, b.putAt name.data.toList l)) (x0 x1 x2 x3 : Value) :
    RenewPost bb bm b name holder now ticks w (.returned (.tuple #[l.val, .int .i64 0])) ((((w2.setCell ⟨w.heap.size, 0, none⟩ x0).setCell ⟨w.heap.size, 1, none⟩ x1).setCell ⟨w.heap.size, 2, none⟩ x2).setCell ⟨w.heap.size, 3, none⟩ x3) := by
  obtain ⟨h1, h2⟩ := putAt_done hB hW hown hturn
  unfold RenewPost
  rw [ht]
  have s0 : bb < w.heap.size := (Array.getElem?_eq_some_iff.1 hB.blk).1
  have sm := MapIs.lt hB.map
  refine ⟨rfl, ⟨?_, ?_⟩, fr_set4 h2 (Nat.le_refl _) x0 x1 x2 x3⟩
  · rw [heap_set4 (by omega)]; exact h1.blk
  · exact MapIs.same h1.map (heap_set4 (by omega) _ _ _ _)

set_option maxRecDepth 100000 in
set_option maxHeartbeats 1000000 in
theorem renew_err (bb bm : Nat) (b : Bd) (name holder : ByteArray) (now ticks r : Int) (w : World) (hB : BoardAt w bb bm b) (hr : rightOf name holder now ticks = r) (h0 : r ≠ 0) :
    Calls Try.prog 17 #[.pointer (some ⟨bb, 0, none⟩), .string name, .string holder, .int .i64 now, .int .i64 ticks] w (RenewPost bb bm b name holder now ticks w) := by
  have HR : Hid (∀ w1, Calls Try.prog 13 #[.string name, .string holder, .int .i64 now, .int .i64 ticks] w1 fun e w' => e = .returned (.int .i64 r) ∧ w1 = w') := by rw [← hr]; exact fun w1 => right_any name holder now ticks w1
  have H := Lib.hid (renew_same (name := name) (holder := holder) (now := now) (ticks := ticks) hB (r := r) (w' := w.alloc (.cells #[.string ⟨#[]⟩, .string ⟨#[]⟩, .int .i64 0, .int .i64 0] 34)) (by unfold renewOf; rw [hr, if_neg h0]) ((Below.refl _ _).alloc (Nat.le_refl _) _))
  have hd : (r == 0) = false := beq_eq_false_iff_ne.2 h0
  clear hr hB
  go_enter Try.func17, Try.ntmps17
  go_wp2_with fail
  refine (HR.out _).mono ?_
  rintro e w1 ⟨rfl, rfl⟩
  go_wp2_with fail
  exact bodyPost_ret (v := .tuple #[.agg #[.string ⟨#[]⟩, .string ⟨#[]⟩, .int .i64 0, .int .i64 0], .int .i64 r]) (by simp [results, Try.results17, go_sem]) rfl H.out

set_option maxRecDepth 100000 in
set_option maxHeartbeats 2000000 in
theorem renew_own (bb bm : Nat) (b : Bd) (name holder : ByteArray) (now ticks : Int) (w : World) (hB : BoardAt w bb bm b) (hr : rightOf name holder now ticks = 0) (hn : name.size ≤ maxLen) (h512 : b.n ≤ 512) :
    Calls Try.prog 17 #[.pointer (some ⟨bb, 0, none⟩), .string name, .string holder, .int .i64 now, .int .i64 ticks] w (RenewPost bb bm b name holder now ticks w) := by
  have HR : Hid (∀ w1, Calls Try.prog 13 #[.string name, .string holder, .int .i64 now, .int .i64 ticks] w1 fun e w' => e = .returned (.int .i64 0) ∧ w1 = w') := by rw [← hr]; exact fun w1 => right_any name holder now ticks w1
  have c0 := cell_of_one hB.blk
  have s0 := blk c0
  have hne := hB.ne
  have HM := Lib.hid (hB.map)
  have sm := MapIs.lt HM.out
  have HK := Lib.hid (strKey hn)
  obtain ⟨g1, g2, g3, g4⟩ := right_range hr
  have HO := Lib.hid (own_any bb bm b name holder now (w.alloc (.cells #[.string ⟨#[]⟩, .string ⟨#[]⟩, .int .i64 0, .int .i64 0] 34)) (hB.fr ((Fr.refl (fun _ => False) w).alloc _) id id) hn)
  have HB := Lib.hid hB
  have HL : Hid (b.n < maxLen) := by unfold Hid maxLen; omega
  have HT : Hid (renewOf b name holder now ticks = renewWith b name now ticks (ownOf b name holder now)) := by unfold renewOf; rw [if_pos hr]; rfl
  clear hr hB hn h512
  obtain ⟨p, hp⟩ : ∃ p, ownOf b name holder now = p := ⟨_, rfl⟩
  rw [hp] at HO HT
  clear hp
  obtain ⟨l, r⟩ := p
  obtain ⟨l0, l1, l2, l3⟩ := l
  by_cases h0 : r = 0
  · subst h0
    have HT2 := Lib.hid (HT.out.trans (if_pos rfl))
    clear HT
    dsimp only at HO HT2
    have HO2 : Hid (Calls Try.prog 28 #[.pointer (some ⟨bb, 0, none⟩), .string name, .string holder, .int .i64 now] (w.alloc (.cells #[.string ⟨#[]⟩, .string ⟨#[]⟩, .int .i64 0, .int .i64 0] 34)) fun e w' => e = .returned (.tuple #[.agg #[.string l0, .string l1, .int .i64 l2, .int .i64 l3], .int .i64 0]) ∧ Below (w.heap.size + 1) (w.alloc (.cells #[.string ⟨#[]⟩, .string ⟨#[]⟩, .int .i64 0, .int .i64 0] 34)) w') := by
      have h := HO.out
      rw [World.size_alloc] at h
      exact h
    clear HO
    by_cases hmx : now + ticks ≤ l2
    all_goals
      go_enter Try.func17, Try.ntmps17
      go_wp2_with fail
      refine (HR.out _).mono ?_
      rintro e w1 ⟨rfl, rfl⟩
      go_wp2_with fail
      refine HO2.out.mono ?_
      rintro e w1 ⟨rfl, hb1⟩
      have hr0 := (hb1.block w.heap.size (by simp)).trans (heap_alloc_new _ _)
      obtain ⟨k0, k1, k2, k3⟩ := row4_cells hr0
      have z0 := row_free hr0
      have hz := hb1.size
      simp only [World.size_alloc] at hz
      have hz2 : w.heap.size < w1.heap.size := by omega
      have sb : bb < w1.heap.size := by omega
      have hW1 := ((Below.refl w.heap.size w).alloc (Nat.le_refl _) (.cells #[.string ⟨#[]⟩, .string ⟨#[]⟩, .int .i64 0, .int .i64 0] 34)).trans (hb1.mono (by omega))
      have cb : w1.cell? ⟨bb, 0, none⟩ = some (.map (some bm)) := (hW1.cell (p := ⟨bb, 0, none⟩) s0).trans c0
      have Hr0 := Lib.hid hr0
      have HW1 := Lib.hid hW1
      clear hb1 hr0 hW1
      go_wp2_with fail
    · have HT3 : Hid (renewOf b name holder now ticks = (⟨l0, l1, l2, l3⟩, 0, b.putAt name.data.toList ⟨l0, l1, l2, l3⟩)) := by rw [HT2.out, show max l2 (now + ticks) = l2 from by omega]; rfl
      obtain ⟨w2, hrun2, hown2, hturn2⟩ := MapIs.store (w := (w1.alloc (.cells #[.string l0, .string l1, .int .i64 l2, .int .i64 l3] 34)).drew) (MapIs.below HM.out ((HW1.out.alloc (by omega) _).drew)) strKeyed Try.underlying44 HL.out (val := (.agg #[.string l0, .string l1, .int .i64 l2, .int .i64 l3])) HK.out
      have Hown2 := Lib.hid hown2
      have Hturn2 := Lib.hid hturn2
      clear hown2 hturn2
      go_region
      have hr1 := (Hturn2.out.grown.block w1.heap.size (by simp [World.drew]) (by simp; omega)).trans (heap_alloc_new w1 _)
      have hr0 := (Hturn2.out.grown.block w.heap.size (by simp [World.drew]; omega) (by simp; omega)).trans ((Below.heap_alloc w1 _ _ (by omega)).trans Hr0.out)
      have hs2 := Hturn2.out.grown.size
      clear k0 k1 k2 k3 z0
      obtain ⟨c10, c11, c12, c13⟩ := row4_cells hr1
      obtain ⟨c20, c21, c22, c23⟩ := row4_cells hr0
      have z1 := row_free hr1
      have z0 := row_free hr0
      simp only [World.drew, World.size_alloc] at hs2
      go_wp2_with fail
      refine bodyPost_ret (v := .tuple #[.agg #[.string l0, .string l1, .int .i64 l2, .int .i64 l3], .int .i64 0]) (by simp [results, Try.results17, go_sem, c20, c21, c22, c23]) rfl ?_
      exact renew_done (l := ⟨l0, l1, l2, l3⟩) HB.out ((HW1.out.alloc (by omega) _).drew) Hown2.out Hturn2.out HT3.out _ _ _ _
    · have HT3 : Hid (renewOf b name holder now ticks = (⟨l0, l1, now + ticks, l3⟩, 0, b.putAt name.data.toList ⟨l0, l1, now + ticks, l3⟩)) := by rw [HT2.out, show max l2 (now + ticks) = now + ticks from by omega]; rfl
      obtain ⟨w2, hrun2, hown2, hturn2⟩ := MapIs.store (w := (w1.alloc (.cells #[.string l0, .string l1, .int .i64 (now + ticks), .int .i64 l3] 34)).drew) (MapIs.below HM.out ((HW1.out.alloc (by omega) _).drew)) strKeyed Try.underlying44 HL.out (val := (.agg #[.string l0, .string l1, .int .i64 (now + ticks), .int .i64 l3])) HK.out
      have Hown2 := Lib.hid hown2
      have Hturn2 := Lib.hid hturn2
      clear hown2 hturn2
      go_region
      have hr1 := (Hturn2.out.grown.block w1.heap.size (by simp [World.drew]) (by simp; omega)).trans (heap_alloc_new w1 _)
      have hr0 := (Hturn2.out.grown.block w.heap.size (by simp [World.drew]; omega) (by simp; omega)).trans ((Below.heap_alloc w1 _ _ (by omega)).trans Hr0.out)
      have hs2 := Hturn2.out.grown.size
      clear k0 k1 k2 k3 z0
      obtain ⟨c10, c11, c12, c13⟩ := row4_cells hr1
      obtain ⟨c20, c21, c22, c23⟩ := row4_cells hr0
      have z1 := row_free hr1
      have z0 := row_free hr0
      simp only [World.drew, World.size_alloc] at hs2
      go_wp2_with fail
      refine bodyPost_ret (v := .tuple #[.agg #[.string l0, .string l1, .int .i64 (now + ticks), .int .i64 l3], .int .i64 0]) (by simp [results, Try.results17, go_sem, c20, c21, c22, c23]) rfl ?_
      exact renew_done (l := ⟨l0, l1, (now + ticks), l3⟩) HB.out ((HW1.out.alloc (by omega) _).drew) Hown2.out Hturn2.out HT3.out _ _ _ _
  · have HT2 := Lib.hid (HT.out.trans (if_neg h0))
    clear HT
    dsimp only at HT2
    have hd : (r == 0) = false := beq_eq_false_iff_ne.2 h0
    have HO2 : Hid (Calls Try.prog 28 #[.pointer (some ⟨bb, 0, none⟩), .string name, .string holder, .int .i64 now] (w.alloc (.cells #[.string ⟨#[]⟩, .string ⟨#[]⟩, .int .i64 0, .int .i64 0] 34)) fun e w' => e = .returned (.tuple #[.agg #[.string l0, .string l1, .int .i64 l2, .int .i64 l3], .int .i64 r]) ∧ Below (w.heap.size + 1) (w.alloc (.cells #[.string ⟨#[]⟩, .string ⟨#[]⟩, .int .i64 0, .int .i64 0] 34)) w') := by
      have h := HO.out
      rw [World.size_alloc] at h
      exact h
    clear HO
    go_enter Try.func17, Try.ntmps17
    go_wp2_with fail
    refine (HR.out _).mono ?_
    rintro e w1 ⟨rfl, rfl⟩
    go_wp2_with fail
    refine HO2.out.mono ?_
    rintro e w1 ⟨rfl, hb1⟩
    have hr0 := (hb1.block w.heap.size (by simp)).trans (heap_alloc_new _ _)
    obtain ⟨k0, k1, k2, k3⟩ := row4_cells hr0
    have z0 := row_free hr0
    have hz := hb1.size
    simp only [World.size_alloc] at hz
    have hz2 : w.heap.size < w1.heap.size := by omega
    have sb : bb < w1.heap.size := by omega
    have hW1 := ((Below.refl w.heap.size w).alloc (Nat.le_refl _) (.cells #[.string ⟨#[]⟩, .string ⟨#[]⟩, .int .i64 0, .int .i64 0] 34)).trans (hb1.mono (by omega))
    have HW1 := Lib.hid hW1
    obtain ⟨f0, f1, f2, f3⟩ := row4_cells ((Below.heap_alloc _ (.cells #[.string l0, .string l1, .int .i64 l2, .int .i64 l3] 34) w.heap.size (by simp [World.setCell]; omega)).trans (row4 hr0 (.string ⟨#[]⟩) (.string ⟨#[]⟩) (.int .i64 0) (.int .i64 0)))
    have hF := Lib.hid (And.intro f0 (And.intro f1 (And.intro f2 f3)))
    clear hb1 hr0 hW1 f0 f1 f2 f3
    go_wp2_with fail
    refine bodyPost_ret (v := .tuple #[.agg #[.string ⟨#[]⟩, .string ⟨#[]⟩, .int .i64 0, .int .i64 0], .int .i64 r]) (by simp [results, Try.results17, go_sem, hF.out.1, hF.out.2.1, hF.out.2.2.1, hF.out.2.2.2]) rfl ?_
    exact renew_same HB.out HT2.out ((below_set4 HW1.out (Nat.le_refl _) _ _ _ _).alloc (by simp [World.setCell]; omega) _)

theorem renew_any (bb bm : Nat) (b : Bd) (name holder : ByteArray) (now ticks : Int) (w : World) (hB : BoardAt w bb bm b) (hn : name.size ≤ maxLen) (h512 : b.n ≤ 512) :
    Calls Try.prog 17 #[.pointer (some ⟨bb, 0, none⟩), .string name, .string holder, .int .i64 now, .int .i64 ticks] w (RenewPost bb bm b name holder now ticks w) := by
  by_cases hr : rightOf name holder now ticks = 0
  · exact renew_own bb bm b name holder now ticks w hB hr hn h512
  · exact renew_err bb bm b name holder now ticks _ w hB rfl hr
end Go.Proofs.Ytcgfjbbdadjegaa
