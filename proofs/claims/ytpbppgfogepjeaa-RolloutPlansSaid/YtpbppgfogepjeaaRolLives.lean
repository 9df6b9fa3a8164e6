/- Chapter 35's example is as it should be. No condition. -/
import Derived.Test.YtpbppgfogepjeaaRolPlan2
namespace Go.Proofs.Ytpbppgfogepjeaa
open Go.ChangeShapes Go.WideShapes Go.ChangeAt Go.RowKit Go.Deep

def nr35 {α : Type} : RowV α := ⟨none, 0, 0, []⟩
def exO (r c : Int) (ow : ByteArray) (ph pc : Int) : ShapesV := ⟨⟨r, c, 0, nr35, nr35, nr35, 0⟩, ⟨ow, ⟨#[]⟩, ph, 0, pc, 0, nr35, nr35, nr35, 0⟩, ⟨⟨#[]⟩, 0, 0, nr35, nr35, 0, false⟩, ⟨0, 0, 0, 0, 0, nr35, nr35, 0⟩, ⟨⟨#[]⟩, 0, 0, nr35, 0, ⟨0, 0, nr35⟩, ⟨0, 0, nr35⟩, nr35⟩⟩
def exW : ObI := ⟨0, ⟨#[119]⟩, 0, exO 2 2 ⟨#[]⟩ 0 0⟩
def exP : ObI := ⟨1, ⟨#[112]⟩, 0, exO 0 0 ⟨#[119]⟩ 2 1⟩
def exQ : ObI := ⟨1, ⟨#[113]⟩, 0, exO 0 0 ⟨#[119]⟩ 2 1⟩
theorem slN35 {α : Type} {R : World → α → List Value → Prop} {sz : Nat} {w : World} : SlR R sz w none 0 0 [] := ⟨rfl, Nat.le_refl _, Nat.zero_le _, fun _ => rfl, fun a h => by cases h⟩
theorem exO_at (r c : Int) (ow nm : ByteArray) (ph pc : Int) (k : Int) (h1 : ow.size ≤ maxLen) (h2 : nm.size ≤ maxLen) (w : World) : ObAt w ⟨k, nm, 0, exO r c ow ph pc⟩ :=
  ⟨⟨⟨slN35, slN35, slN35⟩, ⟨slN35, slN35, slN35⟩, ⟨slN35, slN35⟩, ⟨slN35, slN35⟩, ⟨slN35, slN35, slN35, slN35⟩⟩,
   ⟨h2, (fun _ h => absurd h (Nat.not_lt_zero _)), (fun _ h => absurd h (Nat.not_lt_zero _)), (fun _ h => absurd h (Nat.not_lt_zero _)), h1, Nat.zero_le _, (fun _ h => absurd h (Nat.not_lt_zero _)), (fun _ h => absurd h (Nat.not_lt_zero _)), (fun _ h => absurd h (Nat.not_lt_zero _)), Nat.zero_le _, (fun _ h => absurd h (Nat.not_lt_zero _)), (fun _ h => absurd h (Nat.not_lt_zero _)), (fun _ h => absurd h (Nat.not_lt_zero _)), (fun _ h => absurd h (Nat.not_lt_zero _)), Nat.zero_le _, (fun _ h => absurd h (Nat.not_lt_zero _))⟩⟩
theorem exW_at (w : World) : ObAt w exW := exO_at 2 2 ⟨#[]⟩ ⟨#[119]⟩ 0 0 0 (by decide) (by decide) w
theorem exP_at (w : World) : ObAt w exP := exO_at 0 0 ⟨#[119]⟩ ⟨#[112]⟩ 2 1 1 (by decide) (by decide) w
theorem exQ_at (w : World) : ObAt w exQ := exO_at 0 0 ⟨#[119]⟩ ⟨#[113]⟩ 2 1 1 (by decide) (by decide) w
theorem ex_old : freshB exW exP = false ∧ freshB exW exQ = false := by
  constructor <;> (unfold freshB; rw [show askB exW _ = false from rfl]; simp)
theorem live_p : isLive exW.nm exP.ov = true := by
  show (((1 : Int) == 1) && ((⟨#[119]⟩ : ByteArray).toList == (⟨#[119]⟩ : ByteArray).toList)) && !((2 : Int) == 3) = true
  simp
theorem live_q : isLive exW.nm exQ.ov = true := live_p
theorem all_ready {α : Type} (pv : α → Pv) (M : Int) : ∀ l : List α, (∀ y ∈ l, (pv y).ph = 2) → ∀ s : Int × List ByteArray, s.1 ≤ 0 → l.foldl (gStep pv M) s = s
  | [], _, _, _ => rfl
  | y :: l, h, s, h0 => by
    have e : gStep pv M s y = s := by
      unfold gStep
      rw [if_pos (h y (by simp)), if_pos h0, ite_self]
    rw [List.foldl_cons, e]
    exact all_ready pv M l (fun z hz => h z (by simp [hz])) s h0
theorem ex_step {ys : List ObI} (h : SortedO (liveI exW [exP, exQ]) ys) : stepI (pvI exW) 2 1 0 (ys.filter fun y => !freshB exW y) (ys.filter fun y => freshB exW y) = ⟨1, [], false⟩ := by
  have hl : liveI exW [exP, exQ] = [exP, exQ] := by
    unfold liveI
    rw [List.filter_cons, if_pos live_p, List.filter_cons, if_pos live_q]
    rfl
  rw [hl] at h
  have hm : ∀ y ∈ ys, y = exP ∨ y = exQ := fun y hy => by simpa using h.mem hy
  have hlen : ys.length = 2 := h.length
  have ho : ∀ y ∈ ys, freshB exW y = false := fun y hy => by
    rcases hm y hy with rfl | rfl
    · exact ex_old.1
    · exact ex_old.2
  have f1 : (ys.filter fun y => !freshB exW y) = ys := List.filter_eq_self.2 fun y hy => by rw [ho y hy]; rfl
  have f2 : (ys.filter fun y => freshB exW y) = [] := List.filter_eq_nil_iff.2 fun y hy => by rw [ho y hy]; decide
  have hp : ∀ y ∈ ys, (pvI exW y).ph = 2 := fun y hy => by
    rcases hm y hy with rfl | rfl <;> rfl
  have hr : rdy (pvI exW) ys = 2 := by
    unfold rdy
    rw [List.filter_eq_self.2 fun y hy => by rw [hp y hy]; rfl, hlen]
    rfl
  rw [f1, f2]
  unfold stepI
  dsimp only
  rw [hr, hlen, show rdy (pvI exW) [] = 0 from rfl, all_ready (pvI exW) _ ys hp _ (by decide)]
  rfl

set_option maxRecDepth 100000 in
theorem twoSl35 (x y : ObI) (w : World) : (Instr.buildSlice 54 2 [(0, .agg x.cells.toArray), (1, .agg y.cells.toArray)].toArray).run Try.prog w = .ok (.slice (some ⟨w.heap.size, 0, none⟩) 2 2) (w.alloc (.cells (x.cells ++ y.cells).toArray 44)) := by kernel_rfl
theorem exQ_cells : exP.cells.toArray.setIfInBounds 1 (.string ⟨#[113]⟩) = exQ.cells.toArray := rfl
theorem cells_at {W : World} {b : Nat} {cs : List Value} {T : TypeId} (h : W.heap[b]? = some (.cells cs.toArray T (0, 0))) : ∀ j u, cs[j]? = some u → W.cell? ((⟨b, 0, none⟩ : Addr).add j) = some u := fun j u hu => by
  rw [Addr.add_lit, Nat.zero_add, cell_of_row W b j _ _ _ h]
  simpa using hu

set_option maxRecDepth 100000 in
set_option maxHeartbeats 1000000 in
theorem rlives35 (w : World) : Calls Try.prog 19 #[] w fun e w' => e = .returned (.bool true) ∧ Below w.heap.size w w' := by
  obtain ⟨wc, hwc⟩ : ∃ c, exW.cells = c := ⟨_, rfl⟩
  obtain ⟨pc, hpc⟩ : ∃ c, exP.cells = c := ⟨_, rfl⟩
  obtain ⟨qc, hqc⟩ : ∃ c, exQ.cells = c := ⟨_, rfl⟩
  have hwl : wc.length = 47 := by rw [← hwc]; rfl
  have hpl : pc.length = 47 := by rw [← hpc]; rfl
  have hql : qc.length = 47 := by rw [← hqc]; rfl
  have hwo : wc.all (fun u => u.oneCell') = true := by rw [← hwc]; exact exW.one
  have hpo : pc.all (fun u => u.oneCell') = true := by rw [← hpc]; exact exP.one
  have hset : pc.toArray.setIfInBounds 1 (.string ⟨#[113]⟩) = qc.toArray := by rw [← hpc, ← hqc]; exact exQ_cells
  have Hset := Lib.hid hset
  have Hwc := Lib.hid hwc
  have Hpc := Lib.hid hpc
  have Hqc := Lib.hid hqc
  have Htwo : Hid (∀ w : World, (Instr.buildSlice 54 2 [(0, .agg pc.toArray), (1, .agg qc.toArray)].toArray).run Try.prog w = .ok (.slice (some ⟨w.heap.size, 0, none⟩) 2 2) (w.alloc (.cells (pc ++ qc).toArray 44))) := fun w => by rw [← hpc, ← hqc]; exact twoSl35 exP exQ w
  obtain ⟨w1, hw1⟩ : ∃ q, w.alloc (.cells wc.toArray 44) = q := ⟨_, rfl⟩
  obtain ⟨w2, hw2⟩ : ∃ q, w1.alloc (.cells pc.toArray 44) = q := ⟨_, rfl⟩
  obtain ⟨w3, hw3⟩ : ∃ q, w2.alloc (.cells pc.toArray 44) = q := ⟨_, rfl⟩
  have hz1 : w1.heap.size = w.heap.size + 1 := by rw [← hw1]; simp
  have hz2 : w2.heap.size = w.heap.size + 2 := by rw [← hw2]; simp; omega
  have hz3 : w3.heap.size = w.heap.size + 3 := by rw [← hw3]; simp; omega
  have hb1 : Below w.heap.size w w1 := by rw [← hw1]; exact (Below.refl _ _).alloc (Nat.le_refl _) _
  have hb2 : Below w1.heap.size w1 w2 := by rw [← hw2]; exact (Below.refl _ _).alloc (Nat.le_refl _) _
  have hb3 : Below w2.heap.size w2 w3 := by rw [← hw3]; exact (Below.refl _ _).alloc (Nat.le_refl _) _
  have r1 : w1.heap[w.heap.size]? = some (.cells wc.toArray 44 (0, 0)) := by rw [← hw1]; exact heap_alloc_new _ _
  have r2 : w2.heap[w1.heap.size]? = some (.cells pc.toArray 44 (0, 0)) := by rw [← hw2]; exact heap_alloc_new _ _
  have r3 : w3.heap[w2.heap.size]? = some (.cells pc.toArray 44 (0, 0)) := by rw [← hw3]; exact heap_alloc_new _ _
  have HB3 := Lib.hid ((hb1.trans (hb2.mono (by omega))).trans (hb3.mono (by omega)))
  have R31 := Lib.hid ((hb3.block _ (by omega)).trans ((hb2.block _ (by omega)).trans r1))
  have R32 := Lib.hid ((hb3.block _ (by omega)).trans r2)
  have R33 := Lib.hid r3
  obtain ⟨N, hN⟩ : ∃ N, w.heap.size = N := ⟨_, rfl⟩
  have c2 := cells_at r2
  have k1 : w3.cell? ⟨w2.heap.size, 1, none⟩ = some (.string ⟨#[112]⟩) := by
    rw [cell_of_row _ _ 1 _ _ _ r3, ← hpc]
    rfl
  have f1 := row_free r3 1
  obtain ⟨w4, hw4⟩ : ∃ q, w3.setCell ⟨w2.heap.size, 1, none⟩ (.string ⟨#[113]⟩) = q := ⟨_, rfl⟩
  have hF4 : Fr (fun k => k = w2.heap.size) w3 w4 := by rw [← hw4]; exact Fr.setC (fun k => k = w2.heap.size) w3 ⟨w2.heap.size, 1, none⟩ _ rfl
  have r43 : w4.heap[w2.heap.size]? = some (.cells qc.toArray 44 (0, 0)) := by rw [← hw4, ← Hset.out]; exact row_setCell R33.out _
  have r41 := (hF4.block _ (by omega) (by omega)).trans R31.out
  have r42 := (hF4.block _ (by omega) (by omega)).trans R32.out
  have c41 := cells_at r41
  have c42 := cells_at r42
  have c43 := cells_at r43
  have HB4 : Hid (Below w.heap.size w w4) := HB3.out.trans (hF4.below (by omega) (fun k hk => by omega))
  obtain ⟨w5, hw5⟩ : ∃ q, w4.alloc (.cells (pc ++ qc).toArray 44) = q := ⟨_, rfl⟩
  have hb5 : Below w4.heap.size w4 w5 := by rw [← hw5]; exact (Below.refl _ _).alloc (Nat.le_refl _) _
  have hS5 : SlR (Flat ObI.cells) 47 w5 (some ⟨w4.heap.size, 0, none⟩) 2 2 [exP, exQ] := by
    rw [← hw5]
    exact SlR.of_new (f := ObI.cells) (sz := 47) w4 [exP, exQ] 44 _ 2 rfl (by unfold maxLen; omega) (fun _ => rfl) (by rw [← Hpc.out, ← Hqc.out]; simp)
  have HB5 : Hid (Below w.heap.size w w5) := HB4.out.trans (hb5.mono HB4.out.size)
  have hPl := plan_any 1 0 exW [exP, exQ] _ 2 2 w5 (by decide) (exW_at w5) hS5 (fun y hy => by
    rcases List.mem_cons.1 hy with rfl | hy
    · exact exP_at w5
    · rw [List.mem_singleton.1 hy]; exact exQ_at w5) rfl (by omega) (by decide)
  rw [hwc] at hPl
  have HPl := Lib.hid hPl
  rw [hz2] at k1 f1 hw4 c43
  rw [hz1] at c42
  clear hwc hpc hqc hset hb1 hb2 hb3 r1 r2 r3 hF4 r41 r42 r43 hb5 hS5 hPl R31 R32 R33 HB3 HB4 hN N
  go_enter Try.func19, Try.ntmps19
  go_wp2_with (first
    | ((with_reducible refine at_slot 8 ?_); go_must (refine wpList_build rfl 44 [(0, _), (1, _), (3, _)] rfl _ rfl (.agg wc.toArray) (fun w => by rw [← Hwc.out]; kernel_rfl) ?_))
    | ((with_reducible refine at_slot 1 ?_); go_must (refine wpList_var aggObI rfl rfl rfl _ _ rfl rfl wc.toArray rfl rfl (by simp [hwl]) (by simpa using hwo) ?_; rw [hw1]))
    | ((with_reducible refine at_slot 11 ?_); go_must (refine wpList_build rfl 44 [(0, _), (1, _), (4, _)] rfl _ rfl (.agg pc.toArray) (fun w => by rw [← Hpc.out]; kernel_rfl) ?_))
    | ((with_reducible refine at_slot 2 ?_); go_must (refine wpList_var aggObI rfl rfl rfl _ _ rfl rfl pc.toArray rfl rfl (by simp [hpl]) (by simpa using hpo) ?_; rw [hw2]))
    | ((with_reducible refine at_slot 12 ?_); go_must (refine wpList_load_at aggObI rfl _ rfl ⟨w1.heap.size, 0, none⟩ rfl pc hpl c2 ?_))
    | ((with_reducible refine at_slot 3 ?_); go_must (refine wpList_var aggObI rfl rfl rfl _ _ rfl rfl pc.toArray rfl rfl (by simp [hpl]) (by simpa using hpo) ?_; rw [hw3]))
    | ((with_reducible refine at_slot 16 ?_); go_must (refine wpList_load_at aggObI rfl _ rfl ⟨w.heap.size, 0, none⟩ rfl wc hwl c41 ?_))
    | ((with_reducible refine at_slot 17 ?_); go_must (refine wpList_load_at aggObI rfl _ rfl ⟨w.heap.size + 1, 0, none⟩ rfl pc hpl c42 ?_))
    | ((with_reducible refine at_slot 18 ?_); go_must (refine wpList_load_at aggObI rfl _ rfl ⟨w.heap.size + 2, 0, none⟩ rfl qc hql c43 ?_))
    | ((with_reducible refine at_slot 19 ?_); go_must (refine wpList_buildSlice rfl 54 2 [(0, _), (1, _)] rfl [(0, .agg pc.toArray), (1, .agg qc.toArray)] rfl _ _ Htwo.out ?_)))
  refine HPl.out.mono ?_
  rintro e w6 ⟨ys, S, bo, bc, hso, hS, rfl, _, hb6⟩
  obtain rfl : S = ⟨1, [], false⟩ := hS.trans (ex_step hso)
  have HB6 := Lib.hid (HB5.out.trans (hb6.mono HB5.out.size))
  obtain ⟨w7, hw7⟩ : ∃ q, w6.alloc (.cells #[.int .i64 1, .slice bo 0 bc, .bool false] 70) = q := ⟨_, rfl⟩
  obtain ⟨b4, hb4⟩ : ∃ q, w6.heap.size = q := ⟨_, rfl⟩
  have r7 : w7.heap[b4]? = some (.cells #[.int .i64 1, .slice bo 0 bc, .bool false] 70 (0, 0)) := by rw [← hw7, ← hb4]; exact heap_alloc_new _ _
  have y0 : w7.cell? ⟨b4, 0, none⟩ = some (.int .i64 1) := cell_of_row _ _ 0 _ _ _ r7
  have y1 : w7.cell? ⟨b4, 1, none⟩ = some (.slice bo 0 bc) := cell_of_row _ _ 1 _ _ _ r7
  have y2 : w7.cell? ⟨b4, 2, none⟩ = some (.bool false) := cell_of_row _ _ 2 _ _ _ r7
  have HB7 : Hid (Below w.heap.size w w7) := by show Below _ _ _; rw [← hw7]; exact HB6.out.alloc HB6.out.size _
  clear r7 hb6 hS hso HPl HB5 HB6
  go_wp2_with ((with_reducible refine at_slot 4 ?_); go_must (refine wpList_var aggStep rfl rfl rfl _ _ rfl rfl #[.int .i64 1, .slice bo 0 bc, .bool false] rfl rfl rfl (by simp [Value.oneCell']) ?_; rw [hw7, hb4]))
  go_ret
  exact ⟨rfl, HB7.out⟩
end Go.Proofs.Ytpbppgfogepjeaa
