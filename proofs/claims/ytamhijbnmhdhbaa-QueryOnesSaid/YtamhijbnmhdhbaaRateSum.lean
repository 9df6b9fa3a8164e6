/- The contract of quant.Sum over the closure of rate.Increase. Condition: the row reads, its values are quantities. -/
import Derived.Test.YtamhijbnmhdhbaaRateIncM
namespace Go.Proofs.Ytamhijbnmhdhbaa
open Go.RowKit Go.Shelf

attribute [local go_sem] Oper.semAt_some

def tot (l : List Qty) : Int := (l.map fun x => x.1).sum
theorem tot_snoc (l : List Qty) (x : Qty) : tot (l ++ [x]) = tot l + x.1 := by simp [tot, List.sum_append]
theorem tot_nonneg : ∀ l : List Qty, 0 ≤ tot l
  | [] => Int.le_refl _
  | x :: r => by
    have h1 := tot_nonneg r
    have h2 := x.2
    have e : tot (x :: r) = x.1 + tot r := by simp [tot]
    omega
theorem tot_mono (l : List Smp) {k n : Nat} (h : k ≤ n) : tot (stepsTo l k) ≤ tot (stepsTo l n) := by
  induction n with
  | zero => rw [Nat.le_zero.1 h]; exact Int.le_refl _
  | succ n ih =>
    by_cases e : k = n + 1
    · rw [e]; exact Int.le_refl _
    · have := ih (by omega)
      rw [stepsTo_succ, tot_snoc]
      have h2 := (toQty (stepAt l n)).2
      omega
def sumOf (t : Int) : Int × Int := if t ≤ 9007199254740992 then (t, 0) else (0, 3)

/-- A cell alone in its block, that may be written. -/
def CellAt (W : World) (B : Nat) (v : Value) : Prop := W.cell? ⟨B, 0, none⟩ = some v ∧ W.frozen? ⟨B, 0, none⟩ = false
theorem CellAt.kept {W W' : World} {row : Option Nat} {B : Nat} {v : Value} (h : CellAt W B v) (hg : W.grownBy W' row) (hr : ∀ r, row = some r → ∃ o : Obj, W.heap[r]? = some o ∧ o.isCells = false) : CellAt W' B v :=
  ⟨cell_kept h.1 hg hr, (frozen_kept h.1 hg hr).trans h.2⟩
theorem CellAt.new (W : World) (v : Value) (t : TypeId) : CellAt (W.alloc (.cells #[v] t)) W.heap.size v := ⟨cell_of_one (heap_alloc_new W _), free_of_one (heap_alloc_new W _)⟩
theorem CellAt.alloc {W : World} {B : Nat} {v : Value} (h : CellAt W B v) (o : Obj) : CellAt (W.alloc o) B v := h.kept (World.grownBy_alloc W o none) (fun r e => by cases e)
theorem CellAt.set {W : World} {B : Nat} {v : Value} (h : CellAt W B v) (u : Value) : CellAt (W.setCell ⟨B, 0, none⟩ u) B u := ⟨World.cell?_setCell_same' _ _ _ (by rw [h.1]; rfl), by rw [World.frozen?_setCell]; exact h.2⟩
theorem CellAt.other {W : World} {B B' : Nat} {v : Value} (h : CellAt W B v) (hne : B ≠ B') (u : Value) : CellAt (W.setCell ⟨B', 0, none⟩ u) B v := ⟨(World.cell?_setCell_other _ _ _ _ (fun e => hne (by injection e with e1; exact e1.symm))).trans h.1, by rw [World.frozen?_setCell]; exact h.2⟩

theorem inc_stops (m : Nat) (hm : 1 ≤ m) (Bs n₀ b off len cap : Nat) (l : List Smp) (hl2 : len ≤ cap) (hcap : cap ≤ 9223372036854775807) (hq : ∀ j, j < len → okQ (l[j]!).v = true) (hb : b < n₀) (hBs0 : Bs < n₀)
    (w : World) (hn₀ : n₀ ≤ w.heap.size) (hBs : w.cell? ⟨Bs, 0, none⟩ = some (.slice (some ⟨b, off, none⟩) len cap)) (hc : ∀ j, j < len → w.cell? ⟨b, off + j * 2 + 1, none⟩ = some (.int .i64 (l[j]!).v)) (h1 : 1 ≤ len) :
    SeqStopsK Fence.wide m Try.prog 30 #[.pointer (some ⟨Bs, 0, none⟩)] (fun x : Qty => #[.int .i64 x.1]) (Below n₀) (fun ys => ys = stepsTo l (len - 1)) (fun pre => ∃ k, k ≤ len - 1 ∧ pre = stepsTo l k) len w := fun lp J Jx W hW hJ _ hY h0 =>
  inc1_in m hm lp Bs n₀ b off len cap l hl2 hcap hq hb hBs0 J Jx (fun pre A h => hJ pre A A.drew none h ⟨rfl, rfl, rfl, Nat.le_refl _, fun _ _ _ => rfl⟩ (fun _ e => by cases e)) hY W
    ((hW.cell (p := ⟨Bs, 0, none⟩) (by show Bs < w.heap.size; omega)).trans hBs) (fun j hj => (hW.cell (p := ⟨b, off + j * 2 + 1, none⟩) (by show b < w.heap.size; omega)).trans (hc j hj)) h0 h1

set_option maxRecDepth 100000 in
set_option maxHeartbeats 4000000 in
theorem sum_in (n : Nat) (hn : 4 ≤ n) (Bs b off len cap : Nat) (l : List Smp) (hl2 : len ≤ cap) (hcap : cap ≤ 9223372036854775807) (hq : ∀ j, j < len → okQ (l[j]!).v = true) (w : World) (hb : b < w.heap.size) (hBs0 : Bs < w.heap.size)
    (hBs : w.cell? ⟨Bs, 0, none⟩ = some (.slice (some ⟨b, off, none⟩) len cap)) (hc : ∀ j, j < len → w.cell? ⟨b, off + j * 2 + 1, none⟩ = some (.int .i64 (l[j]!).v)) (h1l : 1 ≤ len) :
    CallsIn Fence.wide n Try.prog 29 #[.func (.func 30) #[] #[.pointer (some ⟨Bs, 0, none⟩)]] w fun e W' =>
      e = .returned (.tuple #[.int .i64 (sumOf (tot (stepsTo l (len - 1)))).1, .int .i64 (sumOf (tot (stepsTo l (len - 1)))).2]) ∧ Below w.heap.size w W' := by
  have hro : Fence.wide.round = none := rfl
  have h1 : 1 ≤ n := by omega
  refine callsIn_of_wp_marks Try.func29 rfl trivial ?_ hro
  simp only [Try.ntmps29, List.size_toArray, List.length_cons, List.length_nil, Nat.reduceAdd, Nat.reduceSub, Array.replicate_succ, Array.replicate_zero, List.push_toArray, List.append_toArray, List.nil_append, List.cons_append]
  gi_wp2
  have c0 := CellAt.new w (.int .i64 0) 30
  have c1 := CellAt.new (w.alloc (.cells #[.int .i64 0] 30)) (.int .i64 0) 31
  have c2 := CellAt.new ((w.alloc (.cells #[.int .i64 0] 30)).alloc (.cells #[.int .i64 0] 31)) (.int .i64 0) 30
  simp only [World.size_alloc] at c1 c2
  have hB0 : Below w.heap.size w (((w.alloc (.cells #[.int .i64 0] 30)).alloc (.cells #[.int .i64 0] 31)).alloc (.cells #[.int .i64 0] 30)) := (((Below.refl _ w).alloc (Nat.le_refl _) _).alloc (by simp) _).alloc (by simp; omega) _
  refine wpIn_rangeFunc_ownF hro h1 (gf := 30) (lb := #[.pointer (some ⟨Bs, 0, none⟩)]) rfl trivial (enters_of Try.func30 (by kernel_rfl) rfl)
    (inc_stops (n - 1) (by omega) Bs w.heap.size b off len cap l hl2 hcap hq hb hBs0 _ (by simp; omega) ((hB0.cell (p := ⟨Bs, 0, none⟩) hBs0).trans hBs) (fun j hj => (hB0.cell (p := ⟨b, off + j * 2 + 1, none⟩) hb).trans (hc j hj)) h1l) belowK_t (belowK_b (by simp; omega)) (Below.refl _ _) (fun _ => rfl)
    (fun pre W => (tot pre ≤ 9007199254740992 ∧ CellAt W (w.heap.size + 1 + 1) (.int .i64 (tot pre)) ∧ CellAt W w.heap.size (.int .i64 0) ∧ CellAt W (w.heap.size + 1) (.int .i64 0)) ∧ Below w.heap.size w W)
    (fun c pre W => (c = .ret ∧ 9007199254740992 < tot pre ∧ CellAt W w.heap.size (.int .i64 0) ∧ CellAt W (w.heap.size + 1) (.int .i64 3)) ∧ Below w.heap.size w W)
    (OwnFrom.and (Own.from (fun s A B row hs hg hr => ⟨hs.1, hs.2.1.kept hg hr, hs.2.2.1.kept hg hr, hs.2.2.2.kept hg hr⟩) _) (ownFrom_below (Nat.le_refl _) (by simp; omega)))
    (fun c => OwnFrom.and (Own.from (fun s A B row hs hg hr => ⟨hs.1, hs.2.1, hs.2.2.1.kept hg hr, hs.2.2.2.kept hg hr⟩) _) (ownFrom_below (Nat.le_refl _) (by simp; omega)))
    ⟨⟨by decide, c2, (c0.alloc _).alloc _, c1.alloc _⟩, hB0⟩
    (fun x => { tmps := #[.func (.func 30) #[] #[.pointer (some ⟨Bs, 0, none⟩)], undef, .pointer (some ⟨w.heap.size, 0, none⟩), .pointer (some ⟨w.heap.size + 1, 0, none⟩), .pointer (some ⟨w.heap.size + 1 + 1, 0, none⟩), .int .i64 x.1, undef, .func (.func 30) #[] #[.pointer (some ⟨Bs, 0, none⟩)], .int .i64 x.1, undef, undef, undef, undef, undef, undef, undef, undef, undef, undef], defers := [] }) ?assign ?body ?done ?stop
  case assign =>
    intro l x W K hK
    gi_wp2
    exact hK
  case body =>
    rintro lp pre x W ⟨⟨hle, hs, hr1, hr2⟩, hB⟩ _
    have hnn := tot_nonneg pre
    have hx := x.2
    have e1 : okQ (tot pre) = true := by unfold okQ; exact decide_eq_true (by omega)
    have e2 : okQ x.1 = true := by unfold okQ; exact decide_eq_true hx
    have hsn := tot_snoc pre x
    obtain ⟨t, ht⟩ : ∃ t, tot pre = t := ⟨_, rfl⟩
    obtain ⟨y, hy⟩ : ∃ y, x.1 = y := ⟨_, rfl⟩
    rw [ht] at hs e1 hsn
    rw [hy] at e2 hsn ⊢
    have hA : ∀ k w1, CallsIn (Fence.wide.inRound lp) k Try.prog 44 #[.int .i64 t, .int .i64 y] w1 fun e w' => e = .returned (.tuple #[.int .i64 (addOf t y).1, .int .i64 (addOf t y).2]) ∧ w' = w1 := fun _ w1 => CallsIn.inRound lp (callsIn_wide.2 (add_any t y w1 e1 e2))
    have z1 := hs.1
    have z2 := hs.2
    have y1 := hr1.1
    have y2 := hr1.2
    have y3 := hr2.1
    have y4 := hr2.2
    have hd : 1 ≤ n - 1 - 1 := by omega
    by_cases hov : t + y ≤ 9007199254740992
    · have ea : addOf t y = (t + y, 0) := if_pos hov
      rw [ea] at hA
      have hset := hs.set (.int .i64 (t + y))
      have hr1' := hr1.other (B' := w.heap.size + 1 + 1) (by omega) (.int .i64 (t + y))
      have hr2' := hr2.other (B' := w.heap.size + 1 + 1) (by omega) (.int .i64 (t + y))
      have hBw := hB.setCell (p := ⟨w.heap.size + 1 + 1, 0, none⟩) (by show w.heap.size ≤ w.heap.size + 1 + 1; omega) (.int .i64 (t + y))
      have hBn := (Below.refl w.heap.size W).setCell (p := ⟨w.heap.size + 1 + 1, 0, none⟩) (by show w.heap.size ≤ w.heap.size + 1 + 1; omega) (.int .i64 (t + y))
      gi_wp2_with (refine ⟨trivial, ?_⟩; gi_at_call 44; refine (hA _ _).mono ?_; rintro e w' ⟨rfl, rfl⟩)
      exact ⟨KeepsOthers.setCell _ _ _, hBn, ⟨by rw [hsn]; exact hov, by rw [hsn]; exact hset, hr1', hr2'⟩, hBw⟩
    · have ea : addOf t y = (0, 3) := if_neg hov
      rw [ea] at hA
      gi_wp2_with (refine ⟨trivial, ?_⟩; gi_at_call 44; refine (hA _ _).mono ?_; rintro e w' ⟨rfl, rfl⟩)
      have k1 := hr1.other (B' := w.heap.size + 1 + 1) (by omega) (.int .i64 0)
      have k2 := (k1.set (.int .i64 0)).other (B' := w.heap.size + 1) (by omega) (.int .i64 3)
      have k3 := ((hr2.other (B' := w.heap.size + 1 + 1) (by omega) (.int .i64 0)).other (B' := w.heap.size) (by omega) (.int .i64 0)).set (.int .i64 3)
      exact ⟨((KeepsOthers.setCell _ _ _).trans (KeepsOthers.setCell _ _ _)).trans (KeepsOthers.setCell _ _ _), ⟨rfl, by rw [hsn]; omega, k2, k3⟩,
        ((hB.setCell (p := ⟨w.heap.size + 1 + 1, 0, none⟩) (by show w.heap.size ≤ w.heap.size + 1 + 1; omega) _).setCell (p := ⟨w.heap.size, 0, none⟩) (Nat.le_refl _) _).setCell (p := ⟨w.heap.size + 1, 0, none⟩) (by show w.heap.size ≤ w.heap.size + 1; omega) _⟩
  case done =>
    rintro D ys W hD rfl ⟨⟨hle, hs, hr1, hr2⟩, hB⟩ hK
    have ea : sumOf (tot (stepsTo l (len - 1))) = (tot (stepsTo l (len - 1)), 0) := if_pos hle
    obtain ⟨t, ht⟩ : ∃ t, tot (stepsTo l (len - 1)) = t := ⟨_, rfl⟩
    rw [ht] at hs
    have z1 := hs.1
    have y1 := hr1.1
    have y2 := hr1.2
    have y3 := hr2.1
    have y4 := hr2.2
    gi_wp2
    have k1 := (hr1.set (.int .i64 t)).other (B' := w.heap.size + 1) (by omega) (.int .i64 0)
    have k2 := (hr2.other (B' := w.heap.size) (by omega) (.int .i64 t)).set (.int .i64 0)
    have hK' := ((KeepsOthers.setCell W ⟨w.heap.size, 0, none⟩ (.int .i64 t)).trans (KeepsOthers.setCell _ ⟨w.heap.size + 1, 0, none⟩ (.int .i64 0))).same D _ hK rfl
    have hBB := (hB.setCell (p := ⟨w.heap.size, 0, none⟩) (Nat.le_refl _) (.int .i64 t)).setCell (p := ⟨w.heap.size + 1, 0, none⟩) (by show w.heap.size ≤ w.heap.size + 1; omega) (.int .i64 0)
    refine ⟨by simp, .inl ⟨_, _, rfl, run_takeDeferred hK', ?_⟩⟩
    have hc1 := (k1.kept (grownBy_putObj' _ D (.deferred none)) (fun r e => by cases e; exact ⟨_, hK', rfl⟩)).1
    have hc2 := (k2.kept (grownBy_putObj' _ D (.deferred none)) (fun r e => by cases e; exact ⟨_, hK', rfl⟩)).1
    refine ⟨.tuple #[.int .i64 t, .int .i64 0], ?_, by rw [ea, ht], hBB.trans (belowK_b (w := w) (Nat.le_refl _) _ D _ _ (by simp at hD; omega) hK' rfl rfl)⟩
    simp [results, Try.f29, go_sem, hc1, hc2]
  case stop =>
    rintro D c pre W hD ⟨k, hk, rfl⟩ ⟨⟨rfl, hgt, hr1, hr2⟩, hB⟩ hK
    have hmm := tot_mono l hk
    have ea : sumOf (tot (stepsTo l (len - 1))) = (0, 3) := if_neg (by omega)
    gi_wp2
    refine ⟨by simp, .inl ⟨_, _, rfl, run_takeDeferred hK, ?_⟩⟩
    have hc1 := (hr1.kept (grownBy_putObj' _ D (.deferred none)) (fun r e => by cases e; exact ⟨_, hK, rfl⟩)).1
    have hc2 := (hr2.kept (grownBy_putObj' _ D (.deferred none)) (fun r e => by cases e; exact ⟨_, hK, rfl⟩)).1
    refine ⟨.tuple #[.int .i64 0, .int .i64 3], ?_, by rw [ea], hB.trans (belowK_b (w := w) (Nat.le_refl _) W D _ _ (by simp at hD; omega) hK rfl rfl)⟩
    simp [results, Try.f29, go_sem, hc1, hc2]
end Go.Proofs.Ytamhijbnmhdhbaa
