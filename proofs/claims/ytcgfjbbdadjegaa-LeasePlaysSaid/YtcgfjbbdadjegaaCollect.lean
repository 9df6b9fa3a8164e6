/- slices.Collect of a board's leases. Condition: the map lies in a block of the call's own; each key is its lease's name. -/
import Derived.Test.YtcgfjbbdadjegaaVals
import Derived.Test.YtcgfjbbdadjegaaCells
import Derived.RangeFuncNested
import Derived.RangeFuncBound
import Derived.RangeFuncCalls
import Derived.RangeFuncLeaves
import Derived.RangeFuncFrom
import Derived.Shelf.SlIter.Collect
namespace Go.Proofs.Ytcgfjbbdadjegaa
open Go.ChangeShapes Go.WideShapes Go.ChangeAt Go.RowKit Go.Deep Go.Maps Go.Shelf

attribute [local go_sem] Oper.semAt_some

theorem elemLease : ElemOK Try.prog 27 34 4 48 := .mk' Try.underlying27 (by kernel_rfl) (by decide)

/-- A block that holds these cells, and may be written. -/
def RowAt (W : World) (b : Nat) (cs : Array Value) (t : TypeId) : Prop := W.heap[b]? = some (.cells cs t (0, 0))
theorem RowAt.lt {W : World} {b : Nat} {cs : Array Value} {t : TypeId} (h : RowAt W b cs t) : b < W.heap.size := (Array.getElem?_eq_some_iff.1 h).1
theorem RowAt.kept {W W' : World} {b : Nat} {cs : Array Value} {t : TypeId} {row : Option Nat} (h : RowAt W b cs t) (hg : W.grownBy W' row) (hr : ∀ r, row = some r → ∃ o : Obj, W.heap[r]? = some o ∧ o.isCells = false) : RowAt W' b cs t :=
  (hg.block b h.lt (fun e => by obtain ⟨o, ho, hc⟩ := hr b e.symm; rw [show W.heap[b]? = _ from h] at ho; cases ho; cases hc)).trans h
theorem RowAt.own {β : Type} (B b : Nat) (f : β → Array Value) (t : TypeId) : OwnFrom B (fun (s : β) W => RowAt W b (f s) t) := fun _ _ _ _ hs hg hr => hs.kept hg (fun r e => (hr r e).2)
theorem RowAt.alloc {W : World} {b : Nat} {cs : Array Value} {t : TypeId} (h : RowAt W b cs t) (o : Obj) : RowAt (W.alloc o) b cs t := (Below.heap_alloc W o b h.lt).trans h
theorem RowAt.new (W : World) (cs : Array Value) (t : TypeId) : RowAt (W.alloc (.cells cs t)) W.heap.size cs t := heap_alloc_new W _
theorem RowAt.other {W : World} {b b' j : Nat} {cs : Array Value} {t : TypeId} (h : RowAt W b cs t) (hne : b ≠ b') (v : Value) : RowAt (W.setCell ⟨b', j, none⟩ v) b cs t := (Below.heap_setCell _ _ _ _ hne).trans h
theorem size_own {β : Type} (B n : Nat) : OwnFrom B (fun (_ : β) W => n ≤ W.heap.size) := fun _ _ _ _ hs hg _ => Nat.le_trans hs hg.size

/-- What has come so far lies in a row of the call's own. -/
def GotL (w0 : World) (Bs : Nat) (pre : List Lease) (W : World) : Prop :=
  ∃ v, RowAt W Bs #[v] 27 ∧ W.ownsRow w0.heap.size 34 4 v pre.length (pre.flatMap Lease.cells)

theorem owns_kept {W W' : World} {row : Option Nat} {base : Nat} {e : TypeId} {size : Nat} {v : Value} {k : Nat} {xs : List Value} (h : W.ownsRow base e size v k xs) (hg : W.grownBy W' row) (hr : ∀ r, row = some r → ∃ o : Obj, W.heap[r]? = some o ∧ o.isCells = false) : W'.ownsRow base e size v k xs := by
  refine h.kept hg ?_
  rcases h.2 with ⟨rfl, _⟩ | ⟨g, cap, cur, rfl, _, hgb, _⟩
  · exact .inl rfl
  · refine .inr fun e' => ?_
    obtain ⟨o, ho, hw⟩ := hr g (by simpa [Value.ownBlock] using e'.symm)
    rw [hgb] at ho; cases ho; cases hw

theorem GotL.own (B : Nat) (w0 : World) (Bs : Nat) : OwnFrom B (GotL w0 Bs) := fun _ _ _ _ hs hg hr => by
  obtain ⟨v, h1, h2⟩ := hs
  exact ⟨v, h1.kept hg (fun r e => (hr r e).2), owns_kept h2 hg (fun r e => (hr r e).2)⟩

set_option maxRecDepth 100000 in
set_option maxHeartbeats 4000000 in
theorem appendSeq_in (Bm b n : Nat) (hn : n ≤ 100000) (f : List UInt8 → Option Lease) (hf : ∀ s x, f s = some x → x.name.data.toList = s) (w : World) (hc : w.cell? ⟨Bm, 0, none⟩ = some (.map (some b))) (hM : StrMap Lease.val w Try.prog 9 b n f) :
    CallsIn Fence.wide 6 Try.prog 30 #[.slice none 0 0, .func (.func 31) #[] #[.pointer (some ⟨Bm, 0, none⟩)]] w fun e w' =>
      ∃ v xs, e = .returned v ∧ AllOf f xs ∧ w'.ownsRow w.heap.size 34 4 v xs.length (xs.flatMap Lease.cells) ∧ Below w.heap.size w w' := by
  have hro : Fence.wide.round = none := rfl
  have h1 : 1 ≤ 6 := by decide
  refine callsIn_of_wp_marks Try.func30 rfl trivial ?_ hro
  simp only [Try.ntmps30, List.size_toArray, List.length_cons, List.length_nil, Nat.reduceAdd, Nat.reduceSub, Array.replicate_succ, Array.replicate_zero, List.push_toArray, List.append_toArray, List.nil_append, List.cons_append]
  gi_wp2
  obtain ⟨N, hN⟩ : ∃ N, w.heap.size = N := ⟨_, rfl⟩
  obtain ⟨W0, hW0⟩ : ∃ W0, w.alloc (.cells #[.slice none 0 0] 27) = W0 := ⟨_, rfl⟩
  have hsz : W0.heap.size = N + 1 := by rw [← hW0, ← hN]; simp
  have hB0 : Below w.heap.size w W0 := by rw [← hW0]; exact (Below.refl _ _).alloc (Nat.le_refl _) _
  have r0 : RowAt W0 N #[.slice none 0 0] 27 := by rw [← hW0, ← hN]; exact RowAt.new w _ _
  have hSt := values_stops (6 - 1) (by decide) Bm b n f hf w hc hM
  have HB0 := Lib.hid hB0
  obtain ⟨i0, z0, hi0, hz0, hs1, hs2, hs3⟩ := elemLease.info
  have HI0 := Lib.hid (And.intro hi0 (And.intro hz0 (And.intro hs1 (And.intro hs2 hs3))))
  rw [hW0, hN]
  clear hW0 hM hc hi0 hz0 hs1 hs2 hs3
  refine wpIn_rangeFunc_ownH hro h1 (gf := 31) (lb := #[.pointer (some ⟨Bm, 0, none⟩)]) rfl trivial (enters_of Try.func31 (by kernel_rfl) rfl)
    hSt (fun h k => h.trans k) (fun W l o o' _ ho _ hw => KeepsWalks.putObj _ ho hw) hB0 (fun _ => rfl)
    (fun pre W => GotL w N pre W ∧ Below w.heap.size w W) (fun _ _ _ => False)
    (OwnFrom.and (GotL.own _ _ _) (ownFrom_below (Nat.le_refl _) (by omega)))
    (fun _ _ _ _ _ hs _ _ => hs)
    ⟨⟨_, r0, World.ownsRow_nil _ _ _ _⟩, hB0⟩
    (fun x a' W => ∃ Bx, N < Bx ∧ RowAt W Bx #[.string x.name, .string x.holder, .int .i64 x.till, .int .i64 x.turns] 34 ∧ a' = { tmps := #[.slice none 0 0, .func (.func 31) #[] #[.pointer (some ⟨Bm, 0, none⟩)], .pointer (some ⟨N, 0, none⟩), undef, .slice none 0 0, .pointer (some ⟨Bx, 0, none⟩), .func (.func 31) #[] #[.pointer (some ⟨Bm, 0, none⟩)], .agg #[.string x.name, .string x.holder, .int .i64 x.till, .int .i64 x.turns], undef, undef, undef, undef, undef], defers := [] })
    (fun x a' _ X Y row hs hg hr => by obtain ⟨Bx, h1, h2, h3⟩ := hs; exact ⟨Bx, h1, h2.kept hg (fun r e => (hr r e).2), h3⟩)
    ?assign ?body ?done ?stop
  case assign =>
    rintro l pre x W K ⟨⟨v, hv, hrow⟩, hB⟩ hK
    have hNl := hv.lt
    dsimp only [encLs]
    gi_wp2
    exact hK _ _ ((KeepsOthers.alloc _ _).from _) (KeepsWalks.alloc _ _) ⟨⟨v, hv.alloc _, hrow.alloc _⟩, hB.alloc hB.size _⟩ ⟨W.heap.size, hNl, RowAt.new W _ _, rfl⟩
  case body =>
    rintro l pre x a' W hl ⟨r, hr⟩ ⟨⟨v, hv, hrow⟩, hB⟩ ⟨Bx, hBx, bX, rfl⟩ hlt
    have x0 := cell_of_row W Bx 0 _ _ _ bX
    have x1 := cell_of_row W Bx 1 _ _ _ bX
    have x2 := cell_of_row W Bx 2 _ _ _ bX
    have x3 := cell_of_row W Bx 3 _ _ _ bX
    have v0 := cell_of_row W N 0 _ _ _ hv
    have v1 := row_free hv 0
    simp at x0 x1 x2 x3 v0
    obtain ⟨nm, ho, ti, tu⟩ := x
    dsimp only at x0 x1 x2 x3
    have hNl := hv.lt
    have hBl := bX.lt
    have HB := Lib.hid hB
    have Hrow := Lib.hid hrow
    have Hv := Lib.hid hv
    clear hB hrow hv
    have hne : some N ≠ v.ownBlock := by
      rcases ownsRow_ne_a Hrow.out Hv.out (fun cur e => by cases e) with e | e
      · rw [e]; simp
      · exact fun e' => e e'.symm
    have Hne := Lib.hid hne
    clear hne
    gi_wp2_with (first
      | (gi_at_builtin; refine wpListIn_append_own _ rfl _ _ 27 rfl w.heap.size 34 i0 z0 4 48 Try.underlying27 HI0.out.1 HI0.out.2.1 HI0.out.2.2.1 HI0.out.2.2.2.1 HI0.out.2.2.2.2 (by decide) v pre.length (pre.flatMap Lease.cells) rfl (Hrow.out.alloc _) ⟨W.heap.size, 0, none⟩ 1 1 [.string nm, .string ho, .int .i64 ti, .int .i64 tu] rfl rfl (fun j u hu => (cell_new W _ _ j).trans (by simpa using hu)) (by simp [Value.oneCell']) (by unfold maxLen; omega) (by omega) (by simp; omega) ?_; intro v' w3 hown' hg3 hnil3
         obtain ⟨g', cap', rfl, hbg', _⟩ := owns_shape hown' (by omega)
         have hv3 : RowAt w3 N #[v] 27 := (hg3.block N (by simp; omega) Hne.out).trans ((Hv.out.alloc _))
         have v3f := row_free hv3 0
         have v3c : w3.cell? ⟨N, 0, none⟩ = some v := by rw [cell_of_row w3 N 0 _ _ _ hv3]; rfl
         have hN3 := hv3.lt
         have Hv3 := Lib.hid hv3
         have Hg3 := Lib.hid hg3
         have Hown := Lib.hid hown'
         clear hv3 hg3 hown' hnil3 hbg')
      | gi_in)
    have hko : KeepsOthers W (w3.setCell ⟨N, 0, none⟩ (.slice (some ⟨g', 0, none⟩) (pre.length + 1) cap')) := ((KeepsOthers.alloc W _).trans (KeepsOthers.of_grownBy Hg3.out (fun j o hj hjo => by
      rcases (Hrow.out.alloc (.cells #[.string nm, .string ho, .int .i64 ti, .int .i64 tu] 34)).2 with ⟨rfl, _⟩ | ⟨g, cap, cur, rfl, _, hgb, _⟩
      · simp [Value.ownBlock] at hj
      · have : g = j := by simpa [Value.ownBlock] using hj
        subst this; rw [hgb] at hjo; cases hjo; rfl))).trans (KeepsOthers.setCell _ _ _)
    have hb3 : Below w.heap.size w w3 := (HB.out.alloc HB.out.size _).grown Hg3.out (by have := HB.out.size; simp; omega) (fun k e => (Hrow.out.lt k e).1)
    have hb4 : Below N w (w3.setCell ⟨N, 0, none⟩ (.slice (some ⟨g', 0, none⟩) (pre.length + 1) cap')) := by
      have := hb3.setCell (p := ⟨N, 0, none⟩) (by show w.heap.size ≤ N; omega) (.slice (some ⟨g', 0, none⟩) (pre.length + 1) cap')
      rw [hN] at this
      exact this
    refine ⟨hko.from _, hko.walks, ⟨_, row_setCell Hv3.out _, ?_⟩, hb4⟩
    have hk := Hown.out.kept (grownBy_setCell0_a w3 N (.slice (some ⟨g', 0, none⟩) (pre.length + 1) cap')) (ownsRow_ne_a Hown.out Hv3.out (fun cur e => by cases e))
    rw [List.length_append, List.flatMap_append]
    simpa [Lease.cells] using hk
  case done =>
    rintro D ys W hD hS ⟨⟨v, hv, hrow⟩, hB⟩ hK
    have v0 := cell_of_row W N 0 _ _ _ hv
    simp at v0
    have Hrow := Lib.hid hrow
    have HB := Lib.hid hB
    have HS := Lib.hid hS
    have hNl := hv.lt
    clear hrow hB hS
    gi_wp2
    refine ⟨by simp, .inl ⟨_, _, rfl, run_takeDeferred hK, ?_⟩⟩
    refine ⟨v, by simp [results, Try.f30, go_sem], ?_⟩
    refine ⟨v, ys, rfl, HS.out, owns_kept Hrow.out (grownBy_putObj_a W D (.deferred none)) (fun r e => by cases e; exact ⟨_, hK, rfl⟩), HB.out.grown (grownBy_putObj_a W D (.deferred none)) HB.out.size (fun k e => by cases e; omega)⟩
  case stop =>
    rintro D c pre W _ _ h _
    exact h.elim
end Go.Proofs.Ytcgfjbbdadjegaa
