/- slices.Collect of a book's series. Condition: the map lies in a block of the call's own. || Classes of worlds: what was there stays, no draw is undone. No condition. || cmp.Compare of strings. No condition. -/
import Derived.Test.YtoamjihchmokcaaSerKeysM
import Derived.Test.YtoamjihchmokcaaHeadLitM
import Derived.Sort.Walk0
import Derived.Sort.Grow
import Derived.Test.YtoamjihchmokcaaChecked
import Derived.Deep.QuietTactic
namespace Go.Proofs.Ytoamjihchmokcaa
open Go.ChangeShapes Go.WideShapes Go.ChangeAt Go.RowKit Go.Deep Go.Maps Go.Shelf

attribute [local go_sem] Oper.semAt_some

theorem elemSerK : ElemOK Try.prog 47 33 2 32 := .mk' Try.underlying47 (by kernel_rfl) (by decide)

def RowAtK (W : World) (b : Nat) (cs : Array Value) (t : TypeId) : Prop := W.heap[b]? = some (.cells cs t (0, 0))
theorem RowAtK.lt {W : World} {b : Nat} {cs : Array Value} {t : TypeId} (h : RowAtK W b cs t) : b < W.heap.size := (Array.getElem?_eq_some_iff.1 h).1
theorem RowAtK.kept {W W' : World} {b : Nat} {cs : Array Value} {t : TypeId} {row : Option Nat} (h : RowAtK W b cs t) (hg : W.grownBy W' row) (hr : ∀ r, row = some r → ∃ o : Obj, W.heap[r]? = some o ∧ o.isCells = false) : RowAtK W' b cs t :=
  (hg.block b h.lt (fun e => by obtain ⟨o, ho, hc⟩ := hr b e.symm; rw [show W.heap[b]? = _ from h] at ho; cases ho; cases hc)).trans h
theorem RowAtK.own {β : Type} (B b : Nat) (f : β → Array Value) (t : TypeId) : OwnFrom B (fun (s : β) W => RowAtK W b (f s) t) := fun _ _ _ _ hs hg hr => hs.kept hg (fun r e => (hr r e).2)
theorem RowAtK.alloc {W : World} {b : Nat} {cs : Array Value} {t : TypeId} (h : RowAtK W b cs t) (o : Obj) : RowAtK (W.alloc o) b cs t := (Below.heap_alloc W o b h.lt).trans h
theorem RowAtK.new (W : World) (cs : Array Value) (t : TypeId) : RowAtK (W.alloc (.cells cs t)) W.heap.size cs t := heap_alloc_new W _
theorem RowAtK.other {W : World} {b b' j : Nat} {cs : Array Value} {t : TypeId} (h : RowAtK W b cs t) (hne : b ≠ b') (v : Value) : RowAtK (W.setCell ⟨b', j, none⟩ v) b cs t := (Below.heap_setCell _ _ _ _ hne).trans h
def GotK (w0 : World) (Bs : Nat) (pre : List Ks) (W : World) : Prop :=
  ∃ v, RowAtK W Bs #[v] 47 ∧ W.ownsRow w0.heap.size 33 2 v pre.length (pre.flatMap Ks.cells)

theorem owns_keptK {W W' : World} {row : Option Nat} {base : Nat} {e : TypeId} {size : Nat} {v : Value} {k : Nat} {xs : List Value} (h : W.ownsRow base e size v k xs) (hg : W.grownBy W' row) (hr : ∀ r, row = some r → ∃ o : Obj, W.heap[r]? = some o ∧ o.isCells = false) : W'.ownsRow base e size v k xs := by
  refine h.kept hg ?_
  rcases h.2 with ⟨rfl, _⟩ | ⟨g, cap, cur, rfl, _, hgb, _⟩
  · exact .inl rfl
  · refine .inr fun e' => ?_
    obtain ⟨o, ho, hw⟩ := hr g (by simpa [Value.ownBlock] using e'.symm)
    rw [hgb] at ho; cases ho; cases hw

theorem GotK.own (B : Nat) (w0 : World) (Bs : Nat) : OwnFrom B (GotK w0 Bs) := fun _ _ _ _ hs hg hr => by
  obtain ⟨v, h1, h2⟩ := hs
  exact ⟨v, h1.kept hg (fun r e => (hr r e).2), owns_keptK h2 hg (fun r e => (hr r e).2)⟩

set_option maxRecDepth 100000 in
set_option maxHeartbeats 4000000 in
theorem appendSeqK_in (Bm b n : Nat) (hn : n ≤ 100000) (E : List En) (hE : ∀ e ∈ E, e.sub.size ≤ maxLen ∧ e.met.size ≤ maxLen) (w : World) (hc : w.cell? ⟨Bm, 0, none⟩ = some (.map (some b))) (hM : MapIs w Try.prog 33 b n (enMap E)) :
    CallsIn Fence.wide 6 Try.prog 48 #[.slice none 0 0, .func (.func 42) #[] #[.pointer (some ⟨Bm, 0, none⟩)]] w fun e w' =>
      ∃ v xs, e = .returned v ∧ AllK E xs ∧ w'.ownsRow w.heap.size 33 2 v xs.length (xs.flatMap Ks.cells) ∧ Below w.heap.size w w' := by
  have hro : Fence.wide.round = none := rfl
  have h1 : 1 ≤ 6 := by decide
  refine callsIn_of_wp_marks Try.func48 rfl trivial ?_ hro
  simp only [Try.ntmps48, List.size_toArray, List.length_cons, List.length_nil, Nat.reduceAdd, Nat.reduceSub, Array.replicate_succ, Array.replicate_zero, List.push_toArray, List.append_toArray, List.nil_append, List.cons_append]
  gi_wp2
  obtain ⟨N, hN⟩ : ∃ N, w.heap.size = N := ⟨_, rfl⟩
  obtain ⟨W0, hW0⟩ : ∃ W0, w.alloc (.cells #[.slice none 0 0] 47) = W0 := ⟨_, rfl⟩
  have hsz : W0.heap.size = N + 1 := by rw [← hW0, ← hN]; simp
  have hB0 : Below w.heap.size w W0 := by rw [← hW0]; exact (Below.refl _ _).alloc (Nat.le_refl _) _
  have r0 : RowAtK W0 N #[.slice none 0 0] 47 := by rw [← hW0, ← hN]; exact RowAtK.new w _ _
  have hSt := keys_stops (6 - 1) (by decide) Bm b n E hE w hc hM
  have HB0 := Lib.hid hB0
  obtain ⟨i0, z0, hi0, hz0, hs1, hs2, hs3⟩ := elemSerK.info
  have HI0 := Lib.hid (And.intro hi0 (And.intro hz0 (And.intro hs1 (And.intro hs2 hs3))))
  rw [hW0, hN]
  clear hW0 hM hc hi0 hz0 hs1 hs2 hs3
  refine wpIn_rangeFunc_ownH hro h1 (gf := 42) (lb := #[.pointer (some ⟨Bm, 0, none⟩)]) rfl trivial (enters_of Try.func42 (by kernel_rfl) rfl)
    hSt (fun h k => h.trans k) (fun W l o o' _ ho _ hw => KeepsWalks.putObj _ ho hw) hB0 (fun _ => rfl)
    (fun pre W => GotK w N pre W ∧ Below w.heap.size w W) (fun _ _ _ => False)
    (OwnFrom.and (GotK.own _ _ _) (ownFrom_below (Nat.le_refl _) (by omega)))
    (fun _ _ _ _ _ hs _ _ => hs)
    ⟨⟨_, r0, World.ownsRow_nil _ _ _ _⟩, hB0⟩
    (fun x a' W => ∃ Bx, N < Bx ∧ RowAtK W Bx #[.string x.a, .string x.b] 33 ∧ a' = { tmps := #[.slice none 0 0, .func (.func 42) #[] #[.pointer (some ⟨Bm, 0, none⟩)], .pointer (some ⟨N, 0, none⟩), undef, .slice none 0 0, .pointer (some ⟨Bx, 0, none⟩), .func (.func 42) #[] #[.pointer (some ⟨Bm, 0, none⟩)], .agg #[.string x.a, .string x.b], undef, undef, undef, undef, undef], defers := [] })
    (fun x a' _ X Y row hs hg hr => by obtain ⟨Bx, h1, h2, h3⟩ := hs; exact ⟨Bx, h1, h2.kept hg (fun r e => (hr r e).2), h3⟩)
    ?assign ?body ?done ?stop
  case assign =>
    rintro l pre x W K ⟨⟨v, hv, hrow⟩, hB⟩ hK
    have hNl := hv.lt
    dsimp only [encKs]
    gi_wp2
    exact hK _ _ ((KeepsOthers.alloc _ _).from _) (KeepsWalks.alloc _ _) ⟨⟨v, hv.alloc _, hrow.alloc _⟩, hB.alloc hB.size _⟩ ⟨W.heap.size, hNl, RowAtK.new W _ _, rfl⟩
  case body =>
    rintro l pre x a' W hl ⟨r, hr⟩ ⟨⟨v, hv, hrow⟩, hB⟩ ⟨Bx, hBx, bX, rfl⟩ hlt
    have x0 := cell_of_row W Bx 0 _ _ _ bX
    have x1 := cell_of_row W Bx 1 _ _ _ bX
    have v0 := cell_of_row W N 0 _ _ _ hv
    have v1 := row_free hv 0
    simp at x0 x1 v0
    obtain ⟨nm, ho⟩ := x
    dsimp only at x0 x1
    have hNl := hv.lt
    have hBl := bX.lt
    have HB := Lib.hid hB
    have Hrow := Lib.hid hrow
    have Hv := Lib.hid hv
    clear hB hrow hv
    have hne : some N ≠ v.ownBlock := by
      rcases ownsRow_ne_a Hrow.out Hv.out (fun cur e => by cases e) with e | e
      · rw [e]; simp
      · exact fun e' => e e'.symm
    have Hne := Lib.hid hne
    clear hne
    gi_wp2_with (first
      | (gi_at_builtin; refine wpListIn_append_own _ rfl _ _ 47 rfl w.heap.size 33 i0 z0 2 32 Try.underlying47 HI0.out.1 HI0.out.2.1 HI0.out.2.2.1 HI0.out.2.2.2.1 HI0.out.2.2.2.2 (by decide) v pre.length (pre.flatMap Ks.cells) rfl (Hrow.out.alloc _) ⟨W.heap.size, 0, none⟩ 1 1 [.string nm, .string ho] rfl rfl (fun j u hu => (cell_new W _ _ j).trans (by simpa using hu)) (by simp [Value.oneCell']) (by unfold maxLen; omega) (by omega) (by simp; omega) ?_; intro v' w3 hown' hg3 hnil3
         obtain ⟨g', cap', rfl, hbg', _⟩ := owns_shape hown' (by omega)
         have hv3 : RowAtK w3 N #[v] 47 := (hg3.block N (by simp; omega) Hne.out).trans ((Hv.out.alloc _))
         have v3f := row_free hv3 0
         have v3c : w3.cell? ⟨N, 0, none⟩ = some v := by rw [cell_of_row w3 N 0 _ _ _ hv3]; rfl
         have hN3 := hv3.lt
         have Hv3 := Lib.hid hv3
         have Hg3 := Lib.hid hg3
         have Hown := Lib.hid hown'
         clear hv3 hg3 hown' hnil3 hbg')
      | gi_in)
    have hko : KeepsOthers W (w3.setCell ⟨N, 0, none⟩ (.slice (some ⟨g', 0, none⟩) (pre.length + 1) cap')) := ((KeepsOthers.alloc W _).trans (KeepsOthers.of_grownBy Hg3.out (fun j o hj hjo => by
      rcases (Hrow.out.alloc (.cells #[.string nm, .string ho] 33)).2 with ⟨rfl, _⟩ | ⟨g, cap, cur, rfl, _, hgb, _⟩
      · simp [Value.ownBlock] at hj
      · have : g = j := by simpa [Value.ownBlock] using hj
        subst this; rw [hgb] at hjo; cases hjo; rfl))).trans (KeepsOthers.setCell _ _ _)
    have hb3 : Below w.heap.size w w3 := (HB.out.alloc HB.out.size _).grown Hg3.out (by have := HB.out.size; simp; omega) (fun k e => (Hrow.out.lt k e).1)
    have hb4 : Below N w (w3.setCell ⟨N, 0, none⟩ (.slice (some ⟨g', 0, none⟩) (pre.length + 1) cap')) := by
      have := hb3.setCell (p := ⟨N, 0, none⟩) (by show w.heap.size ≤ N; omega) (.slice (some ⟨g', 0, none⟩) (pre.length + 1) cap')
      rw [hN] at this
      exact this
    refine ⟨hko.from _, hko.walks, ⟨_, row_setCell Hv3.out _, ?_⟩, hb4⟩
    have hk := Hown.out.kept (grownBy_setCell0_a w3 N (.slice (some ⟨g', 0, none⟩) (pre.length + 1) cap')) (ownsRow_ne_a Hown.out Hv3.out (fun cur e => by cases e))
    rw [List.length_append, List.flatMap_append]
    simpa [Ks.cells] using hk
  case done =>
    rintro D ys W hD hS ⟨⟨v, hv, hrow⟩, hB⟩ hK
    have v0 := cell_of_row W N 0 _ _ _ hv
    simp at v0
    have Hrow := Lib.hid hrow
    have HB := Lib.hid hB
    have HS := Lib.hid hS
    have hNl := hv.lt
    clear hrow hB hS
    gi_wp2
    refine ⟨by simp, .inl ⟨_, _, rfl, run_takeDeferred hK, ?_⟩⟩
    refine ⟨v, by simp [results, Try.f48, go_sem], ?_⟩
    refine ⟨v, ys, rfl, HS.out, owns_keptK Hrow.out (grownBy_putObj_a W D (.deferred none)) (fun r e => by cases e; exact ⟨_, hK, rfl⟩), HB.out.grown (grownBy_putObj_a W D (.deferred none)) HB.out.size (fun k e => by cases e; omega)⟩
  case stop =>
    rintro D c pre W _ _ h _
    exact h.elim

theorem collectK_any (Bm b n : Nat) (hn : n ≤ 100000) (E : List En) (hE : ∀ e ∈ E, e.sub.size ≤ maxLen ∧ e.met.size ≤ maxLen) (w : World) (hc : w.cell? ⟨Bm, 0, none⟩ = some (.map (some b))) (hM : MapIs w Try.prog 33 b n (enMap E)) :
    Calls Try.prog 40 #[.func (.func 42) #[] #[.pointer (some ⟨Bm, 0, none⟩)]] w fun e w' =>
      ∃ v xs, e = .returned v ∧ AllK E xs ∧ w'.ownsRow w.heap.size 33 2 v xs.length (xs.flatMap Ks.cells) ∧ Below w.heap.size w w' := by
  have HC := Lib.hid ((callsIn_wide (n := 6)).1 (appendSeqK_in Bm b n hn E hE w hc hM))
  clear hc hM
  go_enter Try.func40, Try.ntmps40
  go_wp2_with fail
  refine HC.out.mono ?_
  rintro e w1 ⟨v, xs, rfl, h1, h2, h3⟩
  have H := Lib.hid (And.intro h1 (And.intro h2 h3))
  clear h1 h2 h3
  go_wp2_with fail
  go_ret
  exact ⟨v, xs, rfl, H.out⟩
end Go.Proofs.Ytoamjihchmokcaa
namespace Go.Proofs.Ytoamjihchmokcaa
open Go.ChangeShapes Go.WideShapes Go.ChangeAt Go.RowKit Go.Deep

def Dn (w w' : World) : Prop := Below w.heap.size w w' ∧ w.drawn ≤ w'.drawn
theorem Dn.refl (w : World) : Dn w w := ⟨Below.refl _ _, Nat.le_refl _⟩
theorem Dn.trans {a b c : World} (h : Dn a b) (k : Dn b c) : Dn a c := ⟨h.1.trans (k.1.mono h.1.size), Nat.le_trans h.2 k.2⟩
theorem Dn.alloc {a b : World} (h : Dn a b) (o : Obj) : Dn a (b.alloc o) := ⟨h.1.alloc h.1.size o, h.2⟩
theorem Dn.drew (w : World) : Dn w { w with drawn := w.drawn + 1 } := ⟨⟨rfl, rfl, rfl, Nat.le_refl _, fun _ _ => rfl⟩, Nat.le_succ _⟩

structure DW (w : World) where
  w' : World
  h : Dn w w'
theorem DW.cell {w : World} {p : Addr} {v : Value} (h : w.cell? p = some v) (b : DW w) : b.w'.cell? p = some v := Below.cell_some b.h.1 h
theorem DW.call {P : Program} {f : FuncId} {args : Array Value} {w : World} {v : Value} (b : DW w) (h : Calls P f args b.w' fun e w' => e = .returned v ∧ Dn b.w' w') : Calls P f args b.w' fun e w' => e = .returned v ∧ ∃ q : DW w, w' = q.w' :=
  h.mono fun _ w' ⟨he, hb⟩ => ⟨he, ⟨w', b.h.trans hb⟩, rfl⟩

theorem Dn.grow {w w' : World} (h : Dn w w') : ∃ q os, w' = Sort.grow (w.drewN q) os := by
  obtain ⟨⟨h1, h2, h3, h4, h5⟩, h6⟩ := h
  refine ⟨w'.drawn - w.drawn, w'.heap.extract w.heap.size w'.heap.size, ?_⟩
  have hh : w'.heap = w.heap ++ w'.heap.extract w.heap.size w'.heap.size := by
    apply Array.ext_getElem?
    intro i
    rw [Array.getElem?_append]
    split
    · rename_i hi; exact h5 i hi
    · rename_i hi
      rw [Array.getElem?_extract]
      by_cases hj : i < w'.heap.size
      · rw [if_pos (by omega)]; congr 1; omega
      · rw [if_neg (by omega)]; exact Array.getElem?_eq_none (by omega)
  unfold Sort.grow World.drewN
  cases w
  cases w'
  simp only [World.mk.injEq] at *
  subst h1 h2 h3
  exact ⟨hh, rfl, by omega, rfl, rfl⟩

end Go.Proofs.Ytoamjihchmokcaa
namespace Go.Proofs.Ytoamjihchmokcaa
open Go.ChangeShapes Go.WideShapes Go.ChangeAt Go.RowKit Go.Deep

def cfS (a b : ByteArray) : Int := if Op.bytesLess a.toList b.toList = true then -1 else if Op.bytesLess b.toList a.toList = true then 1 else 0

theorem less_irrefl (x : List UInt8) : Op.bytesLess x x = false := by
  rw [bytesLess_eq, decide_eq_false_iff_not]
  exact List.lt_irrefl x

theorem less_tri {x y : List UInt8} (h1 : Op.bytesLess x y = false) (h2 : Op.bytesLess y x = false) : x = y := by
  rw [bytesLess_eq, decide_eq_false_iff_not] at h1 h2
  exact List.le_antisymm (List.not_lt.1 h2) (List.not_lt.1 h1)

theorem isNaN_str (a : ByteArray) (w : World) :
    Calls Try.prog 43 #[.string a] w fun e w' => e = .returned (.bool false) ∧ w' = w := by
  go_enter Try.func43, Try.ntmps43
  go_wp2
  go_ret
  exact ⟨ret_bool (by simp), rfl⟩

theorem compare_str (a b : ByteArray) (w : World) :
    Calls Try.prog 26 #[.string a, .string b] w fun e w' => e = .returned (.int .i64 (cfS a b)) ∧ w' = w := by
  have hU : Hid (cfS a b = if Op.bytesLess a.toList b.toList = true then -1 else if Op.bytesLess b.toList a.toList = true then 1 else 0) := rfl
  have HN : Hid (∀ (x : ByteArray) (w1 : World), _) := fun x w1 => isNaN_str x w1
  cases h1 : Op.bytesLess a.toList b.toList
  · rw [h1] at hU
    cases h2 : Op.bytesLess b.toList a.toList
    · rw [h2] at hU
      have he := less_tri h1 h2
      have heb : (a.toList == b.toList) = true := by rw [beq_iff_eq]; exact he
      clear he
      go_enter Try.func26, Try.ntmps26
      go_wp2_with (go_at_call 43; refine (HN.out _ _).mono ?_; rintro e w' ⟨rfl, rfl⟩)
      go_ret
      exact ⟨by rw [hU.out] <;> rfl, rfl⟩
    · rw [h2] at hU
      have heb : (a.toList == b.toList) = false := by
        rw [beq_eq_false_iff_ne]
        intro he
        rw [he, less_irrefl] at h2
        cases h2
      go_enter Try.func26, Try.ntmps26
      go_wp2_with (go_at_call 43; refine (HN.out _ _).mono ?_; rintro e w' ⟨rfl, rfl⟩)
      go_ret
      exact ⟨by rw [hU.out] <;> rfl, rfl⟩
  · rw [h1] at hU
    go_enter Try.func26, Try.ntmps26
    go_wp2_with (go_at_call 43; refine (HN.out _ _).mono ?_; rintro e w' ⟨rfl, rfl⟩)
    go_ret
    exact ⟨by rw [hU.out] <;> rfl, rfl⟩

end Go.Proofs.Ytoamjihchmokcaa
