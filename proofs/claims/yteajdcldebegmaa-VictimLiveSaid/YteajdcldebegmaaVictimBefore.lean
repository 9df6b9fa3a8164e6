/- The contract of victim.Before, at two objects whose ranks are told. No condition. -/
import Derived.Test.YteajdcldebegmaaVictimCmp
import Derived.Test.YteajdcldebegmaaHeadLit
namespace Go.Proofs.Yteajdcldebegmaa
open Go.ChangeShapes Go.WideShapes Go.ChangeAt Go.RowKit Go.Deep

/-- What was there stays, and no draw is undone. -/
def Dn (w w' : World) : Prop := Below w.heap.size w w' ∧ w.drawn ≤ w'.drawn
theorem Dn.refl (w : World) : Dn w w := ⟨Below.refl _ _, Nat.le_refl _⟩
theorem Dn.trans {a b c : World} (h : Dn a b) (k : Dn b c) : Dn a c := ⟨h.1.trans (k.1.mono h.1.size), Nat.le_trans h.2 k.2⟩
theorem Dn.alloc {a b : World} (h : Dn a b) (o : Obj) : Dn a (b.alloc o) := ⟨h.1.alloc h.1.size o, h.2⟩
theorem Dn.drew (w : World) : Dn w { w with drawn := w.drawn + 1 } := ⟨⟨rfl, rfl, rfl, Nat.le_refl _, fun _ _ => rfl⟩, Nat.le_succ _⟩

/-- The worlds behind w in which all that was there stays. -/
structure DW (w : World) where
  w' : World
  h : Dn w w'
theorem DW.cell {w : World} {p : Addr} {v : Value} (h : w.cell? p = some v) (b : DW w) : b.w'.cell? p = some v := Below.cell_some b.h.1 h
theorem DW.call {P : Program} {f : FuncId} {args : Array Value} {w : World} {v : Value} (b : DW w) (h : Calls P f args b.w' fun e w' => e = .returned v ∧ Dn b.w' w') : Calls P f args b.w' fun e w' => e = .returned v ∧ ∃ q : DW w, w' = q.w' :=
  h.mono fun _ w' ⟨he, hb⟩ => ⟨he, ⟨w', b.h.trans hb⟩, rfl⟩

def befOf (x y : OV) (rx ry : Int) : Int := if cfI rx ry = 0 then if cfI y.since x.since = 0 then cfS y.name x.name else cfI y.since x.since else cfI rx ry

set_option maxRecDepth 100000 in
set_option maxHeartbeats 2000000 in
theorem before_any (x y : OV) (rx ry : Int) (hx : ∀ w, Calls Try.prog 18 #[.int .i64 x.phase] w fun e w' => e = .returned (.int .i64 rx) ∧ Dn w w') (hy : ∀ w, Calls Try.prog 18 #[.int .i64 y.phase] w fun e w' => e = .returned (.int .i64 ry) ∧ Dn w w') (w : World) :
    Calls Try.prog 13 #[.agg x.cells.toArray, .agg y.cells.toArray] w fun e w' => e = .returned (.int .i64 (befOf x y rx ry)) ∧ Dn w w' := by
  have HX := Lib.hid hx
  have HY := Lib.hid hy
  have HB : Hid ((if cfI rx ry = 0 then if cfI y.since x.since = 0 then cfS y.name x.name else cfI y.since x.since else cfI rx ry) = befOf x y rx ry) := rfl
  have a1 := (cell_new w x.cells.toArray 48 1).trans (by simpa using x.h1)
  have a12 := (cell_new w x.cells.toArray 48 12).trans (by simpa using x.h12)
  have a13 := (cell_new w x.cells.toArray 48 13).trans (by simpa using x.h13)
  obtain ⟨w1, hw1⟩ : ∃ w1, w.alloc (.cells x.cells.toArray 48) = w1 := ⟨_, rfl⟩
  rw [hw1, Addr.add_lit, Nat.zero_add] at a1 a12 a13
  have b1 := (cell_new w1 y.cells.toArray 48 1).trans (by simpa using y.h1)
  have b12 := (cell_new w1 y.cells.toArray 48 12).trans (by simpa using y.h12)
  have b13 := (cell_new w1 y.cells.toArray 48 13).trans (by simpa using y.h13)
  have hb1 : Below w1.heap.size w1 (w1.alloc (.cells y.cells.toArray 48)) := (Below.refl _ _).alloc (Nat.le_refl _) _
  have a1 := Below.cell_some hb1 a1
  have a12 := Below.cell_some hb1 a12
  have a13 := Below.cell_some hb1 a13
  have hd : Dn w (w1.alloc (.cells y.cells.toArray 48)) := by rw [← hw1]; exact ((Dn.refl w).alloc _).alloc _
  have Hd := Lib.hid hd
  clear hx hy hb1 hd
  go_enter Try.func13, Try.ntmps13
  go_upto_region 1 with fail
  obtain ⟨W, hW⟩ : ∃ W, w1.alloc (.cells y.cells.toArray 48) = W := ⟨_, rfl⟩
  obtain ⟨sa, hsa⟩ : ∃ q, w.heap.size = q := ⟨_, rfl⟩
  obtain ⟨sb, hsb⟩ : ∃ q, w1.heap.size = q := ⟨_, rfl⟩
  simp only [hW, hsa, hsb] at a1 a12 a13 b1 b12 b13 Hd ⊢
  simp only [Addr.add_lit, Nat.zero_add] at b1 b12 b13
  clear hW hsa hsb hw1
  replace a1 := DW.cell a1
  replace a12 := DW.cell a12
  replace a13 := DW.cell a13
  replace b1 := DW.cell b1
  replace b12 := DW.cell b12
  replace b13 := DW.cell b13
  refine wp_region_head_lit 21 (fun w' => ∃ p : DW W, w' = p.w') (by kernel_rfl) (by kernel_rfl) ⟨⟨{ W with drawn := W.drawn + 1 }, Dn.drew W⟩, rfl⟩ ?_
  simp only [List.take_succ_cons, List.take_zero, List.drop_succ_cons, List.drop_zero]
  repeat (quiet_step (first
    | (go_at_call 18; exact DW.call _ (HX.out _))
    | (go_at_call 18; exact DW.call _ (HY.out _))
    | (go_at_call 17; exact DW.call _ ((compareI _ _ _).mono (by rintro e w' ⟨rfl, rfl⟩; exact ⟨rfl, Dn.refl _⟩)))
    | (go_at_call 19; exact DW.call _ ((compareL _ _ _).mono (by rintro e w' ⟨rfl, rfl⟩; exact ⟨rfl, Dn.refl _⟩)))
    | (go_at_call 20; exact DW.call _ ((compare_str _ _ _).mono (by rintro e w' ⟨rfl, rfl⟩; exact ⟨rfl, Dn.refl _⟩)))
    | exact rfl))
  refine wpQuiet_nil ?_
  intro w4 hw'
  obtain ⟨⟨_, hb4⟩, e4⟩ := hw'
  dsimp only at e4
  subst e4
  have Hb4 := Lib.hid (Hd.out.trans hb4)
  obtain ⟨p, hp⟩ : ∃ p, cfI rx ry = p := ⟨_, rfl⟩
  obtain ⟨q, hq⟩ : ∃ q, cfI y.since x.since = q := ⟨_, rfl⟩
  obtain ⟨r, hr⟩ : ∃ r, cfS y.name x.name = r := ⟨_, rfl⟩
  rw [hp, hq, hr] at HB
  rw [hp, hq, hr]
  clear hb4 a1 a12 a13 b1 b12 b13 hp hq hr
  go_wp2_with fail
  have k0 : (w4.alloc (.cells #[.int .i64 p, .int .i64 q, .int .i64 r] 3)).cell? ⟨w4.heap.size, 0, none⟩ = some (.int .i64 p) := cell_new w4 _ _ 0
  have k1 : (w4.alloc (.cells #[.int .i64 p, .int .i64 q, .int .i64 r] 3)).cell? ⟨w4.heap.size, 1, none⟩ = some (.int .i64 q) := cell_new w4 _ _ 1
  have k2 : (w4.alloc (.cells #[.int .i64 p, .int .i64 q, .int .i64 r] 3)).cell? ⟨w4.heap.size, 2, none⟩ = some (.int .i64 r) := cell_new w4 _ _ 2
  refine (or_three p q r _ _ k0 k1 k2).mono ?_
  rintro e w5 ⟨rfl, rfl⟩
  rw [HB.out]
  go_wp2_with fail
  go_ret
  exact ⟨rfl, Hb4.out.alloc _⟩
end Go.Proofs.Yteajdcldebegmaa
