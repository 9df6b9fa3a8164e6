/- The contract of victim.Before, at two objects whose ranks are told. No condition. || The contract of victim.rank at any phase. No condition. || Objects as elements of a row that is sorted by victim.Before; its contract. No condition. -/
import Derived.Test.YtjncoloedakpoaaDoorVictimCmpM
import Derived.Test.YtjncoloedakpoaaDoorHeadStatM
import Derived.Deep.QuietTactic
import Derived.Test.YtjncoloedakpoaaDoorPhase2
import Derived.Test.YtjncoloedakpoaaDoorSortPlain
import Derived.Test.YtjncoloedakpoaaDoorBase
import Derived.BigRegion
namespace Go.Proofs.YtjncoloedakpoaaDoor
open Go.ChangeShapes Go.WideShapes Go.ChangeAt Go.RowKit Go.Deep

def Dn (w w' : World) : Prop := Below w.heap.size w w' ∧ w.drawn ≤ w'.drawn
theorem Dn.refl (w : World) : Dn w w := ⟨Below.refl _ _, Nat.le_refl _⟩
theorem Dn.trans {a b c : World} (h : Dn a b) (k : Dn b c) : Dn a c := ⟨h.1.trans (k.1.mono h.1.size), Nat.le_trans h.2 k.2⟩
theorem Dn.alloc {a b : World} (h : Dn a b) (o : Obj) : Dn a (b.alloc o) := ⟨h.1.alloc h.1.size o, h.2⟩
theorem Dn.drew (w : World) : Dn w { w with drawn := w.drawn + 1 } := ⟨⟨rfl, rfl, rfl, Nat.le_refl _, fun _ _ => rfl⟩, Nat.le_succ _⟩

structure DW (w : World) where
  w' : World
  h : Dn w w'
theorem DW.cell {w : World} {p : Addr} {v : Value} (h : w.cell? p = some v) (b : DW w) : b.w'.cell? p = some v := Below.cell_some b.h.1 h
theorem DW.call {P : Program} {f : FuncId} {args : Array Value} {w : World} {v : Value} (b : DW w) (h : Calls P f args b.w' fun e w' => e = .returned v ∧ Dn b.w' w') : Calls P f args b.w' fun e w' => e = .returned v ∧ ∃ q : DW w, w' = q.w' :=
  h.mono fun _ w' ⟨he, hb⟩ => ⟨he, ⟨w', b.h.trans hb⟩, rfl⟩

def befOf (x y : OV) (rx ry : Int) : Int := if cfI rx ry = 0 then if cfI y.since x.since = 0 then cfS y.name x.name else cfI y.since x.since else cfI rx ry

set_option maxRecDepth 100000 in
set_option maxHeartbeats 2000000 in
theorem before_any (x y : OV) (rx ry : Int) (hx : ∀ w, Calls Tryd.prog 62 #[.int .i64 x.phase] w fun e w' => e = .returned (.int .i64 rx) ∧ Dn w w') (hy : ∀ w, Calls Tryd.prog 62 #[.int .i64 y.phase] w fun e w' => e = .returned (.int .i64 ry) ∧ Dn w w') (w : World) :
    Calls Tryd.prog 49 #[.agg x.cells.toArray, .agg y.cells.toArray] w fun e w' => e = .returned (.int .i64 (befOf x y rx ry)) ∧ Dn w w' := by
  have HX := Lib.hid hx
  have HY := Lib.hid hy
  have HB : Hid ((if cfI rx ry = 0 then if cfI y.since x.since = 0 then cfS y.name x.name else cfI y.since x.since else cfI rx ry) = befOf x y rx ry) := rfl
  have a1 := (cell_new w x.cells.toArray 44 1).trans (by simpa using x.h1)
  have a12 := (cell_new w x.cells.toArray 44 12).trans (by simpa using x.h12)
  have a13 := (cell_new w x.cells.toArray 44 13).trans (by simpa using x.h13)
  obtain ⟨w1, hw1⟩ : ∃ w1, w.alloc (.cells x.cells.toArray 44) = w1 := ⟨_, rfl⟩
  rw [hw1, Addr.add_lit, Nat.zero_add] at a1 a12 a13
  have b1 := (cell_new w1 y.cells.toArray 44 1).trans (by simpa using y.h1)
  have b12 := (cell_new w1 y.cells.toArray 44 12).trans (by simpa using y.h12)
  have b13 := (cell_new w1 y.cells.toArray 44 13).trans (by simpa using y.h13)
  have hb1 : Below w1.heap.size w1 (w1.alloc (.cells y.cells.toArray 44)) := (Below.refl _ _).alloc (Nat.le_refl _) _
  have a1 := Below.cell_some hb1 a1
  have a12 := Below.cell_some hb1 a12
  have a13 := Below.cell_some hb1 a13
  have hd : Dn w (w1.alloc (.cells y.cells.toArray 44)) := by rw [← hw1]; exact ((Dn.refl w).alloc _).alloc _
  have Hd := Lib.hid hd
  clear hx hy hb1 hd
  go_enter Tryd.func49, Tryd.ntmps49
  go_upto_region 1 with fail
  obtain ⟨W, hW⟩ : ∃ W, w1.alloc (.cells y.cells.toArray 44) = W := ⟨_, rfl⟩
  obtain ⟨sa, hsa⟩ : ∃ q, w.heap.size = q := ⟨_, rfl⟩
  obtain ⟨sb, hsb⟩ : ∃ q, w1.heap.size = q := ⟨_, rfl⟩
  simp only [hW, hsa, hsb] at a1 a12 a13 b1 b12 b13 Hd ⊢
  simp only [Addr.add_lit, Nat.zero_add] at b1 b12 b13
  clear hW hsa hsb hw1
  replace a1 := DW.cell a1
  replace a12 := DW.cell a12
  replace a13 := DW.cell a13
  replace b1 := DW.cell b1
  replace b12 := DW.cell b12
  replace b13 := DW.cell b13
  refine wp_region_head_lit 21 (fun w' => ∃ p : DW W, w' = p.w') (by kernel_rfl) (by kernel_rfl) ⟨⟨{ W with drawn := W.drawn + 1 }, Dn.drew W⟩, rfl⟩ ?_
  simp only [List.take_succ_cons, List.take_zero, List.drop_succ_cons, List.drop_zero]
  repeat (quiet_step (first
    | (go_at_call 62; exact DW.call _ (HX.out _))
    | (go_at_call 62; exact DW.call _ (HY.out _))
    | (go_at_call 61; exact DW.call _ ((compareI _ _ _).mono (by rintro e w' ⟨rfl, rfl⟩; exact ⟨rfl, Dn.refl _⟩)))
    | (go_at_call 63; exact DW.call _ ((compareL _ _ _).mono (by rintro e w' ⟨rfl, rfl⟩; exact ⟨rfl, Dn.refl _⟩)))
    | (go_at_call 64; exact DW.call _ ((compare_str _ _ _).mono (by rintro e w' ⟨rfl, rfl⟩; exact ⟨rfl, Dn.refl _⟩)))
    | exact rfl))
  refine wpQuiet_nil ?_
  intro w4 hw'
  obtain ⟨⟨_, hb4⟩, e4⟩ := hw'
  dsimp only at e4
  subst e4
  have Hb4 := Lib.hid (Hd.out.trans hb4)
  obtain ⟨p, hp⟩ : ∃ p, cfI rx ry = p := ⟨_, rfl⟩
  obtain ⟨q, hq⟩ : ∃ q, cfI y.since x.since = q := ⟨_, rfl⟩
  obtain ⟨r, hr⟩ : ∃ r, cfS y.name x.name = r := ⟨_, rfl⟩
  rw [hp, hq, hr] at HB
  rw [hp, hq, hr]
  clear hb4 a1 a12 a13 b1 b12 b13 hp hq hr
  go_wp2_with fail
  have k0 : (w4.alloc (.cells #[.int .i64 p, .int .i64 q, .int .i64 r] 3)).cell? ⟨w4.heap.size, 0, none⟩ = some (.int .i64 p) := cell_new w4 _ _ 0
  have k1 : (w4.alloc (.cells #[.int .i64 p, .int .i64 q, .int .i64 r] 3)).cell? ⟨w4.heap.size, 1, none⟩ = some (.int .i64 q) := cell_new w4 _ _ 1
  have k2 : (w4.alloc (.cells #[.int .i64 p, .int .i64 q, .int .i64 r] 3)).cell? ⟨w4.heap.size, 2, none⟩ = some (.int .i64 r) := cell_new w4 _ _ 2
  refine (or_three p q r _ _ k0 k1 k2).mono ?_
  rintro e w5 ⟨rfl, rfl⟩
  rw [HB.out]
  go_wp2_with fail
  go_ret
  exact ⟨rfl, Hb4.out.alloc _⟩
end Go.Proofs.YtjncoloedakpoaaDoor
namespace Go.Proofs.YtjncoloedakpoaaDoor
open Go.ChangeShapes Go.WideShapes Go.ChangeAt Go.RowKit Go.Deep

def rankI (p : Int) : Int := if p = 3 then 0 else if p = 0 then 1 else if p = 1 then 2 else if p = 2 then 3 else -1

theorem index4_any (p : Int) (k : Nat) (w : World) (k0 : w.cell? ⟨k, 0, none⟩ = some (.int .i64 3)) (k1 : w.cell? ⟨k, 1, none⟩ = some (.int .i64 0)) (k2 : w.cell? ⟨k, 2, none⟩ = some (.int .i64 1)) (k3 : w.cell? ⟨k, 3, none⟩ = some (.int .i64 2)) :
    Calls Tryd.prog 70 #[.slice (some ⟨k, 0, none⟩) 4 4, .int .i64 p] w fun e w' => e = .returned (.int .i64 (rankI p)) ∧ w' = w := by
  by_cases h3 : p = 3
  · subst h3
    rw [show rankI 3 = 0 from rfl]
    go_enter Tryd.func70, Tryd.ntmps70
    go_wp2_with fail
    refine wp_loop_rounds 1 ?_
    rw [rounds_succ]
    go_wp2_with fail
    go_ret
    exact ⟨rfl, rfl⟩
  · by_cases h0 : p = 0
    · subst h0
      exact index_pending k w k0 k1 k2 k3
    · by_cases h1 : p = 1
      · subst h1
        rw [show rankI 1 = 2 from rfl]
        clear h3 h0
        go_enter Tryd.func70, Tryd.ntmps70
        go_wp2_with fail
        refine wp_loop_rounds 3 ?_
        rw [rounds_succ]
        go_wp2_with fail
        rw [rounds_succ]
        go_wp2_with fail
        rw [rounds_succ]
        go_wp2_with fail
        go_ret
        exact ⟨rfl, rfl⟩
      · by_cases h2 : p = 2
        · subst h2
          exact index_ready k w k0 k1 k2 k3
        · have e : rankI p = -1 := by unfold rankI; rw [if_neg h3, if_neg h0, if_neg h1, if_neg h2]
          have e0 : (p == 0) = false := beq_eq_false_iff_ne.2 h0
          have e1 : (p == 1) = false := beq_eq_false_iff_ne.2 h1
          have e2 : (p == 2) = false := beq_eq_false_iff_ne.2 h2
          have e3 : (p == 3) = false := beq_eq_false_iff_ne.2 h3
          rw [e]
          clear e h0 h1 h2 h3
          go_enter Tryd.func70, Tryd.ntmps70
          go_wp2_with fail
          refine wp_loop_rounds 5 ?_
          rw [rounds_succ]
          go_wp2_with fail
          rw [rounds_succ]
          go_wp2_with fail
          rw [rounds_succ]
          go_wp2_with fail
          rw [rounds_succ]
          go_wp2_with fail
          rw [rounds_succ]
          go_wp2_with fail
          go_ret
          exact ⟨rfl, rfl⟩

theorem rank_any (p : Int) (w : World) : Calls Tryd.prog 62 #[.int .i64 p] w fun e w' => e = .returned (.int .i64 (rankI p)) ∧ Dn w w' := by
  have k0 : (w.alloc (.cells #[.int .i64 3, .int .i64 0, .int .i64 1, .int .i64 2] 3)).cell? ⟨w.heap.size, 0, none⟩ = some (.int .i64 3) := cell_new w _ _ 0
  have k1 : (w.alloc (.cells #[.int .i64 3, .int .i64 0, .int .i64 1, .int .i64 2] 3)).cell? ⟨w.heap.size, 1, none⟩ = some (.int .i64 0) := cell_new w _ _ 1
  have k2 : (w.alloc (.cells #[.int .i64 3, .int .i64 0, .int .i64 1, .int .i64 2] 3)).cell? ⟨w.heap.size, 2, none⟩ = some (.int .i64 1) := cell_new w _ _ 2
  have k3 : (w.alloc (.cells #[.int .i64 3, .int .i64 0, .int .i64 1, .int .i64 2] 3)).cell? ⟨w.heap.size, 3, none⟩ = some (.int .i64 2) := cell_new w _ _ 3
  go_enter Tryd.func62, Tryd.ntmps62
  go_wp2_with fail
  refine (index4_any p w.heap.size _ k0 k1 k2 k3).mono ?_
  rintro e w' ⟨rfl, rfl⟩
  go_wp2_with fail
  go_ret
  exact ⟨rfl, (Dn.refl _).alloc _⟩
end Go.Proofs.YtjncoloedakpoaaDoor
namespace Go.Proofs.YtjncoloedakpoaaDoor
open Go.ChangeShapes Go.WideShapes Go.ChangeAt Go.RowKit Go.Deep

def ObI.ov (x : ObI) : OV := ⟨x.cells, x.kd, x.nm, x.o.p.owner, x.o.p.phase, x.o.p.since, x.hlen, x.h0, x.h1, x.h10, x.h12, x.h13, x.one⟩
theorem aggOb : AggOK Tryd.prog 44 47 := aggObI
abbrev TOb := ObI × Nat
def tOb (x : TOb) : List Value := x.1.cells
theorem lenOb (x : TOb) : (tOb x).length = 47 := rfl
theorem oneOb (x : TOb) : ∀ v ∈ tOb x, v.oneCell' = true := List.all_eq_true.1 x.1.one
def befI (x y : ObI) : Int := befOf x.ov y.ov (rankI x.o.p.phase) (rankI y.o.p.phase)
def cfOb (x y : TOb) : Int := befI x.1 y.1
theorem before_ob (x y : ObI) (w : World) : Calls Tryd.prog 49 #[.agg x.cells.toArray, .agg y.cells.toArray] w fun e w' => e = .returned (.int .i64 (befI x y)) ∧ Dn w w' :=
  before_any x.ov y.ov _ _ (fun w => rank_any _ w) (fun w => rank_any _ w) w
theorem cmpOb (x y : TOb) (w : World) : Calls Tryd.prog 49 #[.agg (tOb x).toArray, .agg (tOb y).toArray] w fun e w' => e = .returned (.int .i64 (cfOb x y)) ∧ Below w.heap.size w w' :=
  (before_ob x.1 y.1 w).mono fun _ _ h => ⟨h.1, h.2.1⟩

def TOOb (x y : TOb) : Prop := rankI x.1.o.p.phase < rankI y.1.o.p.phase ∨ (rankI x.1.o.p.phase = rankI y.1.o.p.phase ∧ (y.1.o.p.since < x.1.o.p.since ∨ (y.1.o.p.since = x.1.o.p.since ∧
  (Op.bytesLess y.1.nm.toList x.1.nm.toList = true ∨ (y.1.nm.toList = x.1.nm.toList ∧ x.2 < y.2)))))
theorem less_trO {x y z : List UInt8} (h1 : Op.bytesLess x y = true) (h2 : Op.bytesLess y z = true) : Op.bytesLess x z = true := by
  rw [bytesLess_eq, decide_eq_true_iff] at h1 h2 ⊢
  exact List.lt_trans h1 h2
theorem befI_help (a b c d : Int) (p q : Bool) : (if (if a < b then (-1 : Int) else if b < a then 1 else 0) = 0 then (if (if d < c then (-1 : Int) else if c < d then 1 else 0) = 0 then (if p = true then (-1 : Int) else if q = true then 1 else 0) else (if d < c then (-1 : Int) else if c < d then 1 else 0)) else (if a < b then (-1 : Int) else if b < a then 1 else 0)) < 0 ↔
    a < b ∨ (a = b ∧ (d < c ∨ (d = c ∧ p = true))) := by
  cases p <;> cases q <;> simp <;> repeat' split
  all_goals omega
theorem befI_neg (x y : ObI) : befI x y < 0 ↔ rankI x.o.p.phase < rankI y.o.p.phase ∨ (rankI x.o.p.phase = rankI y.o.p.phase ∧ (y.o.p.since < x.o.p.since ∨ (y.o.p.since = x.o.p.since ∧ Op.bytesLess y.nm.toList x.nm.toList = true))) :=
  befI_help _ _ _ _ _ _
theorem ordOb : StOrd cfOb (fun x : TOb => x.2) TOOb where
  trans := fun x y z h1 h2 => by
    unfold TOOb at *
    rcases h1 with h1 | ⟨e1, h1⟩
    · rcases h2 with h2 | ⟨e2, _⟩
      · exact .inl (by omega)
      · exact .inl (by omega)
    · rcases h2 with h2 | ⟨e2, h2⟩
      · exact .inl (by omega)
      · refine .inr ⟨e1.trans e2, ?_⟩
        rcases h1 with h1 | ⟨f1, h1⟩
        · rcases h2 with h2 | ⟨f2, _⟩
          · exact .inl (by omega)
          · exact .inl (by omega)
        · rcases h2 with h2 | ⟨f2, h2⟩
          · exact .inl (by omega)
          · refine .inr ⟨f2.trans f1, ?_⟩
            rcases h1 with h1 | ⟨g1, h1⟩
            · rcases h2 with h2 | ⟨g2, _⟩
              · exact .inl (less_trO h2 h1)
              · exact .inl (by rw [g2]; exact h1)
            · rcases h2 with h2 | ⟨g2, h2⟩
              · exact .inl (by rw [← g1]; exact h2)
              · exact .inr ⟨g2.trans g1, by omega⟩
  tri := fun x y h => by
    unfold TOOb
    rcases Int.lt_trichotomy (rankI x.1.o.p.phase) (rankI y.1.o.p.phase) with h1 | h1 | h1
    · exact .inl (.inl h1)
    · rcases Int.lt_trichotomy x.1.o.p.since y.1.o.p.since with h2 | h2 | h2
      · exact .inr (.inr ⟨h1.symm, .inl h2⟩)
      · cases h3 : Op.bytesLess x.1.nm.toList y.1.nm.toList
        · cases h4 : Op.bytesLess y.1.nm.toList x.1.nm.toList
          · have e := less_tri h3 h4
            rcases Nat.lt_or_gt_of_ne h with h | h
            · exact .inl (.inr ⟨h1, .inr ⟨h2.symm, .inr ⟨e.symm, h⟩⟩⟩)
            · exact .inr (.inr ⟨h1.symm, .inr ⟨h2, .inr ⟨e, h⟩⟩⟩)
          · exact .inl (.inr ⟨h1, .inr ⟨h2.symm, .inl rfl⟩⟩)
        · exact .inr (.inr ⟨h1.symm, .inr ⟨h2, .inl rfl⟩⟩)
      · exact .inl (.inr ⟨h1, .inl h2⟩)
    · exact .inr (.inl h1)
  agree := fun x y h => by
    unfold cfOb TOOb
    rw [befI_neg]
    constructor
    · rintro (h1 | ⟨h1, h2 | ⟨h2, h3⟩⟩)
      · exact .inl h1
      · exact .inr ⟨h1, .inl h2⟩
      · exact .inr ⟨h1, .inr ⟨h2, .inl h3⟩⟩
    · rintro (h1 | ⟨h1, h2 | ⟨h2, h3 | ⟨_, h4⟩⟩⟩)
      · exact .inl h1
      · exact .inr ⟨h1, .inl h2⟩
      · exact .inr ⟨h1, .inr ⟨h2, h3⟩⟩
      · omega
end Go.Proofs.YtjncoloedakpoaaDoor
