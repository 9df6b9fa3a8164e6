/- The comparison of watch.Folded. No condition. -/
import Derived.Test.YtkppmdbapcfmnaaCmpS
import Derived.Test.YtkppmdbapcfmnaaCmpU
import Derived.Test.YtkppmdbapcfmnaaCmpOr
namespace Go.Proofs.Ytkppmdbapcfmnaa
open Go.ChangeShapes Go.WideShapes Go.ChangeAt Go.RowKit Go.Deep

/-- An event. -/
structure Ev where
  ty : Int
  kd : Int
  nm : ByteArray
  ver : Int

def Ev.cells (x : Ev) : List Value := [.int .i64 x.ty, .int .i64 x.kd, .string x.nm, .int .u64 x.ver]

def cfEv (x y : Ev) : Int := if cfI x.ver y.ver = 0 then if cfI x.kd y.kd = 0 then cfS x.nm y.nm else cfI x.kd y.kd else cfI x.ver y.ver

set_option maxRecDepth 100000 in
set_option maxHeartbeats 2000000 in
theorem folded1_any (x y : Ev) (w : World) :
    Calls Try.prog 19 #[.agg #[.int .i64 x.ty, .int .i64 x.kd, .string x.nm, .int .u64 x.ver], .agg #[.int .i64 y.ty, .int .i64 y.kd, .string y.nm, .int .u64 y.ver]] w fun e w' => e = .returned (.int .i64 (cfEv x y)) ∧ Dn w w' := by
  obtain ⟨x0, x1, x2, x3⟩ := x
  obtain ⟨y0, y1, y2, y3⟩ := y
  have HB : Hid ((if cfI x3 y3 = 0 then if cfI x1 y1 = 0 then cfS x2 y2 else cfI x1 y1 else cfI x3 y3) = cfEv ⟨x0, x1, x2, x3⟩ ⟨y0, y1, y2, y3⟩) := rfl
  dsimp only
  have a1 := cell_new w #[.int .i64 x0, .int .i64 x1, .string x2, .int .u64 x3] 38 1
  have a2 := cell_new w #[.int .i64 x0, .int .i64 x1, .string x2, .int .u64 x3] 38 2
  have a3 := cell_new w #[.int .i64 x0, .int .i64 x1, .string x2, .int .u64 x3] 38 3
  obtain ⟨w1, hw1⟩ : ∃ w1, w.alloc (.cells #[.int .i64 x0, .int .i64 x1, .string x2, .int .u64 x3] 38) = w1 := ⟨_, rfl⟩
  rw [hw1, Addr.add_lit, Nat.zero_add] at a1 a2 a3
  have b1 := cell_new w1 #[.int .i64 y0, .int .i64 y1, .string y2, .int .u64 y3] 38 1
  have b2 := cell_new w1 #[.int .i64 y0, .int .i64 y1, .string y2, .int .u64 y3] 38 2
  have b3 := cell_new w1 #[.int .i64 y0, .int .i64 y1, .string y2, .int .u64 y3] 38 3
  have hb1 : Below w1.heap.size w1 (w1.alloc (.cells #[.int .i64 y0, .int .i64 y1, .string y2, .int .u64 y3] 38)) := (Below.refl _ _).alloc (Nat.le_refl _) _
  have a1 := Below.cell_some hb1 a1
  have a2 := Below.cell_some hb1 a2
  have a3 := Below.cell_some hb1 a3
  have hd : Dn w (w1.alloc (.cells #[.int .i64 y0, .int .i64 y1, .string y2, .int .u64 y3] 38)) := by rw [← hw1]; exact ((Dn.refl w).alloc _).alloc _
  have Hd := Lib.hid hd
  clear hb1 hd
  go_enter Try.func19, Try.ntmps19
  go_upto_region 1 with fail
  obtain ⟨W, hW⟩ : ∃ W, w1.alloc (.cells #[.int .i64 y0, .int .i64 y1, .string y2, .int .u64 y3] 38) = W := ⟨_, rfl⟩
  obtain ⟨sa, hsa⟩ : ∃ q, w.heap.size = q := ⟨_, rfl⟩
  obtain ⟨sb, hsb⟩ : ∃ q, w1.heap.size = q := ⟨_, rfl⟩
  simp only [hW, hsa, hsb] at a1 a2 a3 b1 b2 b3 Hd ⊢
  simp only [Addr.add_lit, Nat.zero_add] at b1 b2 b3
  clear hW hsa hsb hw1
  replace a1 := DW.cell a1
  replace a2 := DW.cell a2
  replace a3 := DW.cell a3
  replace b1 := DW.cell b1
  replace b2 := DW.cell b2
  replace b3 := DW.cell b3
  refine wp_region_head_lit 15 (fun w' => ∃ p : DW W, w' = p.w') (by kernel_rfl) (by kernel_rfl) ⟨⟨{ W with drawn := W.drawn + 1 }, Dn.drew W⟩, rfl⟩ ?_
  simp only [List.take_succ_cons, List.take_zero, List.drop_succ_cons, List.drop_zero]
  repeat (quiet_step (first
    | (go_at_call 22; exact DW.call _ ((compareI _ _ _).mono (by rintro e w' ⟨rfl, rfl⟩; exact ⟨rfl, Dn.refl _⟩)))
    | (go_at_call 21; exact DW.call _ ((compareU _ _ _).mono (by rintro e w' ⟨rfl, rfl⟩; exact ⟨rfl, Dn.refl _⟩)))
    | (go_at_call 23; exact DW.call _ ((compare_str _ _ _).mono (by rintro e w' ⟨rfl, rfl⟩; exact ⟨rfl, Dn.refl _⟩)))
    | exact rfl))
  refine wpQuiet_nil ?_
  intro w4 hw'
  obtain ⟨⟨_, hb4⟩, e4⟩ := hw'
  dsimp only at e4
  subst e4
  have Hb4 := Lib.hid (Hd.out.trans hb4)
  obtain ⟨p, hp⟩ : ∃ p, cfI x3 y3 = p := ⟨_, rfl⟩
  obtain ⟨q, hq⟩ : ∃ q, cfI x1 y1 = q := ⟨_, rfl⟩
  obtain ⟨r, hr⟩ : ∃ r, cfS x2 y2 = r := ⟨_, rfl⟩
  rw [hp, hq, hr] at HB
  rw [hp, hq, hr]
  clear hb4 a1 a2 a3 b1 b2 b3 hp hq hr
  go_wp2_with fail
  have k0 : (w4.alloc (.cells #[.int .i64 p, .int .i64 q, .int .i64 r] 3)).cell? ⟨w4.heap.size, 0, none⟩ = some (.int .i64 p) := cell_new w4 _ _ 0
  have k1 : (w4.alloc (.cells #[.int .i64 p, .int .i64 q, .int .i64 r] 3)).cell? ⟨w4.heap.size, 1, none⟩ = some (.int .i64 q) := cell_new w4 _ _ 1
  have k2 : (w4.alloc (.cells #[.int .i64 p, .int .i64 q, .int .i64 r] 3)).cell? ⟨w4.heap.size, 2, none⟩ = some (.int .i64 r) := cell_new w4 _ _ 2
  refine (or_three p q r _ _ k0 k1 k2).mono ?_
  rintro e w5 ⟨rfl, rfl⟩
  rw [HB.out]
  go_wp2_with fail
  go_ret
  exact ⟨rfl, Hb4.out.alloc _⟩
end Go.Proofs.Ytkppmdbapcfmnaa
