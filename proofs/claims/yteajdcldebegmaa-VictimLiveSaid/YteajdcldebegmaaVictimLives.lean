/- victim.Pick of one of two pods; the chapter's example. No condition. -/
import Derived.Test.YteajdcldebegmaaVictimPick
namespace Go.Proofs.Yteajdcldebegmaa
open Go.ChangeShapes Go.WideShapes Go.ChangeAt Go.RowKit Go.Deep

theorem elemStr15 : ElemOK Try.prog 50 9 1 16 := .mk' Try.underlying50 (by kernel_rfl) (by decide)

/-- A struct is stored in a variable that was just laid. -/
theorem wpList_store_new {P : Program} {ops : Array Oper} {rest : List Oper} {o : Oper} {a : Act} {Q : Exit → Act → World → Prop} {T : TypeId} {size : Nat} (A : AggOK P T size) (hgd : o.guard = none) (p x : Operand) (ho : o.op = .store T p x) (hd : o.dst = none)
    (w : World) (z cs : Array Value) (hz : z.size = size) (hp : a.eval p = .pointer (some ⟨w.heap.size, 0, none⟩)) (hx : a.eval x = .agg cs) (hs : cs.size = size) (h1 : cs.toList.all (fun u => u.oneCell') = true)
    (h : wpList P ops Q rest a (w.alloc (.cells cs T))) : wpList P ops Q (o :: rest) a (w.alloc (.cells z T)) := by
  have hst := run_store_new A w z cs hz hs h1
  refine wpList_plain hgd fun _ hK => ?_
  unfold Oper.wp execOp
  simp only [ho, hx, hp, Instr.storeAt, Instr.sureAddr, Sem.run_bind, Sem.run_pure, Result.andThen_ok, hst]
  rw [Oper.upon_skip, hd]
  exact hK _ _ h

theorem ownsRow_low {W : World} {base base' : Nat} {e : TypeId} {size : Nat} {v : Value} {k : Nat} {xs : List Value} (h : W.ownsRow base e size v k xs) (hb : base' ≤ base) : W.ownsRow base' e size v k xs := by
  refine ⟨h.1, ?_⟩
  rcases h.2 with hn | ⟨g, cap, cur, hv, hbg, rest⟩
  · exact .inl hn
  · exact .inr ⟨g, cap, cur, hv, Nat.le_trans hb hbg, rest⟩

set_option maxRecDepth 100000 in
theorem pick_two (x y : OV) (v : Value) (w : World)
    (hO : Calls Try.prog 8 #[v] w fun e w' => ∃ g cap, e = .returned (.slice (some ⟨g, 0, none⟩) 2 cap) ∧
      (∀ j u, y.cells[j]? = some u → w'.cell? ⟨g, j, none⟩ = some u) ∧ (∀ j u, x.cells[j]? = some u → w'.cell? ⟨g, 47 + j, none⟩ = some u) ∧ Below w.heap.size w w') :
    Calls Try.prog 6 #[v, .int .i64 1] w fun e w' => ∃ v', e = .returned v' ∧ w'.ownsRow w.heap.size 9 1 v' 1 [.string y.name] ∧ Below w.heap.size w w' := by
  have HO := Lib.hid hO
  obtain ⟨nm, hnm⟩ : ∃ nm, y.name = nm := ⟨_, rfl⟩
  rw [hnm]
  have Hnm := Lib.hid hnm
  clear hO hnm
  go_enter Try.func6, Try.ntmps6
  go_wp2_with fail
  refine HO.out.mono ?_
  rintro e w1 ⟨g, cap, rfl, h1, h2, h3⟩
  have H1 := Lib.hid h1
  have H2 := Lib.hid h2
  have H3 := Lib.hid h3
  clear h1 h2 h3 HO
  go_wp2_with fail
  refine wp_loop_rounds 2 ?_
  rw [rounds_succ]
  have hyn := (cell_new w1 y.cells.toArray 48 1).trans (by simpa using y.h1)
  rw [Addr.add_lit, Nat.zero_add] at hyn
  rw [Hnm.out] at hyn
  have Hb1 : Hid (Below w1.heap.size w1 (w1.alloc (.cells y.cells.toArray 48))) := (Below.refl _ _).alloc (Nat.le_refl _) _
  go_wp2_with (first
    | ((with_reducible refine at_slot 15 ?_); go_must (refine wpList_load_at aggObj rfl _ rfl ⟨g, 0, none⟩ rfl y.cells y.hlen (fun j u hu => by rw [Addr.add_lit, Nat.zero_add]; exact H1.out j u hu) ?_))
    | ((with_reducible refine at_store 7 ?_); go_must (refine wpList_store_new aggObj rfl _ _ rfl rfl w1 _ y.cells.toArray rfl rfl rfl (by simp [OV.hlen]) (by simpa using y.one) ?_))
    | ((with_reducible refine at_slot 23 ?_); go_must (refine wpList_append_one elemStr15 rfl _ _ rfl w1 _ w1.heap.size #[.string nm] _ 0 [] rfl (World.ownsRow_nil _ _ _ _) Hb1.out (by simp) (by rw [World.size_alloc]; rfl) rfl rfl (by decide) (by decide) ?_; intro v2 w2 hown2 hb2 hz2)))
  have hO2 := ownsRow_low hown2 H3.out.size
  have hb := H3.out.trans (hb2.mono H3.out.size)
  have HR := Lib.hid (And.intro hO2 hb)
  have hx2 : ∀ j u, x.cells[j]? = some u → w2.cell? (Addr.add ⟨g, 47, none⟩ j) = some u := fun j u hu => by rw [Addr.add_lit]; exact Below.cell_some hb2 (H2.out j u hu)
  have HX2 := Lib.hid hx2
  clear hO2 hb hx2 hb2 hown2
  rw [rounds_succ]
  go_wp2_with (first
    | ((with_reducible refine at_slot 15 ?_); go_must (refine wpList_load_at aggObj rfl _ rfl ⟨g, 47, none⟩ rfl x.cells x.hlen HX2.out ?_))
    | ((with_reducible refine at_store 7 ?_); go_must (refine wpList_store_new aggObj rfl _ _ rfl rfl w2 _ x.cells.toArray rfl rfl rfl (by simp [OV.hlen]) (by simpa using x.one) ?_)))
  go_ret
  exact ⟨v2, rfl, HR.out.1.alloc _, HR.out.2.alloc HR.out.2.size _⟩
end Go.Proofs.Yteajdcldebegmaa
