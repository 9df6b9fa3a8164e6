/- victim.Order and victim.Pick at two pods, of which the second goes first; the chapter's example. No condition. -/
import Derived.Test.YteajdcldebegmaaVictimSort
import Derived.Test.YteajdcldebegmaaObjSl
namespace Go.Proofs.Yteajdcldebegmaa
open Go.ChangeShapes Go.WideShapes Go.ChangeAt Go.RowKit Go.Deep

theorem order1_any (x : OV) (w : World) : Calls Try.prog 11 #[.agg x.cells.toArray] w fun e w' => e = .returned (.bool (!(x.kind == 1))) ∧ Below w.heap.size w w' := by
  have HP := Lib.hid (pod_any x (w.alloc (.cells x.cells.toArray 48)))
  have Hc : Hid (∀ j u, x.cells[j]? = some u → (w.alloc (.cells x.cells.toArray 48)).cell? (Addr.add ⟨w.heap.size, 0, none⟩ j) = some u) := fun j u hu => (cell_new w _ _ j).trans (by simpa using hu)
  obtain ⟨kb, hkb⟩ : ∃ kb, (x.kind == 1) = kb := ⟨_, rfl⟩
  rw [hkb] at HP ⊢
  clear hkb
  go_enter Try.func11, Try.ntmps11
  go_wp2_with ((with_reducible refine at_slot 3 ?_); go_must (refine wpList_load_at aggObj rfl _ rfl ⟨w.heap.size, 0, none⟩ rfl x.cells x.hlen Hc.out ?_))
  refine HP.out.mono ?_
  rintro e w1 ⟨rfl, hb⟩
  have Hb := Lib.hid (((Below.refl _ w).alloc (Nat.le_refl _) _).trans (hb.mono (by simp)))
  clear hb HP
  go_wp2_with fail
  go_ret
  exact ⟨rfl, Hb.out⟩

set_option maxRecDepth 100000 in
theorem order_two (x y : OV) (rx ry : Int) (hx : ∀ w, Calls Try.prog 18 #[.int .i64 x.phase] w fun e w' => e = .returned (.int .i64 rx) ∧ Dn w w') (hy : ∀ w, Calls Try.prog 18 #[.int .i64 y.phase] w fun e w' => e = .returned (.int .i64 ry) ∧ Dn w w')
    (hlt : befOf y x ry rx < 0) (hkx : x.kind = 1) (hky : y.kind = 1) (B : Nat) (v : Value) (w : World) (hown : w.ownsRow B 48 47 v 2 (x.cells ++ y.cells)) :
    Calls Try.prog 8 #[v] w fun e w' => ∃ g cap, e = .returned (.slice (some ⟨g, 0, none⟩) 2 cap) ∧
      (∀ j u, y.cells[j]? = some u → w'.cell? ⟨g, j, none⟩ = some u) ∧ (∀ j u, x.cells[j]? = some u → w'.cell? ⟨g, 47 + j, none⟩ = some u) ∧ Below w.heap.size w w' := by
  have HC := Lib.hid (clone_Obj B v 2 (x.cells ++ y.cells) w hown (by rw [List.all_append, x.one, y.one]; rfl) (by decide))
  have HS : Hid (∀ gb cap rest w1, _ → _) := fun gb cap rest w1 h => stable_two x y rx ry hx hy hlt gb cap rest w1 h
  have HE := Lib.hid (enters_of Try.func11 (by kernel_rfl) rfl)
  clear hown hx hy hlt
  go_enter Try.func8, Try.ntmps8
  go_wp2_with fail
  refine HC.out.mono ?_
  rintro e w1 ⟨v1, rfl, hown1, hb1⟩
  rcases hown1.2 with ⟨_, hn⟩ | ⟨g, cap, cur, rfl, hbg, hg, hnc, hcm, hcs, htake⟩
  · cases hn
  have hcur : cur.toList = x.cells ++ (y.cells ++ cur.toList.drop 94) := by
    rw [← List.append_assoc, ← htake]
    exact (List.take_append_drop 94 cur.toList).symm
  have hrow : w1.heap[g]? = some (.cells ([x, y].flatMap OV.cells ++ cur.toList.drop 94).toArray 48 (0, 0)) := by
    rw [hg]
    congr 2
    rw [show [x, y].flatMap OV.cells = x.cells ++ y.cells by simp, List.append_assoc, ← hcur]
  have hD := deleteFunc_OV (fun o => !(o.kind == 1)) 11 HE.out #[] [x, y] (cur.toList.drop 94) g 2 cap w1 hrow rfl hnc hcm (fun o w2 _ => by
    simp only [Array.append_empty]
    exact order1_any o w2)
  have hfil : [x, y].filter (fun o : OV => !(!(o.kind == 1))) = [x, y] := by simp [hkx, hky]
  rw [hfil] at hD
  have HD := Lib.hid hD
  have hgl : g < w1.heap.size := (Array.getElem?_eq_some_iff.1 hg).1
  have Hb1 := Lib.hid hb1
  clear hown1 hg hcs htake hcur hrow hD hfil hb1 hnc hcm HC HE
  go_wp2_with fail
  refine HD.out.mono ?_
  rintro e w2 ⟨m, rest, rfl, rfl, _, hrow2, hF2⟩
  have hS2 := HS.out g cap rest w2 (by rw [hrow2]; simp)
  have HS2 := Lib.hid hS2
  have Hb2 : Hid (Below w.heap.size w w2) := Hb1.out.trans (hF2.below Hb1.out.size (fun k hk => by rw [hk]; exact hbg))
  clear hS2 hrow2 hF2 HD HS
  go_wp2_with fail
  refine HS2.out.mono ?_
  rintro e w3 ⟨rfl, h1, h2, h3⟩
  have H := Lib.hid (And.intro h1 (And.intro h2 (Hb2.out.grown h3 Hb2.out.size (fun k hk => by cases hk; exact hbg))))
  clear h1 h2 h3 HS2
  go_wp2_with fail
  go_ret
  exact ⟨g, cap, rfl, H.out⟩
end Go.Proofs.Yteajdcldebegmaa
