/- The chapter's example. No condition. -/
import Derived.Test.YteajdcldebegmaaVictimLives
namespace Go.Proofs.Yteajdcldebegmaa
open Go.ChangeShapes Go.WideShapes Go.ChangeAt Go.RowKit Go.Deep

set_option maxRecDepth 100000 in
set_option maxHeartbeats 2000000 in
theorem lives_core (x y : OV) (hpx : x.phase = 2) (hpy : y.phase = 0) (hkx : x.kind = 1) (hky : y.kind = 1) (hny : y.name = ⟨#[98]⟩)
    (hbx : ∀ w, (Instr.build 48 [(0, Value.int .i64 1), (1, .string ⟨#[97]⟩), (4, .agg #[.string ⟨#[]⟩, .string ⟨#[]⟩, .int .i64 2, .int .i64 0, .int .i64 0, .int .i64 0, .slice none 0 0, .slice none 0 0, .slice none 0 0, .int .i64 0])].toArray).run Try.prog w = .ok (.agg x.cells.toArray) w)
    (hby : ∀ w, (Instr.build 48 [(0, Value.int .i64 1), (1, .string ⟨#[98]⟩), (4, .agg #[.string ⟨#[]⟩, .string ⟨#[]⟩, .int .i64 0, .int .i64 0, .int .i64 0, .int .i64 0, .slice none 0 0, .slice none 0 0, .slice none 0 0, .int .i64 0])].toArray).run Try.prog w = .ok (.agg y.cells.toArray) w)
    (hbs : ∀ w, (Instr.buildSlice 22 2 [(0, Value.agg x.cells.toArray), (1, .agg y.cells.toArray)].toArray).run Try.prog w = .ok (.slice (some ⟨w.heap.size, 0, none⟩) 2 2) (w.alloc (.cells (x.cells ++ y.cells).toArray 48)))
    (w : World) : Calls Try.prog 4 #[] w fun e w' => e = .returned (.bool true) ∧ Below w.heap.size w w' := by
  have HBX := Lib.hid hbx
  have HBY := Lib.hid hby
  have HBS := Lib.hid hbs
  have HPK : Hid (∀ (v : Value) (B : Nat) (w1 : World), w1.ownsRow B 48 47 v 2 (x.cells ++ y.cells) → Calls Try.prog 6 #[v, .int .i64 1] w1 fun e w' => ∃ v', e = .returned v' ∧ w'.ownsRow w1.heap.size 9 1 v' 1 [.string ⟨#[98]⟩] ∧ Below w1.heap.size w1 w') := fun v B w1 hown => by
    have := pick_two x y v w1 (order_two x y 3 1 (fun w => by rw [hpx]; exact (rank_ready w).mono (fun e w' ⟨h1, h2⟩ => ⟨h1, h2 ▸ (Dn.refl w).alloc _⟩)) (fun w => by rw [hpy]; exact (rank_pending w).mono (fun e w' ⟨h1, h2⟩ => ⟨h1, h2 ▸ (Dn.refl w).alloc _⟩)) (by simp [befOf, cfI]) hkx hky B v w1 hown)
    rw [hny] at this
    exact this
  clear hbx hby hbs hpx hpy hkx hky hny
  have hax : ∀ (w1 : World) (j : Nat) (u : Value), x.cells[j]? = some u → (w1.alloc (.cells x.cells.toArray 48)).cell? (Addr.add ⟨w1.heap.size, 0, none⟩ j) = some u := fun w1 j u hu => (cell_new w1 _ _ j).trans (by simpa using hu)
  have hay : ∀ (w1 : World) (j : Nat) (u : Value), y.cells[j]? = some u → (w1.alloc (.cells y.cells.toArray 48)).cell? (Addr.add ⟨w1.heap.size, 0, none⟩ j) = some u := fun w1 j u hu => (cell_new w1 _ _ j).trans (by simpa using hu)
  have H1 : Hid (∀ j u, x.cells[j]? = some u → ((w.alloc (.cells x.cells.toArray 48)).alloc (.cells y.cells.toArray 48)).cell? (Addr.add ⟨w.heap.size, 0, none⟩ j) = some u) := fun j u hu => Below.cell_some ((Below.refl _ _).alloc (Nat.le_refl _) _) (hax w j u hu)
  have H2 : Hid (∀ j u, y.cells[j]? = some u → ((w.alloc (.cells x.cells.toArray 48)).alloc (.cells y.cells.toArray 48)).cell? (Addr.add ⟨(w.alloc (.cells x.cells.toArray 48)).heap.size, 0, none⟩ j) = some u) := hay (w.alloc (.cells x.cells.toArray 48))
  clear hax hay
  go_enter Try.func4, Try.ntmps4
  go_wp2_with (first
    | ((with_reducible refine at_slot 5 ?_); go_must (refine wpList_build rfl 48 [(0, _), (1, _), (4, _)] rfl _ rfl _ HBX.out ?_))
    | ((with_reducible refine at_slot 7 ?_); go_must (refine wpList_build rfl 48 [(0, _), (1, _), (4, _)] rfl _ rfl _ HBY.out ?_))
    | ((with_reducible refine at_slot 1 ?_); go_must (refine wpList_var aggObj rfl rfl rfl _ _ rfl rfl x.cells.toArray rfl rfl (by simp [OV.hlen]) (by simpa using x.one) ?_))
    | ((with_reducible refine at_slot 2 ?_); go_must (refine wpList_var aggObj rfl rfl rfl _ _ rfl rfl y.cells.toArray rfl rfl (by simp [OV.hlen]) (by simpa using y.one) ?_))
    | ((with_reducible refine at_slot 8 ?_); go_must (refine wpList_load_at aggObj rfl _ rfl ⟨w.heap.size, 0, none⟩ rfl x.cells x.hlen H1.out ?_))
    | ((with_reducible refine at_slot 9 ?_); go_must (refine wpList_load_at aggObj rfl _ rfl ⟨(w.alloc (.cells x.cells.toArray 48)).heap.size, 0, none⟩ rfl y.cells y.hlen H2.out ?_))
    | ((with_reducible refine at_slot 10 ?_); go_must (refine wpList_buildSlice rfl 22 2 [(0, _), (1, _)] rfl _ rfl _ _ HBS.out ?_)))
  obtain ⟨w1, hw1⟩ : ∃ w1, ((w.alloc (.cells x.cells.toArray 48)).alloc (.cells y.cells.toArray 48)).alloc (.cells (x.cells ++ y.cells).toArray 48) = w1 := ⟨_, rfl⟩
  have hown : w1.ownsRow 0 48 47 (.slice (some ⟨w.heap.size + 1 + 1, 0, none⟩) 2 2) 2 (x.cells ++ y.cells) := by
    refine ⟨by rw [List.length_append, x.hlen, y.hlen], .inr ⟨_, 2, (x.cells ++ y.cells).toArray, rfl, Nat.zero_le _, ?_, Nat.le_refl _, by decide, by simp [OV.hlen], ?_⟩⟩
    · rw [← hw1]
      have := heap_alloc_new ((w.alloc (.cells x.cells.toArray 48)).alloc (.cells y.cells.toArray 48)) (.cells (x.cells ++ y.cells).toArray 48)
      rw [World.size_alloc, World.size_alloc] at this
      exact this
    · exact List.take_of_length_le (by simp [OV.hlen])
  have hb1 : Below w.heap.size w w1 := by rw [← hw1]; exact (((Below.refl _ _).alloc (Nat.le_refl _) _).alloc (by simp) _).alloc (by simp; omega) _
  have HP := Lib.hid (HPK.out _ 0 w1 hown)
  have Hb1 := Lib.hid hb1
  rw [hw1]
  clear hw1 hown hb1 H1 H2 HBX HBY HBS HPK
  refine HP.out.mono ?_
  rintro e w2 ⟨v2, rfl, hown2, hb2⟩
  have Hb2 := Lib.hid (Hb1.out.trans (hb2.mono Hb1.out.size))
  rcases hown2.2 with ⟨_, hn⟩ | ⟨g, cap, cur, rfl, hbg, hg, hnc, hcm, hcs, htake⟩
  · cases hn
  have hc0 : w2.cell? ⟨g, 0, none⟩ = some (.string ⟨#[98]⟩) := by
    rw [cell_of_row w2 g 0 _ _ _ hg]
    have := congrArg (fun l => l[0]?) htake
    simp only [List.getElem?_take_of_lt (show 0 < 1 * 1 by decide)] at this
    rw [← Array.getElem?_toList]; exact this
  clear hown2 hb2 hg hcs htake hbg HP
  unfold maxLen at hcm
  go_wp2_with fail
  go_ret
  exact ⟨rfl, Hb2.out⟩

def oA : OV where
  cells := [.int .i64 1, .string ⟨#[97]⟩, .int .u64 0, .int .i64 0, .int .i64 0, .int .i64 0, .slice none 0 0, .slice none 0 0, .slice none 0 0, .int .i64 0, .string ⟨#[]⟩, .string ⟨#[]⟩, .int .i64 2, .int .i64 0, .int .i64 0, .int .i64 0, .slice none 0 0, .slice none 0 0, .slice none 0 0, .int .i64 0, .string ⟨#[]⟩, .int .i64 0, .int .i64 0, .slice none 0 0, .slice none 0 0, .int .i64 0, .bool false, .int .i64 0, .int .i64 0, .int .i64 0, .int .i64 0, .int .i64 0, .slice none 0 0, .slice none 0 0, .int .i64 0, .string ⟨#[]⟩, .int .i64 0, .int .i64 0, .slice none 0 0, .int .i64 0, .int .i64 0, .int .i64 0, .slice none 0 0, .int .i64 0, .int .i64 0, .slice none 0 0, .slice none 0 0]
  kind := 1
  name := ⟨#[97]⟩
  owner := ⟨#[]⟩
  phase := 2
  since := 0
  hlen := rfl
  h0 := rfl
  h1 := rfl
  h10 := rfl
  h12 := rfl
  h13 := rfl
  one := rfl

def oB : OV where
  cells := [.int .i64 1, .string ⟨#[98]⟩, .int .u64 0, .int .i64 0, .int .i64 0, .int .i64 0, .slice none 0 0, .slice none 0 0, .slice none 0 0, .int .i64 0, .string ⟨#[]⟩, .string ⟨#[]⟩, .int .i64 0, .int .i64 0, .int .i64 0, .int .i64 0, .slice none 0 0, .slice none 0 0, .slice none 0 0, .int .i64 0, .string ⟨#[]⟩, .int .i64 0, .int .i64 0, .slice none 0 0, .slice none 0 0, .int .i64 0, .bool false, .int .i64 0, .int .i64 0, .int .i64 0, .int .i64 0, .int .i64 0, .slice none 0 0, .slice none 0 0, .int .i64 0, .string ⟨#[]⟩, .int .i64 0, .int .i64 0, .slice none 0 0, .int .i64 0, .int .i64 0, .int .i64 0, .slice none 0 0, .int .i64 0, .int .i64 0, .slice none 0 0, .slice none 0 0]
  kind := 1
  name := ⟨#[98]⟩
  owner := ⟨#[]⟩
  phase := 0
  since := 0
  hlen := rfl
  h0 := rfl
  h1 := rfl
  h10 := rfl
  h12 := rfl
  h13 := rfl
  one := rfl

set_option maxRecDepth 100000 in
theorem lives15 (w : World) : Calls Try.prog 4 #[] w fun e w' => e = .returned (.bool true) ∧ Below w.heap.size w w' :=
  lives_core oA oB rfl rfl rfl rfl rfl (fun w => by kernel_rfl) (fun w => by kernel_rfl) (fun w => by kernel_rfl) w
end Go.Proofs.Yteajdcldebegmaa
