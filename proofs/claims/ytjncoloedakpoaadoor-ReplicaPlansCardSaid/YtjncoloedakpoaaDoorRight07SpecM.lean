/- The contract of the law's goes. Condition: the slice reads. || Objects whose strings are as long as any. No condition. -/
import Derived.Test.YtjncoloedakpoaaDoorValid5
import Derived.Test.YtjncoloedakpoaaDoorCheckSpecM
import Derived.Test.YtjncoloedakpoaaDoorRefLabelM
import Derived.Test.YtjncoloedakpoaaDoorObjRel
namespace Go.Proofs.YtjncoloedakpoaaDoor
open Go.ChangeShapes Go.WideShapes Go.ChangeAt Go.RowKit Go.Deep

theorem pol_no {xs : List Policy} {k : Nat} (hk : k < xs.length) (h : polOk xs[k] = false) : xs.all polOk = false := by
  rw [List.all_eq_false]; exact ⟨xs[k], List.getElem_mem hk, by rw [h]; decide⟩
theorem pol_yes {xs : List Policy} {k : Nat} (hk : xs.length ≤ k) (h : ∀ j, (hj : j < xs.length) → j < k → polOk xs[j] = true) : xs.all polOk = true := by
  rw [List.all_eq_true]
  intro x hx
  obtain ⟨j, hj, rfl⟩ := List.mem_iff_getElem.1 hx
  exact h j hj (by omega)

set_option maxRecDepth 100000 in
set_option maxHeartbeats 3200000 in
theorem goes_any (x : BehV) (w : World) (h : RowP w x.P) :
    Calls Tryd.prog 15 #[.agg #[.int .i64 x.win, .int .i64 x.pick, .slice x.P.ao x.P.la x.P.ca]] w fun e w' => e = .returned (.bool (behOk x)) ∧ Below w.heap.size w w' := by
  obtain ⟨win, pick, ⟨ao, la, ca, xs⟩⟩ := x
  show Calls Tryd.prog 15 #[.agg #[.int .i64 win, .int .i64 pick, .slice ao la ca]] w fun e w' => e = .returned (.bool (behOk ⟨win, pick, ⟨ao, la, ca, xs⟩⟩)) ∧ Below w.heap.size w w'
  have hb0 : Below w.heap.size w (w.alloc (.cells #[.int .i64 win, .int .i64 pick, .slice ao la ca] 39)) := (Below.refl w.heap.size w).alloc (Nat.le_refl _) _
  have g := h.b hb0
  have Hb0 := Lib.hid hb0
  clear hb0

  have k0 : (w.alloc (.cells #[.int .i64 win, .int .i64 pick, .slice ao la ca] 39)).cell? ⟨w.heap.size, 0, none⟩ = some (.int .i64 win) := cell_new w _ _ 0
  have k1 : (w.alloc (.cells #[.int .i64 win, .int .i64 pick, .slice ao la ca] 39)).cell? ⟨w.heap.size, 1, none⟩ = some (.int .i64 pick) := cell_new w _ _ 1
  have k2 : (w.alloc (.cells #[.int .i64 win, .int .i64 pick, .slice ao la ca] 39)).cell? ⟨w.heap.size, 2, none⟩ = some (.slice ao la ca) := cell_new w _ _ 2
  have g : SlR (Flat Policy.cells) 3 _ ao la ca xs := g
  have ha := g.hmax; have hac := g.hcap
  unfold maxLen at ha
  have HE : Hid (behOk ⟨win, pick, ⟨ao, la, ca, xs⟩⟩ = (((((decide (0 ≤ win) && decide (win ≤ 1800)) && decide (0 ≤ pick)) && decide (pick ≤ 2)) && decide ((la : Int) ≤ 4)) && xs.all polOk)) := by
    show _ = _
    unfold behOk btw
    simp only [Bool.and_assoc]
  go_enter Tryd.func15, Tryd.ntmps15
  clear h
  go_wp2_with fail
  go_loopw [8] (fun i wr => ∃ k : Nat, k ≤ la ∧ i = .int .i64 k ∧ Hid (∀ j, (hj : j < xs.length) → j < k → polOk xs[j] = true) ∧ Below (w.alloc (.cells #[.int .i64 win, .int .i64 pick, .slice ao la ca] 39)).heap.size (w.alloc (.cells #[.int .i64 win, .int .i64 pick, .slice ao la ca] 39)) wr) (fun i _ => la - (intOf i).toNat)
  case atStart => exact ⟨0, Nat.zero_le _, rfl, fun j _ h => by omega, Below.refl _ _⟩
  case round =>
    obtain ⟨k, hk, rfl, hg, hb⟩ := hrel
    obtain ⟨wq, rfl⟩ : ∃ wq : World, wq = wr := ⟨_, rfl⟩
    by_cases hlt : k < la
    · obtain ⟨b, off, rfl⟩ := g.ptr (by decide) (by omega)
      have kx : k < xs.length := by have := g.hlen; omega
      have hc := (g.flatKeeps (Keeps.below hb)).flat kx
      have c0 := hc 0 _ rfl
      have c1 := hc 1 _ rfl
      have c2 := hc 2 _ rfl
      rw [Nat.add_zero] at c0
      have h1 : Hid (polOk xs[k] = false → xs.all polOk = false) := fun h => pol_no kx h
      have h3 : Hid (polOk xs[k] = true → ∀ j, (hj : j < xs.length) → j < k + 1 → polOk xs[j] = true) := fun h j hj hjk => if e : j = k then by subst e; exact h else hg.out j hj (by omega)
      obtain ⟨y, hy⟩ : ∃ y, xs[k] = y := ⟨_, rfl⟩
      rw [hy] at c0 c1 c2 h1 h3
      obtain ⟨pc, pv, pp⟩ := y
      dsimp only at c0 c1 c2
      have Hb := Lib.hid (hb.alloc hb.size (.cells #[.bool pc, .int .i64 pv, .int .i64 pp] 80))
      have HO : Hid (polOk ⟨pc, pv, pp⟩ = !(decide (pv < 1) || (decide (1000000 < pv) || (decide (pp < 1) || decide (1800 < pp))))) := by
        show _ = _
        unfold polOk btw
        rw [Bool.eq_iff_iff]
        simp
        omega
      obtain ⟨b1, e1⟩ : ∃ b, decide (pv < 1) = b := ⟨_, rfl⟩
      obtain ⟨b2, e2⟩ : ∃ b, decide (1000000 < pv) = b := ⟨_, rfl⟩
      obtain ⟨b3, e3⟩ : ∃ b, decide (pp < 1) = b := ⟨_, rfl⟩
      obtain ⟨b4, e4⟩ : ∃ b, decide (1800 < pp) = b := ⟨_, rfl⟩
      rw [e1, e2, e3, e4] at HO
      clear hc hy hb hg k0 k1 k2
      rcases b1 with _ | _
      rotate_left
      · have hbad := Lib.hid (h1.out HO.out)
        go_wp2_with fail
        go_ret
        exact ⟨ret_bool (by rw [HE.out, hbad.out, Bool.and_false]), Hb0.out.trans (Hb.out.mono (by simp))⟩
      · rcases b2 with _ | _
        rotate_left
        · have hbad := Lib.hid (h1.out HO.out)
          go_wp2_with fail
          go_ret
          exact ⟨ret_bool (by rw [HE.out, hbad.out, Bool.and_false]), Hb0.out.trans (Hb.out.mono (by simp))⟩
        · rcases b3 with _ | _
          rotate_left
          · have hbad := Lib.hid (h1.out HO.out)
            go_wp2_with fail
            go_ret
            exact ⟨ret_bool (by rw [HE.out, hbad.out, Bool.and_false]), Hb0.out.trans (Hb.out.mono (by simp))⟩
          · rcases b4 with _ | _
            rotate_left
            · have hbad := Lib.hid (h1.out HO.out)
              go_wp2_with fail
              go_ret
              exact ⟨ret_bool (by rw [HE.out, hbad.out, Bool.and_false]), Hb0.out.trans (Hb.out.mono (by simp))⟩
            · have hgo := Lib.hid (h3.out HO.out)
              go_wp2_with fail
              go_roundw
              case rel => exact ⟨k + 1, by omega, by go_num, hgo.out, Hb.out⟩
              case measure => simp [intOf]; omega
    · have hall := Lib.hid (pol_yes (k := k) (by rw [g.hlen]; omega) hg.out)
      replace k0 := Below.cell_some hb k0
      replace k1 := Below.cell_some hb k1
      replace k2 := Below.cell_some hb k2
      have Hb := Lib.hid (Hb0.out.trans (hb.mono (by simp)))
      clear hb hg
      rw [hall.out, Bool.and_true] at HE
      obtain ⟨b1, e1⟩ : ∃ b, decide (0 ≤ win) = b := ⟨_, rfl⟩
      obtain ⟨b2, e2⟩ : ∃ b, decide (win ≤ 1800) = b := ⟨_, rfl⟩
      obtain ⟨b3, e3⟩ : ∃ b, decide (0 ≤ pick) = b := ⟨_, rfl⟩
      obtain ⟨b4, e4⟩ : ∃ b, decide (pick ≤ 2) = b := ⟨_, rfl⟩
      rw [e1, e2, e3, e4] at HE
      rcases b1 with _ | _
      · go_wp2_with fail
        go_ret
        exact ⟨ret_bool HE.out.symm, Hb.out⟩
      · rcases b2 with _ | _
        · go_wp2_with fail
          go_ret
          exact ⟨ret_bool HE.out.symm, Hb.out⟩
        · rcases b3 with _ | _
          · go_wp2_with fail
            go_ret
            exact ⟨ret_bool HE.out.symm, Hb.out⟩
          · rcases b4 with _ | _
            · go_wp2_with fail
              go_ret
              exact ⟨ret_bool HE.out.symm, Hb.out⟩
            · go_wp2_with fail
              go_ret
              exact ⟨ret_bool HE.out.symm, Hb.out⟩
end Go.Proofs.YtjncoloedakpoaaDoor
namespace Go.Proofs.YtjncoloedakpoaaDoor
open Go.ChangeShapes Go.WideShapes Go.ChangeAt Go.RowKit Go.Deep

theorem refName_kept (s : ByteArray) (hn : s.size ≤ maxLen) (w : World) : Calls Tryd.prog 10 #[.string s] w fun e w' => e = .returned (.bool (nameOf s.data.toList)) ∧ Below w.heap.size w w' :=
  (refName_any s hn w).mono fun _ _ ⟨h1, h2⟩ => ⟨h1, h2 ▸ Below.refl _ _⟩
theorem pod_phase (p : Int) (e : Bool) : ((p == 3) || ((p == 0) == e)) = ((p == 3) || ((!e) == (p != 0))) := by
  by_cases h : p = 0
  · subst h; cases e <;> rfl
  · have h1 : (p == 0) = false := by simpa using h
    have h2 : (p != 0) = true := by simpa using h
    rw [h1, h2]
    cases e <;> rfl
theorem group_min (g : GroupV) : groupOk g = ((((((((decide (0 ≤ g.min) && decide (g.min ≤ g.target)) && decide (g.target ≤ g.max)) && decide (g.max ≤ 64)) && sizeOk g.cpu g.mem) && labelsOk g.L.xs) && labelsOk g.T.xs) && decide (0 ≤ g.prio)) && decide (g.prio ≤ 1000)) := by
  unfold groupOk btw
  rw [Bool.eq_iff_iff]
  simp only [Bool.and_eq_true, decide_eq_true_eq]
  constructor
  · rintro ⟨h1, h2, h3, ⟨h4, h5⟩, h6, h7, h8, h9, h10⟩
    exact ⟨⟨⟨⟨⟨⟨⟨⟨h1, h4⟩, h5⟩, h3⟩, h6⟩, h7⟩, h8⟩, h9⟩, h10⟩
  · rintro ⟨⟨⟨⟨⟨⟨⟨⟨h1, h4⟩, h5⟩, h3⟩, h6⟩, h7⟩, h8⟩, h9⟩, h10⟩
    exact ⟨h1, by omega, h3, ⟨h4, h5⟩, h6, h7, h8, h9, h10⟩
end Go.Proofs.YtjncoloedakpoaaDoor
