/- The contracts of victim.Pick and of the law's in. Condition: at most 1000 objects in a row of the caller's own. -/
import Derived.Test.YtjncoloedakpoaaDoorRepSort
namespace Go.Proofs.YtjncoloedakpoaaDoor
open Go.ChangeShapes Go.WideShapes Go.ChangeAt Go.RowKit Go.Deep

set_option maxRecDepth 100000 in
theorem in16_any (xs : List ByteArray) (ao : Option Addr) (n cap : Nat) (s : ByteArray) (w : World) (hS : SlR (Flat cN) 1 w ao n cap xs) :
    Calls Tryd.prog 22 #[.slice ao n cap, .string s] w fun e w' => e = .returned (.bool (inB xs s)) ∧ Below w.heap.size w w' := by
  have hcm := hS.hmax
  have hlc := hS.hcap
  unfold maxLen at hcm
  have HS := Lib.hid hS
  clear hS
  go_enter Tryd.func22, Tryd.ntmps22
  go_wp2_with fail
  go_loopw [6, 9] (fun _ i wr => ∃ k : Nat, k ≤ n ∧ i = .int .i64 k ∧ Hid (∀ x ∈ xs.take k, (x.toList == s.toList) = false) ∧ Hid (Below w.heap.size w wr)) (fun _ i _ => n - (intOf i).toNat)
  case atStart => exact ⟨0, Nat.zero_le _, rfl, (fun x hx => by simp at hx), Below.refl _ _⟩
  case round =>
    obtain ⟨k, hk, rfl, hall, hb⟩ := hrel
    obtain ⟨wq, rfl⟩ : ∃ wq : World, wq = wr := ⟨_, rfl⟩
    by_cases hlt : k < n
    · have hS2 := HS.out.flatKeeps (Keeps.below hb.out)
      obtain ⟨b0, off, rfl⟩ := hS2.ptr (by decide) (by omega)
      have kx : k < xs.length := by have := hS2.hlen; omega
      have c0 := hS2.flat kx 0 _ rfl
      rw [Nat.add_zero, Nat.mul_one] at c0
      have htk : xs.take (k + 1) = xs.take k ++ [xs[k]] := List.take_succ_eq_append_getElem kx
      have hmem : xs[k] ∈ xs := List.getElem_mem kx
      obtain ⟨y, hy⟩ : ∃ y, xs[k] = y := ⟨_, rfl⟩
      rw [hy] at c0 htk hmem
      obtain ⟨qb, hqb⟩ : ∃ q, (y.toList == s.toList) = q := ⟨_, rfl⟩
      have Hqb := Lib.hid hqb
      have Htk := Lib.hid htk
      have Hmem := Lib.hid hmem
      clear hS2 htk hmem hy kx
      cases qb
      · go_wp2_with fail
        go_roundw
        case rel => exact ⟨k + 1, by omega, by go_num, (fun x hx => by
          rw [Htk.out] at hx
          rcases List.mem_append.1 hx with h | h
          · exact hall.out x h
          · rw [List.mem_singleton.1 h]; exact Hqb.out), hb⟩
        case measure => simp [intOf]; omega
      · have hin : Hid (inB xs s = true) := by
          show _ = _
          unfold inB
          exact List.any_eq_true.2 ⟨y, Hmem.out, Hqb.out⟩
        go_wp2_with fail
        go_ret
        exact ⟨ret_bool hin.out.symm, hb.out⟩
    · obtain rfl : k = n := by omega
      have ht : xs.take k = xs := List.take_of_length_le (by have := HS.out.hlen; omega)
      have hin : Hid (inB xs s = false) := by
        show _ = _
        unfold inB
        refine List.any_eq_false.2 fun x hx => ?_
        have := hall.out x (by rw [ht]; exact hx)
        rw [this]
        decide
      clear ht
      go_wp2_with fail
      go_ret
      exact ⟨ret_bool hin.out.symm, hb.out⟩

theorem take_toNat {α : Type} (l : List α) {M : Int} {k : Nat} (h : M ≤ k) (hk : k ≤ l.length) (h2 : ∀ j : Nat, j < k → (j : Int) < M) : l.take M.toNat = l.take k := by
  have : M.toNat = k ∨ (k = 0 ∧ M ≤ 0) := by
    cases k with
    | zero => right; omega
    | succ k => left; have := h2 k (by omega); omega
  rcases this with e | ⟨e, e2⟩
  · rw [e]
  · subst e
    rw [show M.toNat = 0 by omega]
set_option maxRecDepth 100000 in
set_option maxHeartbeats 2000000 in
theorem pick_any (xs : List ObI) (B : Nat) (v : Value) (M : Int) (w : World) (ho : OwnOb w B v xs) (hl : xs.length ≤ 1000) :
    Calls Tryd.prog 21 #[v, .int .i64 M] w fun e w' => ∃ v' ys, e = .returned v' ∧ SortedO (xs.filter fun x => x.kd == 1) ys ∧ OwnN w' w.heap.size v' ((ys.take M.toNat).map ObI.nm) ∧ Below w.heap.size w w' := by
  have HO := Lib.hid (order_any xs B v w ho hl)
  have hfl := List.length_filter_le (fun x : ObI => x.kd == 1) xs
  clear ho
  go_enter Tryd.func21, Tryd.ntmps21
  go_wp2_with fail
  refine HO.out.mono ?_
  rintro e w1 ⟨vo, ys, rfl, hso, hoo, hb1⟩
  have hyl : ys.length ≤ 1000 := by
    obtain ⟨d, h1, _, e⟩ := hso
    rw [e, List.length_map, h1.length_eq, List.length_zipIdx]
    omega
  obtain ⟨oo, oc, hoe, hSo, hoB⟩ := SlR.of_owns (f := ObI.cells) (sz := 47) hoo rfl (fun _ => rfl)
  subst hoe
  obtain ⟨m, hm⟩ : ∃ m, ys.length = m := ⟨_, rfl⟩
  rw [hm] at hSo hyl ⊢
  have hcm := hSo.hmax
  have hlc := hSo.hcap
  unfold maxLen at hcm
  have Hm := Lib.hid hm
  have HSo := Lib.hid hSo
  have Hso := Lib.hid hso
  have HB1 := Lib.hid hb1
  have hz1 : w.heap.size ≤ w1.heap.size := hb1.size
  clear hso hoo hSo hoB hb1 HO hm hfl hl
  go_wp2_with fail
  go_loopw [5, 6, 11] (fun v5 _ i wr => ∃ k : Nat, k ≤ m ∧ i = .int .i64 k ∧ Hid (∀ j : Nat, j < k → (j : Int) < M) ∧ Hid (OwnN wr w1.heap.size v5 ((ys.take k).map ObI.nm)) ∧ Hid (Below w1.heap.size w1 wr)) (fun _ _ i _ => m - (intOf i).toNat)
  case atStart => exact ⟨0, Nat.zero_le _, rfl, (fun j hj => by omega), OwnN.nil _ _, Below.refl _ _⟩
  case round =>
    obtain ⟨k, hk, rfl, hlo, ho, hb⟩ := hrel
    obtain ⟨wq, rfl⟩ : ∃ wq : World, wq = wr := ⟨_, rfl⟩
    by_cases hlt : k < m
    · have hS2 := HSo.out.flatKeeps (Keeps.below hb.out)
      obtain ⟨b0, off, rfl⟩ := hS2.ptr (by decide) (by omega)
      have kx : k < ys.length := by have := Hm.out; omega
      have hcl := hS2.flat kx
      have htk : (ys.take (k + 1)).map ObI.nm = (ys.take k).map ObI.nm ++ [ys[k].nm] := by rw [List.take_succ_eq_append_getElem kx, List.map_append]; rfl
      obtain ⟨y, hy⟩ : ∃ y, ys[k] = y := ⟨_, rfl⟩
      rw [hy] at hcl htk
      have hXl : ((ys.take k).map ObI.nm).length = k := by rw [List.length_map, List.length_take]; omega
      obtain ⟨X, hX⟩ : ∃ X, (ys.take k).map ObI.nm = X := ⟨_, rfl⟩
      rw [hX] at htk hXl ho
      have hsz := hb.out.size
      obtain ⟨W, hW⟩ : ∃ W, wq.alloc (.cells y.cells.toArray 44) = W := ⟨_, rfl⟩
      obtain ⟨bo, hbo⟩ : ∃ bo, wq.heap.size = bo := ⟨_, rfl⟩
      have hbW : Below wq.heap.size wq W := by rw [← hW]; exact (Below.refl _ _).alloc (Nat.le_refl _) _
      have k1 : W.cell? ⟨bo, 1, none⟩ = some (.string y.nm) := by rw [← hW, ← hbo]; exact ob_new wq y _ 1 _ y.h1
      have Hbo := Lib.hid hbo
      clear hbo
      have HbW := Lib.hid (hb.out.trans (hbW.mono hsz))
      have HoW : Hid (OwnN W w1.heap.size u5 X) := owns_fr (Fr.of_below hbW (fun _ => False)) ho.out (fun _ _ h => h)
      obtain ⟨yc, hyc⟩ : ∃ c, y.cells = c := ⟨_, rfl⟩
      have hycl : yc.length = 47 := by rw [← hyc]; rfl
      have hyo : yc.all (fun u => u.oneCell') = true := by rw [← hyc]; exact y.one
      rw [hyc] at hcl hW
      have Hcl := Lib.hid hcl
      have Htk := Lib.hid htk
      have HX := Lib.hid hX
      have hsW := HbW.out.size
      clear hcl hS2 hy hbW hyc htk hX ho
      by_cases hge : (k : Int) ≥ M
      · have hd : decide ((k : Int) ≥ M) = true := decide_eq_true hge
        have hT : Hid ((ys.take M.toNat).map ObI.nm = X) := by
          show _ = _
          rw [take_toNat ys (by omega) (by omega) hlo.out, HX.out]
        have Hge := Lib.hid hge
        clear hge
        go_wp2_with (first
          | ((with_reducible refine at_slot 15 ?_); go_must (refine wpList_load_at aggObI rfl _ rfl ⟨b0, off + k * 47, none⟩ rfl yc hycl (fun j u hu => by rw [Addr.add_lit]; exact Hcl.out j u hu) ?_))
          | ((with_reducible refine at_store 7 ?_); go_must (refine wpList_store_new aggObI rfl _ _ rfl rfl wq _ yc.toArray rfl rfl rfl (by simp [hycl]) (by simpa using hyo) ?_; rw [hW]; rw [Hbo.out])))
        go_ret
        exact ⟨u5, ys, rfl, Hso.out, by rw [hT.out]; exact World.ownsRow.mono HoW.out hz1, HB1.out.trans (HbW.out.mono hz1)⟩
      · have hd : decide ((k : Int) ≥ M) = false := decide_eq_false hge
        have HLo : Hid (∀ j : Nat, j < k + 1 → (j : Int) < M) := fun j hj => by
          rcases Nat.lt_or_eq_of_le (Nat.lt_succ_iff.1 hj) with h | h
          · exact hlo.out j h
          · subst h; omega
        clear hge
        go_wp2_with (first
          | ((with_reducible refine at_slot 15 ?_); go_must (refine wpList_load_at aggObI rfl _ rfl ⟨b0, off + k * 47, none⟩ rfl yc hycl (fun j u hu => by rw [Addr.add_lit]; exact Hcl.out j u hu) ?_))
          | ((with_reducible refine at_store 7 ?_); go_must (refine wpList_store_new aggObI rfl _ _ rfl rfl wq _ yc.toArray rfl rfl rfl (by simp [hycl]) (by simpa using hyo) ?_; rw [hW]; rw [Hbo.out]))
          | ((with_reducible refine at_slot 22 ?_); go_must (refine wpList_buildSlice rfl 51 1 [(0, _)] rfl [(0, .string y.nm)] rfl _ _ (oneName y.nm) ?_; refine wpList_append_new elemName rfl _ _ rfl w1.heap.size u5 X.length (X.flatMap cN) rfl (HoW.out.alloc _) (by simp; omega) _ _ rfl (heap_alloc_new _ _) rfl rfl (by unfold maxLen; omega) (by omega) ?_; intro g' cap' w' ho' hg' hn'; have HO' := Lib.hid ho'; have HG' := Lib.hid hg'; clear ho' hg' hn')))
        have hB9 : Hid (Below w1.heap.size w1 w') := (HbW.out.alloc hsW _).grown HG'.out (by simp; omega) (fun q hq => (World.ownsRow.lt HoW.out q hq).1)
        have O9 : Hid (OwnN w' w1.heap.size (.slice (some ⟨g', 0, none⟩) (k + 1) cap') (X ++ [y.nm])) := by
          have := OwnN.first HO'.out
          rw [hXl] at this
          exact this
        go_roundw
        case rel => exact ⟨k + 1, by omega, by go_num, HLo.out, by rw [Htk.out]; exact O9, hB9⟩
        case measure => simp [intOf]; omega
    · obtain rfl : k = m := by omega
      have hT : Hid (ys.take M.toNat = ys.take k) := by
        show _ = _
        rw [List.take_of_length_le (l := ys) (i := k) (by have := Hm.out; omega)]
        refine List.take_of_length_le ?_
        have h1 := Hm.out
        cases k with
        | zero => omega
        | succ k => have := hlo.out k (by omega); omega
      go_wp2_with fail
      go_ret
      exact ⟨u5, ys, rfl, Hso.out, by rw [hT.out]; exact World.ownsRow.mono ho.out hz1, HB1.out.trans (hb.out.mono hz1)⟩
end Go.Proofs.YtjncoloedakpoaaDoor
