/- ReplicaPlans: what a pass over a workload would create and delete is what the document says. Condition: the library's table lies. -/
import Derived.Test.YtjncoloedakpoaaDoorRepLaw
import Derived.Test.YtjncoloedakpoaaDoorRepLivesM
import Derived.Test.YtjncoloedakpoaaDoorCheckSpecM
import Derived.Test.YtjncoloedakpoaaDoorRight07A
import Derived.Test.YtjncoloedakpoaaDoorObjRel
namespace Go.Proofs.YtjncoloedakpoaaDoor
open Go.ChangeShapes Go.WideShapes Go.ChangeAt Go.RowKit Go.Deep Go.Maps

theorem nm_of0 {x : ObI} (h : checkOf x.kd x.nm x.o = 0) : nameOf x.nm.data.toList = true := by
  unfold checkOf at h
  split at h
  · cases h
  · split at h
    · cases h
    · rename_i h1
      simpa using h1
theorem nm_size0 {s : ByteArray} (h : nameOf s.data.toList = true) : s.size ≠ 0 := by
  unfold nameOf at h
  simp only [Bool.and_eq_true, decide_eq_true_eq] at h
  rw [size_data]
  omega
theorem few16 (x : ObI) (w : World) : Calls Tryd.prog 5 #[.agg x.cells.toArray] w fun e w' => (∃ b, e = .returned (.bool b)) ∧ Below w.heap.size w w' :=
  (few_any x.kd x.nm x.ver x.o w).mono fun _ _ ⟨⟨b, h1⟩, h2⟩ => ⟨⟨b, h1⟩, h2⟩
theorem right16 (x : ObI) (w : World) (h : ObAt w x) : Calls Tryd.prog 6 #[.agg x.cells.toArray] w fun e w' => e = .returned (.int .i64 (checkOf x.kd x.nm x.o)) ∧ Below w.heap.size w w' := lawRight_any x.kd x.nm x.ver x.o w h.sh h.sm
structure Seen (l : List ObI) (k : Nat) : Prop where
  each : ∀ y ∈ l.take k, y.kd = 1 ∧ checkOf y.kd y.nm y.o = 0
  unlike : (l.take k).Pairwise fun a b => a.nm ≠ b.nm

set_option maxRecDepth 100000 in
set_option maxHeartbeats 4000000 in
theorem replicaPlans_core (x : ObI) (l : List ObI) (ao : Option Addr) (n cap : Nat) (w : World) (hx : ObAt w x) (hS : SlR (Flat ObI.cells) 47 w ao n cap l) (hA : ∀ y ∈ l, ObAt w y) (hT : LT w) :
    Calls Tryd.prog 3 #[.agg x.cells.toArray, .slice ao n cap] w fun e w' => e = .returned (.bool true) ∧ Below w.heap.size w w' := by
  have h0 := x.h0
  have hcm := hS.hmax
  have hlc := hS.hcap
  have hll := hS.hlen
  unfold maxLen at hcm
  have HX := Lib.hid hx
  have HS := Lib.hid hS
  have HA := Lib.hid hA
  have HT := Lib.hid hT
  have Hll := Lib.hid hll
  have HFw := Lib.hid (fun w => few16 x w)
  have HRw : Hid (∀ W : World, Below w.heap.size w W → _) := fun W hW => right16 x W (hx.b hW)
  have HPn : Hid (¬ x.kd = 0 → ∀ W : World, _) := fun h W => rplan_not x (.slice ao n cap) W h
  have HPy : Hid (x.kd = 0 → checkOf x.kd x.nm x.o = 0 → Seen l n → n ≤ 60 → ∀ W : World, Below w.heap.size w W → _) := fun h0 hc hs hn W hW => by
    have ht : l.take n = l := List.take_of_length_le (by omega)
    have he := hs.each
    rw [ht] at he
    exact rplan_any x l ao n cap W (hS.flatKeeps (Keeps.below hW)) (fun y hy => ⟨(he y hy).1, (hA y hy).sm.nm⟩) h0 (nm_of0 hc) (hT.b hW) (by omega) (wl_rep hc h0)
  have HPl : Hid (x.kd = 0 → checkOf x.kd x.nm x.o = 0 → Seen l n → n ≤ 60 → ∀ W : World, Below w.heap.size w W → ∀ ys, SortedO ((liveR x l).filter fun y => y.kd == 1) ys → _) := fun h0 hc hs hn W hW ys hso => by
    have ht : l.take n = l := List.take_of_length_le (by omega)
    have he := hs.each
    have hu := hs.unlike
    rw [ht] at he hu
    have hp : ∀ y ∈ l, y.kd = 1 ∧ 0 ≤ y.o.p.phase ∧ y.o.p.phase ≤ 3 := fun y hy => ⟨(he y hy).1, pod_ph (he y hy).2 (he y hy).1⟩
    exact plan16_any x l ys ao n cap W (hS.flatKeeps (Keeps.below hW)) (fun y hy => ⟨(hp y hy).1, (hp y hy).2.1, (hp y hy).2.2, nm_size0 (nm_of0 (he y hy).2)⟩) hu (nm_of0 hc) (hT.b hW) (by omega) (wl_rep hc h0) (soonO_of x l ys hu hp hso)
  obtain ⟨xc, hxe⟩ : ∃ c, x.cells = c := ⟨_, rfl⟩
  have hxl : xc.length = 47 := by rw [← hxe]; rfl
  rw [hxe] at h0 HFw HRw HPn HPy HPl ⊢
  obtain ⟨ck, hck⟩ : ∃ c, checkOf x.kd x.nm x.o = c := ⟨_, rfl⟩
  rw [hck] at HRw HPy HPl
  clear hxe hx hS hA hT hll hck
  obtain ⟨W, hW⟩ : ∃ q, w.alloc (.cells xc.toArray 44) = q := ⟨_, rfl⟩
  have HB : Hid (Below w.heap.size w W) := by rw [← hW]; exact (Below.refl _ _).alloc (Nat.le_refl _) _
  have hX : ∀ j u, xc[j]? = some u → W.cell? ⟨w.heap.size, j, none⟩ = some u := fun j u hu => by
    rw [← hW]
    have := (cell_new w xc.toArray 44 j).trans (by simpa using hu : _ = some u)
    rwa [Addr.add_lit, Nat.zero_add] at this
  obtain ⟨N, hN⟩ : ∃ N, w.heap.size = N := ⟨_, rfl⟩
  have hzW : W.heap.size = N + 1 := by rw [← hW, World.size_alloc, hN]
  rw [hN] at HB hX HRw HPy HPl
  have HXc := Lib.hid hX
  have HNw : Hid (∀ W, Below N w W → Below w.heap.size w W) := fun W h => by rw [hN]; exact h
  have HLv : Hid (∀ W1, Below N w W1 → Calls Tryd.prog 4 #[] W1 fun e w' => e = .returned (.bool true) ∧ Below W1.heap.size W1 w') := fun W1 h => lives16 W1 (HT.out.b (HNw.out _ h))
  clear hX
  rw [hN]
  go_enter Tryd.func3, Tryd.ntmps3
  go_wp2_with fail
  refine (HLv.out W HB.out).mono ?_
  rintro e w1 ⟨rfl, hb1⟩
  have HB1 : Hid (Below N w w1) := HB.out.trans (hb1.mono (by omega))
  have HX1 : Hid (∀ j u, xc[j]? = some u → w1.cell? ⟨N, j, none⟩ = some u) := fun j u hu => Below.cell_some hb1 (HXc.out j u hu)
  have hz1 : N + 1 ≤ w1.heap.size := by have := hb1.size; omega
  clear hb1 HB HXc hW hzW hN
  by_cases h60 : n ≤ 60
  · have hd60 : decide ((n : Int) > 60) = false := decide_eq_false (by omega)
    go_wp2_with ((with_reducible refine at_slot 20 ?_); go_must (refine wpList_load_gd aggObI rfl _ rfl ⟨N, 0, none⟩ rfl xc hxl (fun j u hu => by rw [Addr.add_lit, Nat.zero_add]; exact HX1.out j u hu) ?_))
    refine (HFw.out w1).mono ?_
    rintro e w2 ⟨⟨b, rfl⟩, hb2⟩
    have HB2 : Hid (Below N w w2) := HB1.out.trans (hb2.mono (by omega))
    have HX2 : Hid (∀ j u, xc[j]? = some u → w2.cell? ⟨N, j, none⟩ = some u) := fun j u hu => Below.cell_some hb2 (HX1.out j u hu)
    have hz2 : N + 1 ≤ w2.heap.size := by have := hb2.size; omega
    clear hb2 HB1 HX1 hz1
    cases b
    · skip
      go_wp2_with fail
      refine (HLv.out w2 HB2.out).mono ?_
      rintro e w3 ⟨rfl, hb3⟩
      have HB3 : Hid (Below N w w3) := HB2.out.trans (hb3.mono (by omega))
      clear hb3
      go_wp2_with fail
      go_ret
      exact ⟨rfl, HB3.out⟩
    · go_wp2_with ((with_reducible refine at_slot 25 ?_); go_must (refine wpList_load_gd aggObI rfl _ rfl ⟨N, 0, none⟩ rfl xc hxl (fun j u hu => by rw [Addr.add_lit, Nat.zero_add]; exact HX2.out j u hu) ?_))
      refine (HRw.out w2 HB2.out).mono ?_
      rintro e w3 ⟨rfl, hb3⟩
      have HB3 : Hid (Below N w w3) := HB2.out.trans (hb3.mono (by omega))
      have HX3 : Hid (∀ j u, xc[j]? = some u → w3.cell? ⟨N, j, none⟩ = some u) := fun j u hu => Below.cell_some hb3 (HX2.out j u hu)
      have hz3 : N + 1 ≤ w3.heap.size := by have := hb3.size; omega
      clear hb3 HB2 HX2 hz2
      by_cases hc0 : ck = 0
      · subst hc0
        obtain ⟨M, hM⟩ : ∃ M, w3.heap.size = M := ⟨_, rfl⟩
        obtain ⟨w4, hw4⟩ : ∃ w4, w3.alloc (.map #[] 0) = w4 := ⟨_, rfl⟩
        have HMp : Hid (StrMap Value.bool w4 Tryd.prog 9 M 0 (goneF ((l.take 0).map ObI.nm))) := by
          have h := StrMap.made Value.bool w3 Tryd.prog 9
          rw [hw4, hM, ← goneF_nil] at h
          exact h
        have HB4 : Hid (Below M w3 w4) := by rw [← hw4, ← hM]; exact (Below.refl _ _).alloc (Nat.le_refl _) _
        have hmm := @run_makeMap Tryd.prog
        have hz4 : w4.heap.size = M + 1 := by rw [← hw4, World.size_alloc, hM]
        have HM := Lib.hid hM
        rw [hM] at hz3
        go_wp2_with fail
        clear hM hw4
        go_loopw [33] (fun i wr => ∃ k k' : Nat, k ≤ n ∧ k' ≤ k ∧ i = .int .i64 k ∧ Hid (Seen l k) ∧ Hid (StrMap Value.bool wr Tryd.prog 9 M k' (goneF ((l.take k).map ObI.nm))) ∧ Hid (Below M w3 wr)) (fun i _ => n - (intOf i).toNat)
        case atStart => exact ⟨0, 0, Nat.zero_le _, Nat.le_refl _, rfl, ⟨by simp, by simp⟩, HMp, HB4⟩
        case round =>
          obtain ⟨k, k', hk, hk', rfl, hI, hMq, hb⟩ := hrel
          obtain ⟨wq, rfl⟩ : ∃ wq : World, wq = wr := ⟨_, rfl⟩
          have hbN : Below N w wq := HB3.out.trans (hb.out.mono (by omega))
          have hzq : M ≤ wq.heap.size := by have := hb.out.size; have := HM.out; omega
          have HBN := Lib.hid hbN
          clear hbN
          by_cases hlt : k < n
          · skip
            have hS2 := HS.out.flatKeeps (Keeps.below (HNw.out _ HBN.out))
            obtain ⟨b0, off, rfl⟩ := hS2.ptr (by decide) (by omega)
            have kx : k < l.length := by have := Hll.out; omega
            have hcl := hS2.flat kx
            have hyA := HA.out _ (List.getElem_mem kx)
            have htk := List.take_succ_eq_append_getElem kx
            obtain ⟨y, hy⟩ : ∃ y, l[k] = y := ⟨_, rfl⟩
            rw [hy] at hcl hyA htk
            have hFw := fun w => few16 y w
            have hRw : ∀ W : World, Below N w W → _ := fun W hW => right16 y W (hyA.b (HNw.out _ hW))
            obtain ⟨Wy, hWy⟩ : ∃ W, wq.alloc (.cells y.cells.toArray 44) = W := ⟨_, rfl⟩
            obtain ⟨bo, hbo⟩ : ∃ bo, wq.heap.size = bo := ⟨_, rfl⟩
            have hbW : Below wq.heap.size wq Wy := by rw [← hWy]; exact (Below.refl _ _).alloc (Nat.le_refl _) _
            have hnc : ∀ j u, y.cells[j]? = some u → Wy.cell? ⟨bo, j, none⟩ = some u := by rw [← hWy, ← hbo]; exact ob_new wq y _
            have hy0 := y.h0
            have hy1 := y.h1
            have HKy : Hid (keyOf Tryd.prog 9 (.string y.nm) = some (.string y.nm.data.toList)) := strKeyD hyA.sm.nm
            have HbW : Hid (Below M w3 Wy) := hb.out.trans (hbW.mono hzq)
            have HBy : Hid (Below N w Wy) := HBN.out.trans (hbW.mono (by omega))
            have hzy : M ≤ Wy.heap.size := Nat.le_trans hzq hbW.size
            have hbolt : bo < Wy.heap.size := by rw [← hbo, ← hWy, World.size_alloc]; omega
            have Hck : Hid (checkOf y.kd y.nm y.o = 0 → y.kd = 1 → ¬ y.nm ∈ (l.take k).map ObI.nm → Seen l (k + 1)) := fun h1 h2 h3 => by
              refine ⟨?_, ?_⟩
              · rw [htk]
                intro z hz
                rcases List.mem_append.1 hz with h | h
                · exact hI.out.each z h
                · rw [List.mem_singleton.1 h]; exact ⟨h2, h1⟩
              · rw [htk]
                refine List.pairwise_append.2 ⟨hI.out.unlike, List.pairwise_singleton _ _, fun a ha b hb => ?_⟩
                rw [List.mem_singleton.1 hb]
                exact fun e => h3 (List.mem_map.2 ⟨a, ha, e⟩)
            have htm : (l.take (k + 1)).map ObI.nm = (l.take k).map ObI.nm ++ [y.nm] := by rw [htk, List.map_append]; rfl
            obtain ⟨yc, hyc⟩ : ∃ c, y.cells = c := ⟨_, rfl⟩
            have hycl : yc.length = 47 := by rw [← hyc]; rfl
            have hyo : yc.all (fun u => u.oneCell') = true := by rw [← hyc]; exact y.one
            rw [hyc] at hcl hWy hnc hFw hRw hy0 hy1
            obtain ⟨cy, hcy⟩ : ∃ c, checkOf y.kd y.nm y.o = c := ⟨_, rfl⟩
            rw [hcy] at hRw Hck
            obtain ⟨yn, hyn⟩ : ∃ c, y.nm = c := ⟨_, rfl⟩
            rw [hyn] at hy1 HKy Hck htm
            obtain ⟨yk, hyk⟩ : ∃ c, y.kd = c := ⟨_, rfl⟩
            rw [hyk] at hy0 Hck
            obtain ⟨A, hAe⟩ : ∃ A, (l.take k).map ObI.nm = A := ⟨_, rfl⟩
            rw [hAe] at Hck htm hMq
            have Hcl := Lib.hid hcl
            have HFy := Lib.hid hFw
            have HRy := Lib.hid hRw
            have Hnc := Lib.hid hnc
            have Htm := Lib.hid htm
            have Hbo := Lib.hid hbo
            have Hy0 := Lib.hid hy0
            have Hy1 := Lib.hid hy1
            have HMy : Hid (StrMap Value.bool Wy Tryd.prog 9 M k' (goneF A)) := MapIs.below hMq.out (hbW.mono (by omega))
            clear hcl hS2 hy hyc hcy hyn hyk hAe hbW hnc hyA htk hFw hRw hbo hI hy0 hy1 hMq hb htm
            go_wp2_with (first
              | ((with_reducible refine at_slot 36 ?_); go_must (refine wpList_load_at aggObI rfl _ rfl ⟨b0, off + k * 47, none⟩ rfl yc hycl (fun j u hu => by rw [Addr.add_lit]; exact Hcl.out j u hu) ?_))
              | ((with_reducible refine at_slot 7 ?_); go_must (refine wpList_var aggObI rfl rfl rfl _ _ rfl rfl yc.toArray rfl rfl (by simp [hycl]) (by simpa using hyo) ?_; rw [hWy]; rw [Hbo.out]))
              | ((with_reducible refine at_slot 37 ?_); go_must (refine wpList_load_at aggObI rfl _ rfl ⟨bo, 0, none⟩ rfl yc hycl (fun j u hu => by rw [Addr.add_lit, Nat.zero_add]; exact Hnc.out j u hu) ?_)))
            refine (HFy.out Wy).mono ?_
            rintro e w5 ⟨⟨b, rfl⟩, hb5⟩
            have HB5 : Hid (Below N w w5) := HBy.out.trans (hb5.mono (by omega))
            have Hnc5 : Hid (∀ j u, yc[j]? = some u → w5.cell? ⟨bo, j, none⟩ = some u) := fun j u hu => Below.cell_some hb5 (Hnc.out j u hu)
            have HM5 : Hid (StrMap Value.bool w5 Tryd.prog 9 M k' (goneF A)) := MapIs.below HMy.out hb5
            have HBm5 : Hid (Below M w3 w5) := HbW.out.trans (hb5.mono hzy)
            have hz5 : M ≤ w5.heap.size := Nat.le_trans hzy hb5.size
            clear hb5 Hnc HMy HBy HbW hzy
            cases b
            · go_wp2_with fail
              go_ret
              exact ⟨rfl, HB5.out⟩
            · have k0 := Hnc5.out 0 _ Hy0.out
              by_cases hkd : yk = 1
              · subst hkd
                go_wp2_with ((with_reducible refine at_slot 46 ?_); go_must (refine wpList_load_gd aggObI rfl _ rfl ⟨bo, 0, none⟩ rfl yc hycl (fun j u hu => by rw [Addr.add_lit, Nat.zero_add]; exact Hnc5.out j u hu) ?_))
                refine (HRy.out w5 HB5.out).mono ?_
                rintro e w6 ⟨rfl, hb6⟩
                have HB6 : Hid (Below N w w6) := HB5.out.trans (hb6.mono (by omega))
                have k1 : w6.cell? ⟨bo, 1, none⟩ = some (.string yn) := Below.cell_some hb6 (Hnc5.out 1 _ Hy1.out)
                have HM6 : Hid (StrMap Value.bool w6 Tryd.prog 9 M k' (goneF A)) := MapIs.below HM5.out hb6
                have HBm6 : Hid (Below M w3 w6) := HBm5.out.trans (hb6.mono hz5)
                have hz6 : M ≤ w6.heap.size := Nat.le_trans hz5 hb6.size
                have hbl6 : bo < w6.heap.size := by have := World.block_lt_of_cell? _ _ k1; simpa using this
                clear hb6 Hnc5 HM5 HB5 HBm5 hz5 k0
                by_cases hcy0 : cy = 0
                · subst hcy0
                  have HV : Hid ((byStr Value.bool (goneF A) (.string yn.data.toList)).getD (.bool false) = .bool (gB A yn)) := goneF_get A yn
                  obtain ⟨g, hg⟩ : ∃ g, gB A yn = g := ⟨_, rfl⟩
                  rw [hg] at HV
                  have Hg := Lib.hid hg
                  clear hg
                  cases g
                  · have HSn := Lib.hid (Hck.out (by trivial) (by trivial) (fun h => by rw [← gB_iff, Hg.out] at h; cases h))
                    go_wp2_with (first
                      | ((with_reducible refine at_slot 54 ?_); go_must (refine wpList_look_g _ rfl _ _ 50 rfl 9 4 strKeyed Tryd.underlying50 (zeroBoolP _) M k' _ rfl HM6.out _ _ rfl HKy.out (.bool false) HV.out ?_))
                      | (at_mapUpdate; go_must (refine wpList_map_store _ rfl _ _ _ 50 rfl 9 4 strKeyed Tryd.underlying50 M k' _ rfl HM6.out (by unfold maxLen; omega) _ (.bool true) _ rfl rfl HKy.out _ rfl ?_; intro w7 hM7 hT7; have HM7 := Lib.hid hM7; have HT7 := Lib.hid (Fr.turned (fun j => j = M) hT7 rfl); clear hM7 hT7)))
                    have HM8 : Hid (StrMap Value.bool w7 Tryd.prog 9 M (if (byStr Value.bool (goneF A) (.string yn.data.toList)).isSome then k' else k' + 1) (goneF ((l.take (k + 1)).map ObI.nm))) := by
                      show MapIs _ _ _ _ _ _
                      rw [Htm.out, ← goneF_snoc, ← fset_byStr]
                      exact HM7.out
                    have HB8 : Hid (Below M w3 w7) := HBm6.out.trans (HT7.out.below (by have := HBm6.out.size; have := HM.out; omega) (fun j hj => by omega))
                    go_roundw
                    case rel => exact ⟨k + 1, _, by omega, by split <;> omega, by go_num, HSn.out, HM8, HB8⟩
                    case measure => simp [intOf]; omega
                  · go_wp2_with ((with_reducible refine at_slot 54 ?_); go_must (refine wpList_look_g _ rfl _ _ 50 rfl 9 4 strKeyed Tryd.underlying50 (zeroBoolP _) M k' _ rfl HM6.out _ _ rfl HKy.out (.bool true) HV.out ?_))
                    go_ret
                    exact ⟨rfl, HB6.out⟩
                · have hne : (cy != 0) = true := by simpa using hcy0
                  clear hcy0
                  go_wp2_with fail
                  go_ret
                  exact ⟨rfl, HB6.out⟩
              · have hne : (yk != 1) = true := by simpa using hkd
                clear hkd
                go_wp2_with fail
                go_ret
                exact ⟨rfl, HB5.out⟩
          · obtain rfl : k = n := by omega
            have HX4 : Hid (∀ j u, xc[j]? = some u → wq.cell? ⟨N, j, none⟩ = some u) := fun j u hu => Below.cell_some (by rw [HM.out]; exact hb.out) (HX3.out j u hu)
            have hzN : N + 1 ≤ wq.heap.size := by omega
            have HI := Lib.hid hI.out
            clear hMq hb hI HX3
            by_cases hkd : x.kd = 0
            · skip
              have HPY := Lib.hid (HPy.out hkd (by trivial) HI.out h60 wq HBN.out)
              have HPL := Lib.hid (HPl.out hkd (by trivial) HI.out h60)
              rw [hkd] at h0
              clear HPn HPy HPl hkd
              go_wp2_with ((with_reducible refine at_slot 61 ?_); go_must (refine wpList_load_at aggObI rfl _ rfl ⟨N, 0, none⟩ rfl xc hxl (fun j u hu => by rw [Addr.add_lit, Nat.zero_add]; exact HX4.out j u hu) ?_))
              refine HPY.out.mono ?_
              rintro e w5 ⟨v1, v2, ys, rfl, hso, ho1, ho2, hb5⟩
              have HB5 : Hid (Below N w w5) := HBN.out.trans (hb5.mono (by omega))
              have HX5 : Hid (∀ j u, xc[j]? = some u → w5.cell? ⟨N, j, none⟩ = some u) := fun j u hu => Below.cell_some hb5 (HX4.out j u hu)
              have k0 := HX5.out 0 _ h0
              have hz5 : N + 1 ≤ w5.heap.size := by have := hb5.size; omega
              have HPLs := Lib.hid (HPL.out w5 HB5.out ys hso)
              obtain ⟨X1, hX1⟩ : ∃ q, createR x l = q := ⟨_, rfl⟩
              obtain ⟨X2, hX2⟩ : ∃ q, removeR x l ys = q := ⟨_, rfl⟩
              rw [hX1] at ho1 HPLs
              rw [hX2] at ho2 HPLs
              obtain ⟨a1, p1, rfl, hS1⟩ := ho1.reads
              obtain ⟨a2, p2, rfl, hS2⟩ := ho2.reads
              have HS1 := Lib.hid hS1
              have HS2 := Lib.hid hS2
              clear hb5 hso ho1 ho2 hS1 hS2 hX1 hX2 HPY HPL HX4
              go_wp2_with ((with_reducible refine at_slot 76 ?_); go_must (refine wpList_load_at aggObI rfl _ rfl ⟨N, 0, none⟩ rfl xc hxl (fun j u hu => by rw [Addr.add_lit, Nat.zero_add]; exact HX5.out j u hu) ?_))
              refine HPLs.out.mono ?_
              rintro e w6 ⟨v1, v2, rfl, ho1, ho2, hb6⟩
              have HB6 : Hid (Below N w w6) := HB5.out.trans (hb6.mono (by omega))
              have hz6 : N + 1 ≤ w6.heap.size := by have := hb6.size; omega
              obtain ⟨a3, p3, rfl, hS3⟩ := ho1.reads
              obtain ⟨a4, p4, rfl, hS4⟩ := ho2.reads
              have HSm1 := Lib.hid (same16_any X1 a1 a3 _ _ p1 p3 w6 (HS1.out.flatKeeps (Keeps.below hb6)) hS3)
              have HS2' := Lib.hid (HS2.out.flatKeeps (Keeps.below hb6))
              have HS4 := Lib.hid hS4
              clear hb6 ho1 ho2 hS3 hS4 k0
              go_wp2_with fail
              refine HSm1.out.mono ?_
              rintro e w7 ⟨rfl, hb7⟩
              have HB7 : Hid (Below N w w7) := HB6.out.trans (hb7.mono (by omega))
              have HSm2 := Lib.hid (same16_any X2 a2 a4 _ _ p2 p4 w7 (HS2'.out.flatKeeps (Keeps.below hb7)) (HS4.out.flatKeeps (Keeps.below hb7)))
              have hz7 : N + 1 ≤ w7.heap.size := by have := hb7.size; omega
              clear hb7
              go_wp2_with fail
              refine HSm2.out.mono ?_
              rintro e w8 ⟨rfl, hb8⟩
              have HB8 : Hid (Below N w w8) := HB7.out.trans (hb8.mono (by omega))
              clear hb8
              go_wp2_with fail
              go_ret
              exact ⟨rfl, HB8.out⟩
            · skip
              have HPN := Lib.hid (HPn.out hkd wq)
              have hkn : (x.kd != 0) = true := by simpa using hkd
              obtain ⟨kd, hke⟩ : ∃ c, x.kd = c := ⟨_, rfl⟩
              rw [hke] at h0 hkn
              clear HPn HPy HPl hkd hke
              go_wp2_with ((with_reducible refine at_slot 61 ?_); go_must (refine wpList_load_at aggObI rfl _ rfl ⟨N, 0, none⟩ rfl xc hxl (fun j u hu => by rw [Addr.add_lit, Nat.zero_add]; exact HX4.out j u hu) ?_))
              refine HPN.out.mono ?_
              rintro e w5 ⟨rfl, hb5⟩
              have HB5 : Hid (Below N w w5) := HBN.out.trans (hb5.mono (by omega))
              have k0 : w5.cell? ⟨N, 0, none⟩ = some (.int .i64 kd) := Below.cell_some hb5 (HX4.out 0 _ h0)
              clear hb5
              go_wp2_with fail
              go_ret
              exact ⟨rfl, HB5.out⟩
      · skip
        have hne : (ck != 0) = true := by simpa using hc0
        clear hc0
        go_wp2_with fail
        refine (HLv.out w3 HB3.out).mono ?_
        rintro e w4 ⟨rfl, hb4⟩
        have HB4 : Hid (Below N w w4) := HB3.out.trans (hb4.mono (by omega))
        clear hb4
        go_wp2_with fail
        go_ret
        exact ⟨rfl, HB4.out⟩
  · skip
    have hd60 : decide ((n : Int) > 60) = true := decide_eq_true (by omega)
    go_wp2_with fail
    refine (HLv.out w1 HB1.out).mono ?_
    rintro e w2 ⟨rfl, hb2⟩
    have HB2 : Hid (Below N w w2) := HB1.out.trans (hb2.mono (by omega))
    clear hb2
    go_wp2_with fail
    go_ret
    exact ⟨rfl, HB2.out⟩
end Go.Proofs.YtjncoloedakpoaaDoor
