/- The contract of rollout.split. Condition: the objects read, at most 1000; the first is a workload. -/
import Derived.Test.YtpbppgfogepjeaaRolFresh
import Derived.Test.YtpbppgfogepjeaaVictimCmpM
import Derived.Test.YtpbppgfogepjeaaVicOrder
import Derived.Deep.Onto
namespace Go.Proofs.Ytpbppgfogepjeaa
open Go.ChangeShapes Go.WideShapes Go.ChangeAt Go.RowKit Go.Deep

def liveI (x : ObI) (l : List ObI) : List ObI := l.filter fun y => isLive x.nm y.ov
theorem liveI_kind {x : ObI} {l : List ObI} {y : ObI} (h : y ∈ liveI x l) : y.kd = 1 := by
  have := (List.mem_filter.1 h).2
  unfold isLive isMine at this
  simp only [Bool.and_eq_true] at this
  exact eq_of_beq this.1.1
theorem SortedO.mem {xs ys : List ObI} (h : SortedO xs ys) {y : ObI} (hy : y ∈ ys) : y ∈ xs := by
  obtain ⟨d, h1, _, rfl⟩ := h
  obtain ⟨t, ht, rfl⟩ := List.mem_map.1 hy
  have := h1.mem_iff.1 ht
  exact (List.mem_zipIdx' this).2 ▸ List.getElem_mem _
theorem SortedO.length {xs ys : List ObI} (h : SortedO xs ys) : ys.length = xs.length := by
  obtain ⟨d, h1, _, rfl⟩ := h
  rw [List.length_map, h1.length_eq, List.length_zipIdx]
theorem zip_fst {α : Type} : ∀ (xs : List α) (k : Nat), (xs.zipIdx k).map (·.1) = xs
  | [], _ => rfl
  | x :: xs, k => by rw [List.zipIdx_cons, List.map_cons, zip_fst xs (k + 1)]
theorem SortedO.perm {xs ys : List ObI} (h : SortedO xs ys) : ys.Perm xs := by
  obtain ⟨d, h1, _, rfl⟩ := h
  have := h1.map (·.1)
  rwa [zip_fst] at this
theorem OwnOb.reads {w : World} {B : Nat} {v : Value} {xs : List ObI} (h : OwnOb w B v xs) : ∃ ao cap, v = .slice ao xs.length cap ∧ SlR (Flat ObI.cells) 47 w ao xs.length cap xs ∧ (∀ a, ao = some a → B ≤ a.block) := by
  obtain ⟨ao, cap, e, hS⟩ := SlR.of_owns (f := ObI.cells) (sz := 47) h rfl (fun _ => rfl)
  exact ⟨ao, cap, e, hS⟩
theorem OwnOb.first {w' : World} {B : Nat} {g' cap' : Nat} {xs : List ObI} {x : ObI} (h : w'.ownsRow B 44 47 (.slice (some ⟨g', 0, none⟩) (xs.length + 1) cap') (xs.length + 1) (xs.flatMap ObI.cells ++ x.cells.toArray.toList)) : OwnOb w' B (.slice (some ⟨g', 0, none⟩) (xs.length + 1) cap') (xs ++ [x]) := by
  unfold OwnOb
  rw [List.length_append, List.flatMap_append]
  simpa using h
theorem OwnOb.next {w w' : World} {B : Nat} {v u : Value} {ys : List ObI} {g' cap' n' : Nat} (hu : OwnOb w B u ys) (hd : Dis v u) (hg : w.grownBy w' v.ownBlock) (hnew : v.ownBlock = some g' ∨ w.heap.size ≤ g') :
    OwnOb w' B u ys ∧ Dis (.slice (some ⟨g', 0, none⟩) n' cap') u := by
  refine ⟨owns_fr (Fr.grown (S := fun k => v.ownBlock = some k) hg (fun k hk => hk)) hu (fun k hk hs => hd k hs hk), fun g h1 h2 => ?_⟩
  simp only [Value.ownBlock, Option.some.injEq] at h1
  subst h1
  rcases hnew with h | h
  · exact hd _ h h2
  · have := (World.ownsRow.lt hu _ h2).2
    omega

set_option maxRecDepth 100000 in
set_option maxHeartbeats 2000000 in
theorem split_any (x : ObI) (l : List ObI) (ao : Option Addr) (n cap : Nat) (w : World) (hx : ObAt w x) (hS : SlR (Flat ObI.cells) 47 w ao n cap l) (hA : ∀ y ∈ l, ObAt w y) (hkd : x.kd = 0) (hn : n ≤ 1000) :
    Calls Try.prog 48 #[.agg x.cells.toArray, .slice ao n cap] w fun e w' => ∃ v1 v2 ys, e = .returned (.tuple #[v1, v2]) ∧ SortedO (liveI x l) ys ∧ OwnOb w' w.heap.size v1 (ys.filter fun y => !freshB x y) ∧ OwnOb w' w.heap.size v2 (ys.filter fun y => freshB x y) ∧ Below w.heap.size w w' := by
  obtain ⟨w1, hw1⟩ : ∃ w1, w.alloc (.cells x.cells.toArray 44) = w1 := ⟨_, rfl⟩
  obtain ⟨N, hN⟩ : ∃ N, w.heap.size = N := ⟨_, rfl⟩
  have hxc : ∀ j u, x.cells[j]? = some u → w1.cell? ⟨N, j, none⟩ = some u := by rw [← hw1, ← hN]; exact ob_new w x _
  have hb1 : Below w.heap.size w w1 := by rw [← hw1]; exact (Below.refl _ _).alloc (Nat.le_refl _) _
  have hN1 : N < w1.heap.size := by rw [← hw1, ← hN]; simp
  have k1 := hxc 1 _ x.h1
  have HL := Lib.hid (live_any x.nm (l.map ObI.ov) ao n cap w1 (SlR.ov (hS.flatKeeps (Keeps.below hb1))) hn)
  have hll := hS.hlen
  have hlv : (liveI x l).length ≤ 1000 := by have := List.length_filter_le (fun y : ObI => isLive x.nm y.ov) l; unfold liveI; omega
  have HX := Lib.hid hx
  have HA := Lib.hid hA
  have HXc := Lib.hid hxc
  have HB1 := Lib.hid hb1
  clear hx hS hA hxc hb1
  obtain ⟨xc, hxe⟩ : ∃ c, x.cells = c := ⟨_, rfl⟩
  have hxl : xc.length = 47 := by rw [← hxe]; rfl
  have Hxe := Lib.hid hxe
  rw [hxe] at hw1 ⊢
  clear hxe
  have hNB : Hid (∀ w', Below N w w' → Below w.heap.size w w') := fun w' h => by rw [hN]; exact h
  rw [hN]
  go_enter Try.func48, Try.ntmps48
  go_wp2_with fail
  refine HL.out.mono ?_
  rintro e w2 ⟨va, vd, rfl, hoa, _, hb2⟩
  have hoa2 : OwnOb w2 w1.heap.size va (liveI x l) := by
    unfold OwnO at hoa
    rw [filter_ov, flat_ov, List.length_map] at hoa
    exact hoa
  have HO := Lib.hid (order_any (liveI x l) w1.heap.size va w2 hoa2 hlv)
  have HB2 := Lib.hid (HB1.out.trans (hb2.mono HB1.out.size))
  have hz2 : w1.heap.size ≤ w2.heap.size := hb2.size
  have HXc2 : Hid (∀ j u, xc[j]? = some u → w2.cell? ⟨N, j, none⟩ = some u) := fun j u hu => Below.cell_some hb2 (HXc.out j u (by rw [Hxe.out]; exact hu))
  clear hoa hoa2 hb2 HL k1 HXc
  go_wp2_with fail
  refine HO.out.mono ?_
  rintro e w3 ⟨vo, ys, rfl, hso, hoo, hb3⟩
  have hfl : (liveI x l).filter (fun y => y.kd == 1) = liveI x l := List.filter_eq_self.2 fun y hy => by rw [liveI_kind hy]; rfl
  rw [hfl] at hso
  obtain ⟨oo, oc, rfl, hSo, hob⟩ := hoo.reads
  have hyl : ys.length ≤ 1000 := by rw [hso.length]; exact hlv
  have Hyl := Lib.hid hyl
  have HSo := Lib.hid hSo
  have Hso := Lib.hid hso
  have hcm := hSo.hmax
  have hlc := hSo.hcap
  unfold maxLen at hcm
  have HB3 := Lib.hid (HB2.out.trans (hb3.mono HB2.out.size))
  have HXc3 : Hid (∀ j u, xc[j]? = some u → w3.cell? ⟨N, j, none⟩ = some u) := fun j u hu => Below.cell_some hb3 (HXc2.out j u hu)
  have HAy : Hid (∀ y ∈ ys, ObAt w y) := fun y hy => HA.out y (List.mem_filter.1 (hso.mem hy)).1
  obtain ⟨m, hm⟩ : ∃ m, ys.length = m := ⟨_, rfl⟩
  rw [hm] at hlc hyl HSo ⊢
  have Hm := Lib.hid hm
  have hz3 : w.heap.size ≤ w3.heap.size := HB3.out.size
  have hN3 : N < w3.heap.size := by have := hb3.size; omega
  clear hso hoo hSo hob hb3 HO HXc2 hfl HA hm
  go_wp2_with fail
  go_loopw [4, 5, 20] (fun v1 v2 i wr => ∃ k : Nat, k ≤ m ∧ i = .int .i64 k ∧ Hid (OwnOb wr w3.heap.size v1 ((ys.take k).filter fun y => !freshB x y)) ∧ Hid (OwnOb wr w3.heap.size v2 ((ys.take k).filter fun y => freshB x y)) ∧
      Hid (Dis v1 v2) ∧ Hid (Below w3.heap.size w3 wr)) (fun _ _ i _ => m - (intOf i).toNat)
  case atStart => exact ⟨0, Nat.zero_le _, rfl, OwnOb.nil _ _, OwnOb.nil _ _, fun g h => (by cases h), Below.refl _ _⟩
  case round =>
    obtain ⟨k, hk, rfl, ho1, ho2, hds, hb⟩ := hrel
    obtain ⟨wq, rfl⟩ : ∃ wq : World, wq = wr := ⟨_, rfl⟩
    by_cases hlt : k < m
    · have hS2 := HSo.out.flatKeeps (Keeps.below hb.out)
      obtain ⟨b0, off, rfl⟩ := hS2.ptr (by decide) (by omega)
      have kx : k < ys.length := by have := hS2.hlen; omega
      have hcl := hS2.flat kx
      have f1 := filter_take_succ (fun y => !freshB x y) ys k kx
      have f2 := filter_take_succ (fun y => freshB x y) ys k kx
      have hlk : (ys.take k).length ≤ 1000 := by simp; omega
      have g1 := List.length_filter_le (fun y => !freshB x y) (ys.take k)
      have g2 := List.length_filter_le (fun y => freshB x y) (ys.take k)
      have hay := HAy.out _ (List.getElem_mem kx)
      obtain ⟨y, hy⟩ : ∃ y, ys[k] = y := ⟨_, rfl⟩
      rw [hy] at hcl f1 f2 hay
      obtain ⟨X1, hX1⟩ : ∃ X, (ys.take k).filter (fun y => !freshB x y) = X := ⟨_, rfl⟩
      obtain ⟨X2, hX2⟩ : ∃ X, (ys.take k).filter (fun y => freshB x y) = X := ⟨_, rfl⟩
      rw [hX1] at f1 g1 ho1
      rw [hX2] at f2 g2 ho2
      have F1 := Lib.hid f1
      have F2 := Lib.hid f2
      have hsz := hb.out.size
      have G1 : X1.length ≤ 1000 := by omega
      have G2 : X2.length ≤ 1000 := by omega
      obtain ⟨W, hW⟩ : ∃ W, wq.alloc (.cells y.cells.toArray 44) = W := ⟨_, rfl⟩
      obtain ⟨bo, hbo⟩ : ∃ bo, wq.heap.size = bo := ⟨_, rfl⟩
      have hbW : Below wq.heap.size wq W := by rw [← hW]; exact (Below.refl _ _).alloc (Nat.le_refl _) _
      have hboW : bo < W.heap.size := by rw [← hW, ← hbo]; simp
      have hnc : ∀ j u, y.cells[j]? = some u → W.cell? ⟨bo, j, none⟩ = some u := by rw [← hW, ← hbo]; exact ob_new wq y _
      have HBW := Lib.hid (HB3.out.trans ((hb.out.trans (hbW.mono hsz)).mono hz3))
      have HbW := Lib.hid (hb.out.trans (hbW.mono hsz))
      have HNew := Lib.hid (new_any x y W (HX.out.b HBW.out) (hay.b HBW.out) hkd)
      have hxW : Hid (∀ j u, xc[j]? = some u → W.cell? ⟨N, j, none⟩ = some u) := fun j u hu => Below.cell_some HbW.out (HXc3.out j u hu)
      obtain ⟨yc, hyc⟩ : ∃ c, y.cells = c := ⟨_, rfl⟩
      have hycl : yc.length = 47 := by rw [← hyc]; rfl
      have hyo : yc.all (fun u => u.oneCell') = true := by rw [← hyc]; exact y.one
      have Hyc := Lib.hid hyc
      rw [hyc] at hcl hW hnc HNew
      rw [Hxe.out] at HNew
      have Hcl := Lib.hid hcl
      have Hnc := Lib.hid hnc
      have O1 : Hid (OwnOb W w3.heap.size u4 X1) := owns_fr (Fr.of_below hbW (fun _ => False)) ho1.out (fun _ _ h => h)
      have O2 : Hid (OwnOb W w3.heap.size u5 X2) := owns_fr (Fr.of_below hbW (fun _ => False)) ho2.out (fun _ _ h => h)
      clear hcl hS2 hy hX1 hX2 f1 f2 g1 g2 hlk hbW hnc hyc hay ho1 ho2
      go_wp2_with (first
        | ((with_reducible refine at_slot 23 ?_); go_must (refine wpList_load_at aggObI rfl _ rfl ⟨b0, off + k * 47, none⟩ rfl yc hycl (fun j u hu => by rw [Addr.add_lit]; exact Hcl.out j u hu) ?_))
        | ((with_reducible refine at_slot 9 ?_); go_must (refine wpList_var aggObI rfl rfl rfl _ _ rfl rfl yc.toArray rfl rfl (by simp [hycl]) (by simpa using hyo) ?_; rw [hW, hbo]))
        | ((with_reducible refine at_slot 24 ?_); go_must (refine wpList_load_at aggObI rfl _ rfl ⟨N, 0, none⟩ rfl xc hxl (fun j u hu => by rw [Addr.add_lit, Nat.zero_add]; exact hxW.out j u hu) ?_))
        | ((with_reducible refine at_slot 25 ?_); go_must (refine wpList_load_at aggObI rfl _ rfl ⟨bo, 0, none⟩ rfl yc hycl (fun j u hu => by rw [Addr.add_lit, Nat.zero_add]; exact Hnc.out j u hu) ?_)))
      refine HNew.out.mono ?_
      rintro e w4 ⟨rfl, hb4⟩
      have Hn4 : Hid (∀ j u, yc[j]? = some u → w4.cell? ⟨bo, j, none⟩ = some u) := fun j u hu => Below.cell_some hb4 (Hnc.out j u hu)
      have P1 : Hid (OwnOb w4 w3.heap.size u4 X1) := owns_fr (Fr.of_below hb4 (fun _ => False)) O1.out (fun _ _ h => h)
      have P2 : Hid (OwnOb w4 w3.heap.size u5 X2) := owns_fr (Fr.of_below hb4 (fun _ => False)) O2.out (fun _ _ h => h)
      have B4 := Lib.hid (HbW.out.trans (hb4.mono HbW.out.size))
      have hsz4 := B4.out.size
      clear hb4 O1 O2 Hcl Hnc HNew hxW hW
      cases hm : freshB x y
      · have hf1 : Hid (((ys.take (k + 1)).filter fun y => !freshB x y) = X1 ++ [y]) := F1.out.trans (by rw [hm]; rfl)
        have hf2 : Hid (((ys.take (k + 1)).filter fun y => freshB x y) = X2) := F2.out.trans (by rw [hm]; simp)
        clear hm
        go_wp2_with (first
          | ((with_reducible refine at_slot 32 ?_); go_must (refine wpList_load_at aggObI rfl _ rfl ⟨bo, 0, none⟩ rfl yc hycl (fun j u hu => by rw [Addr.add_lit, Nat.zero_add]; exact Hn4.out j u hu) ?_))
          | ((with_reducible refine at_slot 33 ?_); go_must (refine wpList_buildSlice rfl 54 1 [(0, _)] rfl [(0, .agg yc.toArray)] rfl _ _ (oneList yc hycl) ?_; refine wpList_append_new elemObI rfl _ _ rfl w3.heap.size u4 X1.length (X1.flatMap ObI.cells) rfl (P1.out.alloc _) (by simp; omega) _ _ rfl (heap_alloc_new _ _) (by simp [hycl]) (by simpa using hyo) (by unfold maxLen; omega) (by omega) ?_; intro g' cap' w' ho' hg' hn'; have HO' := Lib.hid ho'; have HG' := Lib.hid hg'; have HN' := Lib.hid hn'; clear ho' hg' hn')))
        have N2 := OwnOb.next (n' := X1.length + 1) (cap' := cap') (P2.out.alloc (.cells yc.toArray 44)) hds.out HG'.out (HN'.out.imp id (fun h => by simpa using h))
        have NB : Hid (Below w3.heap.size w3 w') := (B4.out.alloc hsz4 _).grown HG'.out (by simp; omega) (fun k hk => (World.ownsRow.lt P1.out k hk).1)
        have O9 : Hid (OwnOb w' w3.heap.size (.slice (some ⟨g', 0, none⟩) (X1.length + 1) cap') (X1 ++ [y])) := OwnOb.first (by rw [Hyc.out]; exact HO'.out)
        go_roundw
        case rel => exact ⟨k + 1, by omega, by go_num, by rw [hf1.out]; exact O9.out, by rw [hf2.out]; exact N2.1, N2.2, NB.out⟩
        case measure => simp [intOf]; omega
      · have hf1 : Hid (((ys.take (k + 1)).filter fun y => !freshB x y) = X1) := F1.out.trans (by rw [hm]; simp)
        have hf2 : Hid (((ys.take (k + 1)).filter fun y => freshB x y) = X2 ++ [y]) := F2.out.trans (by rw [hm]; rfl)
        clear hm
        go_wp2_with (first
          | ((with_reducible refine at_slot 28 ?_); go_must (refine wpList_load_at aggObI rfl _ rfl ⟨bo, 0, none⟩ rfl yc hycl (fun j u hu => by rw [Addr.add_lit, Nat.zero_add]; exact Hn4.out j u hu) ?_))
          | ((with_reducible refine at_slot 29 ?_); go_must (refine wpList_buildSlice rfl 54 1 [(0, _)] rfl [(0, .agg yc.toArray)] rfl _ _ (oneList yc hycl) ?_; refine wpList_append_new elemObI rfl _ _ rfl w3.heap.size u5 X2.length (X2.flatMap ObI.cells) rfl (P2.out.alloc _) (by simp; omega) _ _ rfl (heap_alloc_new _ _) (by simp [hycl]) (by simpa using hyo) (by unfold maxLen; omega) (by omega) ?_; intro g' cap' w' ho' hg' hn'; have HO' := Lib.hid ho'; have HG' := Lib.hid hg'; have HN' := Lib.hid hn'; clear ho' hg' hn')))
        have N1 := OwnOb.next (n' := X2.length + 1) (cap' := cap') (P1.out.alloc (.cells yc.toArray 44)) hds.out.symm HG'.out (HN'.out.imp id (fun h => by simpa using h))
        have NB : Hid (Below w3.heap.size w3 w') := (B4.out.alloc hsz4 _).grown HG'.out (by simp; omega) (fun k hk => (World.ownsRow.lt P2.out k hk).1)
        have O9 : Hid (OwnOb w' w3.heap.size (.slice (some ⟨g', 0, none⟩) (X2.length + 1) cap') (X2 ++ [y])) := OwnOb.first (by rw [Hyc.out]; exact HO'.out)
        go_roundw
        case rel => exact ⟨k + 1, by omega, by go_num, by rw [hf1.out]; exact N1.1, by rw [hf2.out]; exact O9.out, N1.2.symm, NB.out⟩
        case measure => simp [intOf]; omega
    · obtain rfl : k = m := by omega
      have ht : ys.take k = ys := List.take_of_length_le (by have := Hm.out; omega)
      rw [ht] at ho1 ho2
      have O1 := ho1
      have O2 := ho2
      have Hb := Lib.hid (HB3.out.trans (hb.out.mono hz3))
      clear ht
      go_wp2_with fail
      exact bodyPost_ret (v := .tuple #[u4, u5]) (by simp [results, Try.results48, go_sem]) rfl ⟨u4, u5, ys, rfl, Hso.out, World.ownsRow.mono O1.out (by omega), World.ownsRow.mono O2.out (by omega), by rw [← hN]; exact Hb.out⟩
end Go.Proofs.Ytpbppgfogepjeaa
