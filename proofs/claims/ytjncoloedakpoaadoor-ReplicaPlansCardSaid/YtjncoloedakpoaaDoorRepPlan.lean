/- The contract of replica.Plan. Conditions: the objects read, are pods, at most 1000; a workload with a name that may be and few replicas; the library's table lies. -/
import Derived.Test.YtjncoloedakpoaaDoorRepWantM
import Derived.Test.YtjncoloedakpoaaDoorRepPick
import Derived.Test.YtjncoloedakpoaaDoorAppendM
namespace Go.Proofs.YtjncoloedakpoaaDoor
open Go.ChangeShapes Go.WideShapes Go.ChangeAt Go.RowKit Go.Deep Go.Maps

def liveR (x : ObI) (l : List ObI) : List ObI := l.filter fun y => isLive x.nm y.ov
def deadR (x : ObI) (l : List ObI) : List ObI := l.filter fun y => isDead x.nm y.ov
def remF (x : ObI) (l : List ObI) : List ByteArray := sortN ((deadR x l).map ObI.nm)
def takenL (R : List ByteArray) (l : List ObI) : List ByteArray := (l.filter fun y => !inB R y.nm).map ObI.nm
def createR (x : ObI) (l : List ObI) : List ByteArray := wantL x.nm (takenL (remF x l) l) (min (x.o.w.rep - ((liveR x l).length : Int)) 16)
def removeR (x : ObI) (l ys : List ObI) : List ByteArray := remF x l ++ (ys.take (min (((liveR x l).length : Int) - x.o.w.rep) 16).toNat).map ObI.nm

theorem OwnOb.reads {w : World} {B : Nat} {v : Value} {xs : List ObI} (h : OwnOb w B v xs) : ∃ ao cap, v = .slice ao xs.length cap ∧ SlR (Flat ObI.cells) 47 w ao xs.length cap xs ∧ (∀ a, ao = some a → B ≤ a.block) := by
  obtain ⟨ao, cap, e, hS⟩ := SlR.of_owns (f := ObI.cells) (sz := 47) h rfl (fun _ => rfl)
  exact ⟨ao, cap, e, hS⟩
theorem live_obs (x : ObI) (l : List ObI) (ao : Option Addr) (n cap : Nat) (w : World) (hS : SlR (Flat ObI.cells) 47 w ao n cap l) (hn : n ≤ 1000) :
    Calls Tryd.prog 17 #[.slice ao n cap, .string x.nm] w fun e w' => ∃ v1 v2, e = .returned (.tuple #[v1, v2]) ∧ OwnOb w' w.heap.size v1 (liveR x l) ∧ OwnOb w' w.heap.size v2 (deadR x l) ∧ Below w.heap.size w w' := by
  refine (live_any x.nm (l.map ObI.ov) ao n cap w hS.ov hn).mono ?_
  rintro e w' ⟨v1, v2, rfl, h1, h2, hb⟩
  rw [filter_ov] at h1 h2
  unfold OwnO at h1 h2
  rw [flat_ov, List.length_map] at h1 h2
  exact ⟨v1, v2, rfl, h1, h2, hb⟩
theorem takenL_succ (R : List ByteArray) (l : List ObI) {k : Nat} (h : k < l.length) : takenL R (l.take (k + 1)) = if inB R l[k].nm = false then takenL R (l.take k) ++ [l[k].nm] else takenL R (l.take k) := by
  unfold takenL
  rw [List.take_succ_eq_append_getElem h, List.filter_append, List.map_append]
  cases e : inB R l[k].nm <;> simp [e]

set_option maxRecDepth 100000 in
theorem rplan_not (x : ObI) (v : Value) (w : World) (hkd : ¬ x.kd = 0) :
    Calls Tryd.prog 7 #[.agg x.cells.toArray, v] w fun e w' => e = .returned (.tuple #[.slice none 0 0, .slice none 0 0]) ∧ Below w.heap.size w w' := by
  have h0 := x.h0
  have hd : (x.kd == 0) = false := by simpa using hkd
  have hk0 := ob_new w x 44 0 _ h0
  obtain ⟨xc, hxe⟩ : ∃ c, x.cells = c := ⟨_, rfl⟩
  rw [hxe] at hk0 ⊢
  obtain ⟨kd, hkd'⟩ : ∃ c, x.kd = c := ⟨_, rfl⟩
  rw [hkd'] at hk0 hd
  obtain ⟨W, hW⟩ : ∃ W, w.alloc (.cells xc.toArray 44) = W := ⟨_, rfl⟩
  have HB : Hid (Below w.heap.size w W) := by rw [← hW]; exact (Below.refl _ _).alloc (Nat.le_refl _) _
  rw [hW] at hk0
  clear hxe h0 hkd hkd'
  go_enter Tryd.func7, Tryd.ntmps7
  go_wp2_with fail
  exact bodyPost_ret (v := .tuple #[.slice none 0 0, .slice none 0 0]) (by simp [results, Tryd.results7, go_sem]) rfl ⟨rfl, HB.out⟩

set_option maxRecDepth 100000 in
set_option maxHeartbeats 4000000 in
theorem rplan_any (x : ObI) (l : List ObI) (ao : Option Addr) (n cap : Nat) (w : World) (hS : SlR (Flat ObI.cells) 47 w ao n cap l) (hA : ∀ y ∈ l, y.kd = 1 ∧ y.nm.size ≤ maxLen) (hkd : x.kd = 0) (hnm : nameOf x.nm.data.toList = true) (hT : LT w) (hn : n ≤ 1000) (hrep : 0 ≤ x.o.w.rep ∧ x.o.w.rep ≤ 1000000) :
    Calls Tryd.prog 7 #[.agg x.cells.toArray, .slice ao n cap] w fun e w' => ∃ v1 v2 ys, e = .returned (.tuple #[v1, v2]) ∧ SortedO ((liveR x l).filter fun y => y.kd == 1) ys ∧ OwnN w' w.heap.size v1 (createR x l) ∧ OwnN w' w.heap.size v2 (removeR x l ys) ∧ Below w.heap.size w w' := by
  have h0 := x.h0
  have h1 := x.h1
  have h3 := x.h3
  rw [hkd] at h0
  have HLv : Hid (∀ W : World, Below w.heap.size w W → Calls Tryd.prog 17 #[.slice ao n cap, .string x.nm] W fun e w' => ∃ v1 v2, e = .returned (.tuple #[v1, v2]) ∧ OwnOb w' W.heap.size v1 (liveR x l) ∧ OwnOb w' W.heap.size v2 (deadR x l) ∧ Below W.heap.size W w') :=
    fun W hb => live_obs x l ao n cap W (hS.flatKeeps (Keeps.below hb)) hn
  have HWa : Hid (∀ (W : World) (A : List ByteArray) (b c : Nat) (m : Int), Below w.heap.size w W → m ≤ 16 → StrMap Value.bool W Tryd.prog 9 b c (goneF A) → Calls Tryd.prog 20 #[.string x.nm, .int .i64 m, .map (some b)] W fun e w' => ∃ v, e = .returned v ∧ OwnN w' W.heap.size v (wantL x.nm A m) ∧ Below W.heap.size W w') :=
    fun W A b c m hb hm hM => wanting_any x.nm hnm m hm A b c W (hT.b hb) hM
  have hll := hS.hlen
  have hcm := hS.hmax
  have hlc := hS.hcap
  unfold maxLen at hcm
  have hnl : (liveR x l).length ≤ 1000 := by have := List.length_filter_le (fun y : ObI => isLive x.nm y.ov) l; unfold liveR; omega
  have hnd : (deadR x l).length ≤ 1000 := by have := List.length_filter_le (fun y : ObI => isDead x.nm y.ov) l; unfold deadR; omega
  obtain ⟨LV, hLV⟩ : ∃ q, liveR x l = q := ⟨_, rfl⟩
  obtain ⟨DV, hDV⟩ : ∃ q, deadR x l = q := ⟨_, rfl⟩
  obtain ⟨RF, hRF⟩ : ∃ q, sortN (DV.map ObI.nm) = q := ⟨_, rfl⟩
  obtain ⟨rep, hre⟩ : ∃ r, x.o.w.rep = r := ⟨_, rfl⟩
  obtain ⟨xn, hxn⟩ : ∃ r, x.nm = r := ⟨_, rfl⟩
  have HC : Hid (createR x l = wantL xn (takenL RF l) (min (rep - (LV.length : Int)) 16)) := by show _ = _; unfold createR remF; rw [hDV, hRF, hLV, hre, hxn]
  have HR : Hid (∀ ys, removeR x l ys = RF ++ (ys.take (min ((LV.length : Int) - rep) 16).toNat).map ObI.nm) := fun ys => by unfold removeR remF; rw [hDV, hRF, hLV, hre]
  obtain ⟨xc, hxe⟩ : ∃ c, x.cells = c := ⟨_, rfl⟩
  rw [hxe] at h0 h1 h3 ⊢
  rw [hre] at h3 hrep
  rw [hxn] at h1 HLv HWa
  rw [hLV] at HLv hnl ⊢
  rw [hDV] at HLv hnd
  have HRF := Lib.hid hRF
  have HS := Lib.hid hS
  have HA := Lib.hid hA
  have Hll := Lib.hid hll
  clear hxe hre hxn hLV hDV hRF hS hA hll hT hnm hkd
  obtain ⟨W, hW⟩ : ∃ W, w.alloc (.cells xc.toArray 44) = W := ⟨_, rfl⟩
  have HB : Hid (Below w.heap.size w W) := by rw [← hW]; exact (Below.refl _ _).alloc (Nat.le_refl _) _
  obtain ⟨N, hN⟩ : ∃ N, w.heap.size = N := ⟨_, rfl⟩
  have HX : Hid (∀ j u, xc[j]? = some u → W.cell? ⟨N, j, none⟩ = some u) := fun j u hu => by
    rw [← hW, ← hN]
    have := (cell_new w xc.toArray 44 j).trans (by simpa using hu : _ = some u)
    rwa [Addr.add_lit, Nat.zero_add] at this
  have hzW : W.heap.size = N + 1 := by rw [← hW, World.size_alloc, hN]
  have x0 : W.cell? ⟨N, 0, none⟩ = some (.int .i64 0) := HX.out 0 _ h0
  have x1 : W.cell? ⟨N, 1, none⟩ = some (.string xn) := HX.out 1 _ h1
  have HH1 := Lib.hid h1
  have HH3 := Lib.hid h3
  have HN := Lib.hid hN
  rw [hN] at HB HLv HWa ⊢
  clear h0 h1 h3
  go_enter Tryd.func7, Tryd.ntmps7
  go_wp2_with fail
  refine (HLv.out W HB.out).mono ?_
  rintro e w1 ⟨v1, v2, rfl, ho1, ho2, hb1⟩
  obtain ⟨la, lc, rfl, hSl, _⟩ := ho1.reads
  obtain ⟨da, dc, rfl, hSd, _⟩ := ho2.reads
  have HO1 := Lib.hid ho1
  have HSd := Lib.hid hSd
  have HB1 := Lib.hid (HB.out.trans (hb1.mono (by omega)))
  have hz1 : N + 1 ≤ w1.heap.size := by have := hb1.size; omega
  have HX1 : Hid (∀ j u, xc[j]? = some u → w1.cell? ⟨N, j, none⟩ = some u) := fun j u hu => Below.cell_some hb1 (HX.out j u hu)
  obtain ⟨nl, hnl'⟩ : ∃ k, LV.length = k := ⟨_, rfl⟩
  obtain ⟨nd, hnd'⟩ : ∃ k, DV.length = k := ⟨_, rfl⟩
  rw [hnl'] at hnl HC HR ⊢
  rw [hnd'] at hnd HSd ⊢
  have Hnl := Lib.hid hnl'
  have Hnd := Lib.hid hnd'
  have hd1 := HSd.out.hcap
  have hd2 := HSd.out.hmax
  unfold maxLen at hd2
  clear ho1 ho2 hb1 hSl hSd hnl' hnd' x0 x1 HX HB HLv hW
  go_wp2_with fail
  go_loopw [5, 25] (fun v5 i wr => ∃ k : Nat, k ≤ nd ∧ i = .int .i64 k ∧ Hid (OwnN wr w1.heap.size v5 ((DV.take k).map ObI.nm)) ∧ Hid (Below w1.heap.size w1 wr)) (fun _ i _ => nd - (intOf i).toNat)
  case atStart => exact ⟨0, Nat.zero_le _, rfl, OwnN.nil _ _, Below.refl _ _⟩
  case round =>
    obtain ⟨k, hk, rfl, ho, hb⟩ := hrel
    obtain ⟨wq, rfl⟩ : ∃ wq : World, wq = wr := ⟨_, rfl⟩
    by_cases hlt : k < nd
    · have hS2 := HSd.out.flatKeeps (Keeps.below hb.out)
      obtain ⟨b0, off, rfl⟩ := hS2.ptr (by decide) (by omega)
      have kx : k < DV.length := by have := Hnd.out; omega
      have hcl := hS2.flat kx
      have htk : (DV.take (k + 1)).map ObI.nm = (DV.take k).map ObI.nm ++ [DV[k].nm] := by rw [List.take_succ_eq_append_getElem kx, List.map_append]; rfl
      obtain ⟨y, hy⟩ : ∃ y, DV[k] = y := ⟨_, rfl⟩
      rw [hy] at hcl htk
      have hXl : ((DV.take k).map ObI.nm).length = k := by rw [List.length_map, List.length_take]; omega
      obtain ⟨X, hX⟩ : ∃ X, (DV.take k).map ObI.nm = X := ⟨_, rfl⟩
      rw [hX] at htk hXl ho
      have hsz := hb.out.size
      obtain ⟨Wy, hWy⟩ : ∃ W, wq.alloc (.cells y.cells.toArray 44) = W := ⟨_, rfl⟩
      obtain ⟨bo, hbo⟩ : ∃ bo, wq.heap.size = bo := ⟨_, rfl⟩
      have hbW : Below wq.heap.size wq Wy := by rw [← hWy]; exact (Below.refl _ _).alloc (Nat.le_refl _) _
      have k1 : Wy.cell? ⟨bo, 1, none⟩ = some (.string y.nm) := by rw [← hWy, ← hbo]; exact ob_new wq y _ 1 _ y.h1
      have Hbo := Lib.hid hbo
      have HbW := Lib.hid (hb.out.trans (hbW.mono hsz))
      have HoW : Hid (OwnN Wy w1.heap.size u5 X) := owns_fr (Fr.of_below hbW (fun _ => False)) ho.out (fun _ _ h => h)
      obtain ⟨yn, hyn⟩ : ∃ c, y.nm = c := ⟨_, rfl⟩
      obtain ⟨yc, hyc⟩ : ∃ c, y.cells = c := ⟨_, rfl⟩
      have hycl : yc.length = 47 := by rw [← hyc]; rfl
      have hyo : yc.all (fun u => u.oneCell') = true := by rw [← hyc]; exact y.one
      rw [hyc] at hcl hWy
      rw [hyn] at htk k1
      have Hcl := Lib.hid hcl
      have Htk := Lib.hid htk
      have HXl := Lib.hid hXl
      have hsW := HbW.out.size
      clear hcl hS2 hy hbW hyc htk hX ho hbo hyn hXl
      go_wp2_with (first
        | ((with_reducible refine at_slot 28 ?_); go_must (refine wpList_load_at aggObI rfl _ rfl ⟨b0, off + k * 47, none⟩ rfl yc hycl (fun j u hu => by rw [Addr.add_lit]; exact Hcl.out j u hu) ?_))
        | ((with_reducible refine at_slot 9 ?_); go_must (refine wpList_var aggObI rfl rfl rfl _ _ rfl rfl yc.toArray rfl rfl (by simp [hycl]) (by simpa using hyo) ?_; rw [hWy]; rw [Hbo.out]))
        | ((with_reducible refine at_slot 33 ?_); go_must (refine wpList_append_new elemName rfl _ _ rfl w1.heap.size u5 X.length (X.flatMap cN) rfl (HoW.out.alloc _) (by simp; omega) _ _ rfl (heap_alloc_new _ _) rfl rfl (by rw [HXl.out]; unfold maxLen; omega) (by rw [HXl.out]; omega) ?_; intro g' cap' w' ho' hg' hn'; have HO' := Lib.hid ho'; have HG' := Lib.hid hg'; clear ho' hg' hn')))
      have hB9 : Hid (Below w1.heap.size w1 w') := (HbW.out.alloc hsW _).grown HG'.out (by simp; omega) (fun q hq => (World.ownsRow.lt HoW.out q hq).1)
      have O9 : Hid (OwnN w' w1.heap.size (.slice (some ⟨g', 0, none⟩) (X.length + 1) cap') (X ++ [yn])) := OwnN.first HO'.out
      go_roundw
      case rel => exact ⟨k + 1, by omega, by go_num, by rw [Htk.out]; exact O9, hB9⟩
      case measure => simp [intOf]; omega
    · obtain rfl : k = nd := by omega
      have ht : DV.take k = DV := List.take_of_length_le (by have := Hnd.out; omega)
      rw [ht] at ho
      have HSo := Lib.hid (sortnames_any _ u5 _ wq ho.out (by rw [List.length_map, Hnd.out]; exact hnd))
      have HvB : Hid (∀ q, u5.ownBlock = some q → w1.heap.size ≤ q) := fun q hq => (World.ownsRow.lt ho.out q hq).1
      clear ht ho
      go_wp2_with fail
      refine HSo.out.mono ?_
      rintro e w3 ⟨rfl, ho3, hg3⟩
      rw [HRF.out] at ho3
      have HB3 : Hid (Below w1.heap.size w1 w3) := hb.out.grown hg3 hb.out.size (fun q hq => HvB.out q hq)
      obtain ⟨ra, rc, rfl, hSr⟩ := OwnN.reads ho3
      have HSr := Lib.hid hSr
      have hrl : RF.length ≤ 1000 := by have := HRF.out; have h2 := sortN_length (DV.map ObI.nm); rw [this, List.length_map, Hnd.out] at h2; omega
      obtain ⟨nr, hnr⟩ : ∃ k, RF.length = k := ⟨_, rfl⟩
      rw [hnr] at hrl HSr ⊢
      have Hnr := Lib.hid hnr
      have HOr : Hid (w3.ownsRow w1.heap.size 9 1 (.slice ra nr rc) nr (RF.flatMap cN)) := by
        unfold OwnN at ho3
        rw [hnr] at ho3
        exact ho3
      obtain ⟨M, hM⟩ : ∃ M, w3.heap.size = M := ⟨_, rfl⟩
      have hz3 : w1.heap.size ≤ M := by rw [← hM]; exact HB3.out.size
      obtain ⟨w4, hw4⟩ : ∃ w4, w3.alloc (.map #[] 0) = w4 := ⟨_, rfl⟩
      have HMp : Hid (StrMap Value.bool w4 Tryd.prog 9 M 0 (goneF (takenL RF (l.take 0)))) := by
        have h := StrMap.made Value.bool w3 Tryd.prog 9
        rw [hw4, hM, ← goneF_nil] at h
        exact h
      have HB4 : Hid (Below M w3 w4) := by rw [← hw4, ← hM]; exact (Below.refl _ _).alloc (Nat.le_refl _) _
      have hmm := @run_makeMap Tryd.prog
      have HM := Lib.hid hM
      have hz4 : w4.heap.size = M + 1 := by rw [← hw4, World.size_alloc, hM]
      clear ho3 hg3 hSr hnr hb HvB HSo
      go_wp2_with fail
      clear hM hw4
      go_loopw [40] (fun i wr => ∃ k k' : Nat, k ≤ n ∧ k' ≤ k ∧ i = .int .i64 k ∧ Hid (StrMap Value.bool wr Tryd.prog 9 M k' (goneF (takenL RF (l.take k)))) ∧ Hid (Below M w3 wr)) (fun i _ => n - (intOf i).toNat)
      case atStart => exact ⟨0, 0, Nat.zero_le _, Nat.le_refl _, rfl, HMp, HB4⟩
      case round =>
        obtain ⟨k, k', hk, hk', rfl, hMq, hb⟩ := hrel
        obtain ⟨wq, rfl⟩ : ∃ wq : World, wq = wr := ⟨_, rfl⟩
        have hb1q : Below w1.heap.size w1 wq := HB3.out.trans (hb.out.mono hz3)
        have hzq : M ≤ wq.heap.size := by have := hb.out.size; have := HM.out; omega
        by_cases hlt : k < n
        · have hS2 := HS.out.flatKeeps (Keeps.below (by rw [HN.out]; exact HB1.out.trans (hb1q.mono (by omega))))
          obtain ⟨b0, off, rfl⟩ := hS2.ptr (by decide) (by omega)
          have kx : k < l.length := by have := Hll.out; omega
          have hcl := hS2.flat kx
          have hts := takenL_succ RF l kx
          have hya := HA.out _ (List.getElem_mem kx)
          obtain ⟨y, hy⟩ : ∃ y, l[k] = y := ⟨_, rfl⟩
          rw [hy] at hcl hts hya
          have hCo : ∀ W : World, Below M w3 W → Calls Tryd.prog 19 #[.slice ra nr rc, .string y.nm] W fun e w' => e = .returned (.bool (inB RF y.nm)) ∧ Below W.heap.size W w' := fun W hW => contains_any RF ra nr rc y.nm W (HSr.out.flatKeeps (Keeps.below (by rw [HM.out]; exact hW)))
          obtain ⟨Wy, hWy⟩ : ∃ W, wq.alloc (.cells y.cells.toArray 44) = W := ⟨_, rfl⟩
          obtain ⟨bo, hbo⟩ : ∃ bo, wq.heap.size = bo := ⟨_, rfl⟩
          have hbW : Below wq.heap.size wq Wy := by rw [← hWy]; exact (Below.refl _ _).alloc (Nat.le_refl _) _
          have k0 : Wy.cell? ⟨bo, 0, none⟩ = some (.int .i64 y.kd) := by rw [← hWy, ← hbo]; exact ob_new wq y _ 0 _ y.h0
          rw [hya.1] at k0
          have k1 : Wy.cell? ⟨bo, 1, none⟩ = some (.string y.nm) := by rw [← hWy, ← hbo]; exact ob_new wq y _ 1 _ y.h1
          have Hbo := Lib.hid hbo
          have HbW : Hid (Below M w3 Wy) := hb.out.trans (hbW.mono hzq)
          have HMy : Hid (StrMap Value.bool Wy Tryd.prog 9 M k' (goneF (takenL RF (l.take k)))) := MapIs.below hMq.out hbW
          have HKy := Lib.hid (strKeyD hya.2)
          have HCo := Lib.hid hCo
          obtain ⟨yn, hyn⟩ : ∃ c, y.nm = c := ⟨_, rfl⟩
          obtain ⟨yc, hyc⟩ : ∃ c, y.cells = c := ⟨_, rfl⟩
          have hycl : yc.length = 47 := by rw [← hyc]; rfl
          have hyo : yc.all (fun u => u.oneCell') = true := by rw [← hyc]; exact y.one
          rw [hyc] at hcl hWy
          rw [hyn] at hts k1 HKy HCo
          have Hcl := Lib.hid hcl
          have Hts := Lib.hid hts
          have hzy : wq.heap.size ≤ Wy.heap.size := hbW.size
          have hbolt : bo < Wy.heap.size := by have := World.block_lt_of_cell? _ _ k1; simpa using this
          clear hcl hS2 hy hbW hyc hts hbo hyn hya hCo hMq
          obtain ⟨q, hq⟩ : ∃ q, inB RF yn = q := ⟨_, rfl⟩
          rw [hq] at HCo Hts
          have Hk1 := Lib.hid k1
          clear hq
          go_wp2_with (first
            | ((with_reducible refine at_slot 43 ?_); go_must (refine wpList_load_at aggObI rfl _ rfl ⟨b0, off + k * 47, none⟩ rfl yc hycl (fun j u hu => by rw [Addr.add_lit]; exact Hcl.out j u hu) ?_))
            | ((with_reducible refine at_slot 12 ?_); go_must (refine wpList_var aggObI rfl rfl rfl _ _ rfl rfl yc.toArray rfl rfl (by simp [hycl]) (by simpa using hyo) ?_; rw [hWy]; rw [Hbo.out])))
          refine (HCo.out Wy HbW.out).mono ?_
          rintro e w6 ⟨rfl, hb6⟩
          have HM6 : Hid (StrMap Value.bool w6 Tryd.prog 9 M k' (goneF (takenL RF (l.take k)))) := MapIs.below HMy.out hb6
          have HB6 : Hid (Below M w3 w6) := HbW.out.trans (hb6.mono (by omega))
          have k1' : w6.cell? ⟨bo, 1, none⟩ = some (.string yn) := Below.cell_some hb6 Hk1.out
          clear hb6 k0 k1
          cases q
          · have Hts2 : Hid (takenL RF (l.take (k + 1)) = takenL RF (l.take k) ++ [yn]) := Hts.out.trans (if_pos rfl)
            go_wp2_with (at_mapUpdate; go_must (refine wpList_map_store _ rfl _ _ _ 50 rfl 9 4 strKeyed Tryd.underlying50 M k' _ rfl HM6.out (by unfold maxLen; omega) _ (.bool true) _ rfl rfl HKy.out _ rfl ?_; intro w7 hM7 hT7; have HM7 := Lib.hid hM7; have HT7 := Lib.hid (Fr.turned (fun j => j = M) hT7 rfl); clear hM7 hT7))
            have HM8 : Hid (StrMap Value.bool w7 Tryd.prog 9 M (if (byStr Value.bool (goneF (takenL RF (l.take k))) (.string yn.data.toList)).isSome then k' else k' + 1) (goneF (takenL RF (l.take (k + 1))))) := by
              show MapIs _ _ _ _ _ _
              rw [Hts2.out, ← goneF_snoc, ← fset_byStr]
              exact HM7.out
            have HB8 : Hid (Below M w3 w7) := HB6.out.trans (HT7.out.below (by have := HB6.out.size; have := HM.out; omega) (fun j hj => by omega))
            go_roundw
            case rel => exact ⟨k + 1, _, by omega, by split <;> omega, by go_num, HM8, HB8⟩
            case measure => simp [intOf]; omega
          · have Hts2 : Hid (takenL RF (l.take (k + 1)) = takenL RF (l.take k)) := Hts.out.trans (if_neg (by decide))
            go_wp2_with fail
            go_roundw
            case rel => exact ⟨k + 1, k', by omega, by omega, by go_num, by rw [Hts2.out]; exact HM6, HB6⟩
            case measure => simp [intOf]; omega
        · obtain rfl : k = n := by omega
          have ht : l.take k = l := List.take_of_length_le (by have := Hll.out; omega)
          rw [ht] at hMq
          have hBw : Below N w wq := HB1.out.trans (hb1q.mono (by omega))
          have hx1 : wq.cell? ⟨N, 1, none⟩ = some (.string xn) := Below.cell_some hb1q (HX1.out 1 _ HH1.out)
          have hx3 : wq.cell? ⟨N, 3, none⟩ = some (.int .i64 rep) := Below.cell_some hb1q (HX1.out 3 _ HH3.out)
          have HWq := Lib.hid (HWa.out wq (takenL RF l) M k' (min (rep - (nl : Int)) 16) hBw (by omega) hMq.out)
          have HBq := Lib.hid hb.out
          have HB1q := Lib.hid hb1q
          obtain ⟨mn, hmn⟩ : ∃ m, min (rep - (nl : Int)) 16 = m := ⟨_, rfl⟩
          rw [hmn] at HWq HC
          clear ht hMq hBw hb hb1q HWa
          go_wp2_with fail
          refine HWq.out.mono ?_
          rintro e w5 ⟨v4, rfl, ho4, hb5⟩
          rw [← HC.out] at ho4
          have HO4 := Lib.hid ho4
          have HB5 : Hid (Below w1.heap.size w1 w5) := HB1q.out.trans (hb5.mono (by omega))
          have HB35 : Hid (Below M w3 w5) := HBq.out.trans (hb5.mono hzq)
          have HO15 : Hid (OwnOb w5 W.heap.size (.slice la LV.length lc) LV) := owns_fr (Fr.of_below HB5.out (fun _ => False)) HO1.out (fun _ _ h => h)
          have HPk := Lib.hid (pick_any LV _ _ (min ((nl : Int) - rep) 16) w5 HO15.out (by rw [Hnl.out]; exact hnl))
          have hx3' : w5.cell? ⟨N, 3, none⟩ = some (.int .i64 rep) := Below.cell_some hb5 hx3
          obtain ⟨mx, hmx⟩ : ∃ m, min ((nl : Int) - rep) 16 = m := ⟨_, rfl⟩
          rw [hmx] at HPk HR
          have hmxb : mx ≤ 16 := by omega
          rw [Hnl.out] at HPk
          clear ho4 hb5 hmn hx1 hx3 HWq HO1
          go_wp2_with fail
          refine HPk.out.mono ?_
          rintro e w6 ⟨v7, ys, rfl, hso, ho7, hb6⟩
          have hyl : ys.length ≤ nl := by
            have h1 := hso.length
            have h2 := List.length_filter_le (fun y : ObI => y.kd == 1) LV
            have h3 := Hnl.out
            omega
          have htl := List.length_take_le mx.toNat ys
          obtain ⟨T, hTe⟩ : ∃ T, (ys.take mx.toNat).map ObI.nm = T := ⟨_, rfl⟩
          have hTl : T.length ≤ 1000 := by rw [← hTe, List.length_map]; omega
          have HRm : Hid (removeR x l ys = RF ++ T) := by show _ = _; rw [HR.out, hTe]
          rw [hTe] at ho7
          obtain ⟨ta, tc, rfl, hSt⟩ := OwnN.reads ho7
          have HSt := Lib.hid hSt
          have Hso := Lib.hid hso
          have ho46 : OwnN w6 wq.heap.size v4 (createR x l) := owns_fr (Fr.of_below hb6 (fun _ => False)) HO4.out (fun _ _ h => h)
          have hor6' : w6.ownsRow w1.heap.size 9 1 (.slice ra nr rc) nr (RF.flatMap cN) := owns_fr (Fr.of_below (w := w3) (by rw [HM.out]; exact HB35.out.trans (hb6.mono (by have := HB35.out.size; have := HM.out; omega))) (fun _ => False)) HOr.out (fun _ _ h => h)
          have HO46 := Lib.hid ho46
          have HOr6 := Lib.hid hor6'
          have HB6 : Hid (Below w1.heap.size w1 w6) := HB5.out.trans (hb6.mono HB5.out.size)
          have hz6 := HB6.out.size
          have htc := HSt.out.hcap
          have htm := HSt.out.hmax
          have HDis : Hid (∀ q, (Value.slice ra nr rc).ownBlock = some q → q < wq.heap.size) := fun q hq => Nat.lt_of_lt_of_le (World.ownsRow.lt HOr.out q hq).2 (by rw [HM.out]; exact hzq)
          clear hso ho7 hSt ho46 hor6' hb6 htl hTe HPk HO15 HOr
          go_wp2_with ((with_reducible refine at_slot 80 ?_); go_must (refine wpList_append_slr elemName rfl _ _ rfl w1.heap.size (.slice ra nr rc) nr (RF.flatMap cN) rfl HOr6.out hz6 (f := cN) (fun _ => rfl) ta T.length tc T rfl HSt.out (fun y u hu => by simp only [cN, List.mem_singleton] at hu; subst hu; rfl) (by unfold maxLen; omega) (by omega) ?_; intro v8 w8 ho8 hg8; have HO8 := Lib.hid ho8; have HG8 := Lib.hid hg8; clear ho8 hg8))
          have HB8 : Hid (Below w1.heap.size w1 w8) := HB6.out.grown HG8.out hz6 (fun q hq => (World.ownsRow.lt HOr6.out q hq).1)
          refine bodyPost_ret (v := .tuple #[v4, v8]) (by simp [results, Tryd.results7, go_sem]) rfl ⟨v4, v8, ys, rfl, Hso.out, ?_, ?_, ?_⟩
          · have h := World.ownsRow.kept HO46.out HG8.out (by
              by_cases e : v4.ownBlock = none
              · exact .inl e
              · refine .inr fun h => ?_
                obtain ⟨q, hq⟩ := Option.ne_none_iff_exists'.1 e
                have h1 := (World.ownsRow.lt HO46.out q hq).1
                have h2 := HDis.out q (h ▸ hq)
                omega)
            exact World.ownsRow.mono h (by omega)
          · rw [HRm.out]
            unfold OwnN
            rw [List.length_append, Hnr.out, List.flatMap_append]
            exact World.ownsRow.mono HO8.out (by omega)
          · exact HB1.out.trans (HB8.out.mono (by omega))
end Go.Proofs.YtjncoloedakpoaaDoor
