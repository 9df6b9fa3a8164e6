/- The contract of room.Rooms. Condition: at most 1000 objects, what the pods ask for is within reach. -/
import Derived.Test.YtpbppgfogepjeaaLoudMapM
import Derived.Test.YtpbppgfogepjeaaStorePartM
namespace Go.Proofs.Ytpbppgfogepjeaa
open Go.ChangeShapes Go.WideShapes Go.ChangeAt Go.RowKit Go.Deep Go.Maps Go.Shelf

attribute [local go_sem] Oper.semAt_some

set_option maxRecDepth 100000 in
set_option maxHeartbeats 4000000 in
theorem rooms_in (l ps : List ObI) (ao : Option Addr) (n cap : Nat) (bo : Option Addr) (m capb : Nat) (w : World) (hS : SlR (Flat ObI.cells) 47 w ao n cap l) (hP : SlR (Flat ObI.cells) 47 w bo m capb ps) (hn : n ≤ 1000) (hm : m ≤ 1000)
    (hsl : ∀ x ∈ l, x.nm.size ≤ maxLen) (hsp : ∀ p ∈ ps, p.o.p.node.size ≤ maxLen ∧ (onRoom p = true → In60 p.o.p.cpu ∧ In60 p.o.p.mem)) :
    CallsIn Fence.wide 6 Try.prog 14 #[.slice ao n cap, .slice bo m capb] w fun e w' => ∃ ao' k cap' ys, e = .returned (.slice ao' k cap') ∧ SortedR (rooms0 l) ys ∧ SlR (Flat RoomI.cells) 11 w' ao' k cap' (ps.foldl (addPod (placeOf ys)) ys) ∧ Below w.heap.size w w' := by
  have hro : Fence.wide.round = none := rfl
  have h1 : 1 ≤ 6 := by decide
  have hmix : Try.prog.follows .mixedOrders = true := by kernel_rfl
  have hcm := hS.hmax
  have hlc := hS.hcap
  have hcm2 := hP.hmax
  have hlc2 := hP.hcap
  unfold maxLen at hcm hcm2
  have HS := Lib.hid hS
  have HP := Lib.hid hP
  have HSl := Lib.hid hsl
  have HSp := Lib.hid hsp
  clear hS hP hsl hsp
  refine callsIn_of_wp_marks Try.func14 rfl trivial ?_ hro
  simp only [Try.ntmps14, List.size_toArray, List.length_cons, List.length_nil, Nat.reduceAdd, Nat.reduceSub, Array.replicate_succ, Array.replicate_zero, List.push_toArray, List.append_toArray, List.nil_append, List.cons_append]
  refine wpIn_wide.2 ?_
  obtain ⟨W0, hW0⟩ : ∃ W0, w.alloc (.cells #[.slice none 0 0] 58) = W0 := ⟨_, rfl⟩
  obtain ⟨N, hN⟩ : ∃ N, w.heap.size = N := ⟨_, rfl⟩
  have hb0 : Below w.heap.size w W0 := by rw [← hW0]; exact (Below.refl _ _).alloc (Nat.le_refl _) _
  have hr0 : W0.heap[N]? = some (.cells #[.slice none 0 0] 58 (0, 0)) := by rw [← hW0, ← hN]; exact heap_alloc_new _ _
  have HB0 := Lib.hid hb0
  have HR0 := Lib.hid hr0
  clear hb0 hr0
  go_wp2_with fail
  go_loopw [16] (fun i wr => ∃ (k : Nat) (v : Value), k ≤ n ∧ i = .int .i64 k ∧ wr.heap[N]? = some (.cells #[v] 58 (0, 0)) ∧ Hid (OwnRm wr (N + 1) v (rooms0 (l.take k))) ∧ Hid (Below w.heap.size w wr) ∧ N + 1 ≤ wr.heap.size) (fun i _ => n - (intOf i).toNat)
  case atStart => exact ⟨0, _, Nat.zero_le _, rfl, HR0.out, OwnRm.nil _ _, HB0.out, by rw [← hW0, ← hN]; simp⟩
  case round =>
    obtain ⟨k, v, hk, rfl, hrv, ho, hb, hsz⟩ := hrel
    obtain ⟨wq, rfl⟩ : ∃ wq : World, wq = wr := ⟨_, rfl⟩
    by_cases hlt : k < n
    · have hS2 := HS.out.flatKeeps (Keeps.below hb.out)
      obtain ⟨b0, off, rfl⟩ := hS2.ptr (by decide) (by omega)
      have kx : k < l.length := by have := hS2.hlen; omega
      have hcl := hS2.flat kx
      have f1 := rooms0_succ l k kx
      have g1 := rooms0_len (l.take k)
      have hlk : (l.take k).length ≤ 1000 := by simp; omega
      obtain ⟨x, hx⟩ : ∃ x, l[k] = x := ⟨_, rfl⟩
      rw [hx] at hcl f1
      obtain ⟨X, hX⟩ : ∃ X, rooms0 (l.take k) = X := ⟨_, rfl⟩
      rw [hX] at f1 g1 ho
      have F1 := Lib.hid f1
      have Hcl := Lib.hid hcl
      have G1 : Hid (X.length ≤ 1000) := Nat.le_trans g1 hlk
      obtain ⟨W, hW⟩ : ∃ W, wq.alloc (.cells x.cells.toArray 44) = W := ⟨_, rfl⟩
      obtain ⟨bv, hbv⟩ : ∃ bv, wq.heap.size = bv := ⟨_, rfl⟩
      have hbn : Below w.heap.size w W := by rw [← hW]; exact hb.out.alloc hb.out.size _
      have hWs : W.heap.size = bv + 1 := by rw [← hW, ← hbv]; simp
      have hnc : ∀ j u, x.cells[j]? = some u → W.cell? ⟨bv, j, none⟩ = some u := by rw [← hW, ← hbv]; exact ob_new wq x _
      have hrW : W.heap[N]? = some (.cells #[v] 58 (0, 0)) := by rw [← hW]; exact (Below.heap_alloc _ _ _ (by omega)).trans hrv
      have hoW : OwnRm W (N + 1) v X := by rw [← hW]; exact ho.out.alloc _
      have k0 := hnc 0 _ x.h0
      have HNc := Lib.hid hnc
      have HB := Lib.hid hbn
      have HO := Lib.hid hoW
      have HRv := Lib.hid hrW
      have hNb : N + 1 ≤ bv := by omega
      clear hcl hS2 hx hX f1 g1 hlk hnc hbn hoW hrW hrv ho
      cases hkd : (x.kd == 2)
      · have hF1 : Hid (rooms0 (l.take (k + 1)) = X) := by
          show _ = _
          have := F1.out
          rw [hkd] at this
          simpa using this
        clear F1
        go_wp2_with (first
          | ((with_reducible refine at_slot 19 ?_); go_must (refine wpList_load_at aggObj rfl _ rfl ⟨b0, off + k * 47, none⟩ rfl x.cells x.hlen (fun j u hu => by rw [Addr.add_lit]; exact Hcl.out j u hu) ?_))
          | ((with_reducible refine at_slot 7 ?_); go_must (refine wpList_var aggObj rfl rfl rfl _ _ rfl rfl x.cells.toArray rfl rfl (by simp [ObI.hlen]) (by simpa using x.one) ?_; rw [hW, hbv])))
        go_roundw
        case rel => exact ⟨k + 1, v, by omega, by go_num, HRv.out, by rw [hF1.out]; exact HO.out, HB.out, by omega⟩
        case measure => simp [intOf]; omega
      · have hF1 : Hid (rooms0 (l.take (k + 1)) = X ++ [⟨x.nm, x.o.n, 0, 0, 0⟩]) := by
          show _ = _
          have := F1.out
          rw [hkd] at this
          simpa using this
        have k1 := HNc.out 1 _ x.h1
        have cN : ∀ j u, [Value.string x.o.n.group, .int .i64 x.o.n.cpu, .int .i64 x.o.n.mem, .slice x.o.n.L.ao x.o.n.L.la x.o.n.L.ca, .slice x.o.n.T.ao x.o.n.T.la x.o.n.T.ca, .int .i64 x.o.n.since, .bool x.o.n.closed][j]? = some u → W.cell? ((⟨bv, 20, none⟩ : Addr).add j) = some u := fun j u hu => by
          rw [Addr.add_lit]
          refine HNc.out (20 + j) u ?_
          rw [← hu]
          rcases j with _ | _ | _ | _ | _ | _ | _ | j
          all_goals first | rfl | (exfalso; simp at hu)
        have cv := cell_of_row W N 0 _ _ _ HRv.out
        simp at cv
        clear F1
        go_wp2_with (first
          | ((with_reducible refine at_slot 19 ?_); go_must (refine wpList_load_at aggObj rfl _ rfl ⟨b0, off + k * 47, none⟩ rfl x.cells x.hlen (fun j u hu => by rw [Addr.add_lit]; exact Hcl.out j u hu) ?_))
          | ((with_reducible refine at_slot 7 ?_); go_must (refine wpList_var aggObj rfl rfl rfl _ _ rfl rfl x.cells.toArray rfl rfl (by simp [ObI.hlen]) (by simpa using x.one) ?_; rw [hW, hbv]))
          | ((with_reducible refine at_slot 27 ?_); go_must (refine wpList_load_at aggNode rfl _ rfl ⟨bv, 20, none⟩ rfl _ rfl cN ?_))
          | ((with_reducible refine at_slot 30 ?_); go_must (refine wpList_append_new elemRoom rfl _ _ rfl (N + 1) v X.length (X.flatMap RoomI.cells) rfl (HO.out.alloc _) (by simp; omega) (bv + 1) #[.string x.nm, .string x.o.n.group, .int .i64 x.o.n.cpu, .int .i64 x.o.n.mem, .slice x.o.n.L.ao x.o.n.L.la x.o.n.L.ca, .slice x.o.n.T.ao x.o.n.T.la x.o.n.T.ca, .int .i64 x.o.n.since, .bool x.o.n.closed, .int .i64 0, .int .i64 0, .int .i64 0] rfl (by rw [← hWs]; exact heap_alloc_new _ _) rfl rfl (by have := G1.out; unfold maxLen; omega) (by have := G1.out; omega) ?_; intro g' cap' w' ho' hg' hn'; have hrw' : w'.heap[N]? = some (.cells #[v] 58 (0, 0)) := (hg'.block N (by simp; omega) (fun e => by have := (World.ownsRow.lt HO.out N e.symm).1; omega)).trans ((Below.heap_alloc _ _ _ (by omega)).trans HRv.out); have cv' := cell_of_row w' N 0 _ _ _ hrw'; have fv' := row_free hrw' 0; simp at cv'; have HO' := Lib.hid ho'; have HG' := Lib.hid hg'; have HR' := Lib.hid hrw'; have HN' := Lib.hid hn'; clear ho' hg' hrw' hn')))
        have hb' : Hid (Below w.heap.size w w') := (HB.out.alloc HB.out.size _).grown HG'.out (by simp; omega) (fun k hk => by have := (World.ownsRow.lt HO.out k hk).1; omega)
        have hfr : Fr (fun k => k = N) w' (w'.setCell ⟨N, 0, none⟩ (.slice (some ⟨g', 0, none⟩) (X.length + 1) cap')) := (Fr.refl (fun k => k = N) w').setc (S := fun k => k = N) rfl _
        have hgN : N + 1 ≤ g' := (World.ownsRow.lt HO'.out g' rfl).1
        have HOn : Hid (OwnRm (w'.setCell ⟨N, 0, none⟩ (.slice (some ⟨g', 0, none⟩) (X.length + 1) cap')) (N + 1) (.slice (some ⟨g', 0, none⟩) (X.length + 1) cap') (rooms0 (l.take (k + 1)))) := by
          rw [hF1.out]
          exact ownRm_next (owns_fr hfr HO'.out (fun k hk e => by have := (World.ownsRow.lt HO'.out k hk).1; omega))
        have HRn : Hid ((w'.setCell ⟨N, 0, none⟩ (.slice (some ⟨g', 0, none⟩) (X.length + 1) cap')).heap[N]? = some (.cells #[.slice (some ⟨g', 0, none⟩) (X.length + 1) cap'] 58 (0, 0))) := row_setCell HR'.out _
        have HBn : Hid (Below w.heap.size w (w'.setCell ⟨N, 0, none⟩ (.slice (some ⟨g', 0, none⟩) (X.length + 1) cap'))) := hb'.out.setCell (p := ⟨N, 0, none⟩) (by simp; omega) _
        have hzn : N + 1 ≤ w'.heap.size := by have := HB.out.size; have := HG'.out.size; simp at this; omega
        clear hfr cv' fv' HB HO
        go_wp2_with fail
        go_roundw
        case rel => exact ⟨k + 1, _, by omega, by go_num, HRn.out, HOn.out, HBn.out, by simpa using hzn⟩
        case measure => simp [intOf]; omega
    · obtain rfl : k = n := by omega
      have ht : l.take k = l := List.take_of_length_le (by have := HS.out.hlen; omega)
      have hXl := rooms0_len l
      rw [HS.out.hlen] at hXl
      rw [ht] at ho
      obtain ⟨X, hX⟩ : ∃ X, rooms0 l = X := ⟨_, rfl⟩
      rw [hX] at ho hXl
      have HX := Lib.hid hX
      have HXl := Lib.hid hXl
      have HSo := Lib.hid (sortRooms_any X v (N + 1) wq ho.out (by omega))
      have cv := cell_of_row wq N 0 _ _ _ hrv
      simp at cv
      have HRv := Lib.hid hrv
      have hvN : Hid (∀ g, v.ownBlock = some g → N + 1 ≤ g ∧ g < wq.heap.size) := fun g hg => World.ownsRow.lt ho.out g hg
      have Hb := hb
      clear ho hX hrv hXl ht
      go_wp2_with fail
      refine HSo.out.mono ?_
      rintro e w2 ⟨rfl, ys, hys, hyl, hO2, hf2⟩
      have HYs : Hid (SortedR (rooms0 l) ys) := by show SortedR _ _; rw [HX.out]; exact hys
      have HYl : Hid (ys.length ≤ 1000) := by show _ ≤ _; have := HXl.out; omega
      have hr2 : w2.heap[N]? = some (.cells #[v] 58 (0, 0)) := (hf2.block N (by omega) (fun e => by have := (hvN.out N e).1; omega)).trans HRv.out
      have HR2 := Lib.hid hr2
      have HO2 := Lib.hid hO2
      have HB2 : Hid (Below w.heap.size w w2) := Hb.out.trans (hf2.below Hb.out.size (fun k hk => by have := (hvN.out k hk).1; omega))
      have hv2 : Hid (∀ g, v.ownBlock = some g → N + 1 ≤ g ∧ g < w2.heap.size) := fun g hg => World.ownsRow.lt hO2 g hg
      have hsz2 : N + 1 ≤ w2.heap.size := by have := hf2.size; omega
      have cv2 := cell_of_row w2 N 0 _ _ _ hr2
      simp at cv2
      have hmm := @run_makeMap Try.prog
      obtain ⟨M, hM⟩ : ∃ M, w2.heap.size = M := ⟨_, rfl⟩
      obtain ⟨w3, hw3⟩ : ∃ w3, (w2.alloc (.map #[] 0)).alloc (.cells #[.map (some M)] 97) = w3 := ⟨_, rfl⟩
      obtain ⟨w4, hw4⟩ : ∃ w4, w3.alloc (.cells #[v] 58) = w4 := ⟨_, rfl⟩
      have hb3 : Below w2.heap.size w2 w3 := by rw [← hw3]; exact ((Below.refl _ _).alloc (Nat.le_refl _) _).alloc (by simp) _
      have hb34 : Below w3.heap.size w3 w4 := by rw [← hw4]; exact (Below.refl _ _).alloc (Nat.le_refl _) _
      have hz3 : w3.heap.size = M + 2 := by rw [← hw3, ← hM]; simp
      have hz4 : w4.heap.size = M + 3 := by rw [← hw4]; simp [hz3]
      have hm3 : MapIs w3 Try.prog 9 M 0 (byStr (fun i : Nat => .int .i64 i) (mapOf [])) := by
        have := (StrMap.made (fun i : Nat => Value.int .i64 i) w2 Try.prog 9).below (((Below.refl _ _).alloc (Nat.le_refl _) (.cells #[.map (some M)] 97)))
        rw [hM, hw3] at this
        exact this
      have ha3 : w3.heap[M + 1]? = some (.cells #[.map (some M)] 97 (0, 0)) := by
        rw [← hw3, ← hM]
        have := heap_alloc_new (w2.alloc (.map #[] 0)) (.cells #[.map (some w2.heap.size)] 97)
        rwa [World.size_alloc] at this
      have hr4 : w4.heap[N]? = some (.cells #[v] 58 (0, 0)) := (hb34.block N (by omega)).trans ((hb3.block N (by omega)).trans HR2.out)
      have ha4 : w4.heap[M + 1]? = some (.cells #[.map (some M)] 97 (0, 0)) := (hb34.block _ (by omega)).trans ha3
      have hx4 : w4.heap[M + 2]? = some (.cells #[v] 58 (0, 0)) := by rw [← hw4, ← hz3]; exact heap_alloc_new _ _
      have HM4 : Hid (MapIs w4 Try.prog 9 M 0 (byStr (fun i : Nat => .int .i64 i) (mapOf []))) := hm3.below hb34
      have HO4 : Hid (OwnRm w4 (N + 1) v ys) := owns_fr (Fr.of_below hb34 (fun _ => False)) (owns_fr (Fr.of_below hb3 (fun _ => False)) HO2.out (fun _ _ h => h)) (fun _ _ h => h)
      have HB4 : Hid (Below N w w4) := by show Below _ _ _; have := (HB2.out.trans (hb3.mono (by have := HB2.out.size; omega))).trans (hb34.mono (by omega)); rwa [hN] at this
      have cv3 := cell_of_row w3 N 0 _ _ _ ((hb3.block N (by omega)).trans HR2.out)
      simp at cv3
      have HR4 := Lib.hid hr4
      have HA4 := Lib.hid ha4
      have HX4 := Lib.hid hx4
      have hbk : ∀ w : World, w = w3 → Calls Try.prog 44 #[v] w fun e w' => e = .returned (.func (.func 87) #[] #[.pointer (some ⟨M + 2, 0, none⟩)]) ∧ w' = w4 := by
        rintro w rfl
        obtain ⟨ao', k', c', rfl⟩ := HO2.out.shape
        refine (backward_any ao' k' c' w).mono ?_
        rintro e w' ⟨rfl, rfl⟩
        exact ⟨by rw [hz3], hw4⟩
      have Hbk := Lib.hid hbk
      clear hys hyl hO2 hf2 hr2 HSo HRv hvN HX HXl cv Hb hb3 hb34 hm3 ha3 hr4 ha4 hx4 HB2 HO2 HR2 hbk
      go_wp2_with fail
      refine (Hbk.out _ rfl).mono ?_
      rintro e w5 ⟨rfl, rfl⟩
      clear Hbk hw3 hw4
      go_wp2_with fail
      have hSt := backward_own (6 - 1) (by decide) (M + 2) (N + 1) v ys (by have := HYl.out; omega) (fun k => M + 3 ≤ k ∨ k = M) (by omega) (fun g hg => by have := (hv2.out g hg).2; omega) w5 HX4.out HO4.out
      refine (wpIn_wide (n := 6)).1 ?_
      refine wpIn_rangeFunc_ownG hro h1 (gf := 87) (lb := #[.pointer (some ⟨M + 2, 0, none⟩)]) rfl trivial (enters_of Try.func87 (by kernel_rfl) rfl)
        hSt (fun h k => h.trans k (fun _ hh => .inl hh)) (frame_put (N := M + 3) (fun k hk => .inl hk) (by omega)) (Below.refl _ _) (fun _ => rfl)
        (fun pre W => ((∃ c, c ≤ pre.length ∧ MapIs W Try.prog 9 M c (byStr (fun i : Nat => .int .i64 i) (mapOf (pre.map (·.1))))) ∧ RowAtF W (M + 1) #[.map (some M)] 97 ∧ RowAtF W N #[v] 58 ∧ OwnRm W (N + 1) v ys ∧ M + 3 ≤ W.heap.size) ∧ Below N w W)
        (fun _ _ _ => False)
        (OwnFrom.and (OwnFrom.and (map_own (β := List (PRoom ys)) w5.heap.size M (by omega) (fun pre c => c ≤ pre.length) (fun pre => byStr (fun i : Nat => .int .i64 i) (mapOf (pre.map (·.1))))) (OwnFrom.and (RowAtF.own _ _ (fun _ => #[.map (some M)]) _) (OwnFrom.and (RowAtF.own _ _ (fun _ => #[v]) _) (OwnFrom.and (row_own _ _ _ _ _ _ _) (size_own _ _))))) (ownFrom_below (by omega) (by omega)))
        (fun _ _ _ _ _ hs _ _ => hs)
        ⟨⟨⟨0, Nat.le_refl _, HM4.out⟩, HA4.out, HR4.out, HO4.out, by omega⟩, HB4.out⟩
        (fun x => { tmps := #[.slice ao k cap, .slice bo m capb, undef, undef, .slice none 0 0, .pointer (some ⟨N, 0, none⟩), undef, u7, .pointer (some ⟨M + 1, 0, none⟩), .int .i64 (x.1.1 : Int), undef, undef, undef, undef, .slice ao k cap, .int .i64 (k : Int), .int .i64 (k : Int), .bool false, u18, u19, u20, u21, u22, u23, u24, u25, u26, u27, u28, u29, u30, u31, v, .tuple #[], .map (some M), v, .func (.func 87) #[] #[.pointer (some ⟨M + 2, 0, none⟩)], .int .i64 (x.1.1 : Int), .agg x.1.2.cells.toArray, undef, undef, undef, undef, undef, undef, undef, undef, undef, undef, undef, undef, undef, undef, undef, undef, undef, undef, undef, undef, undef, undef, undef, undef, undef, undef, undef, undef, undef, undef, undef, undef, undef, undef, undef, undef, undef, undef, undef, undef, undef, undef, undef, undef, undef, undef, undef, undef, undef, undef, undef, undef, undef, undef, undef, undef, undef, undef, undef, undef, undef, undef], defers := [] })
        ?assign ?body ?done ?stop
      case assign =>
        rintro l x W K hK
        dsimp only [encIR]
        gi_wp2
        exact hK
      case body =>
        rintro l pre x W ⟨⟨⟨c, hc, hMc⟩, ha, hr, hO, hs⟩, hB⟩ hlt
        obtain ⟨⟨i, x⟩, hix⟩ := x
        have hi : i < ys.length := (List.getElem?_eq_some_iff.1 hix).1
        obtain ⟨g, cap1, rfl, _, hcap, _, hcells⟩ := owns_shape hO (by omega)
        have hin : (i : Int) < (ys.length : Int) := by omega
        have hwr : IntKind.i64.wrap (i : Int) = (i : Int) := IntWalk.i64_in _ (by have := HYl.out; omega)
        have a0 := cell_of_row W (M + 1) 0 _ _ _ ha
        have r0 := cell_of_row W N 0 _ _ _ hr
        simp at a0 r0
        have hix' : ys[i] = x := by
          have := List.getElem?_eq_some_iff.1 hix
          exact this.2
        have n0 : W.cell? ⟨g, i * 11, none⟩ = some (.string x.name) := hcells _ _ (by
          have := flatMap_get (f := RoomI.cells) (sz := 11) (fun _ => rfl) ys i 0 hi (by omega)
          rw [Nat.add_zero] at this
          rw [this, hix']; rfl)
        have hxs : x.name.size ≤ maxLen := by
          obtain ⟨y, hy, h1, _⟩ := rooms0_name (HYs.out.mem (hix' ▸ List.getElem_mem hi : x ∈ ys))
          rw [h1]
          exact HSl.out y hy
        have hgM : g < M := by have := (hv2.out g rfl).2; omega
        have HI := Lib.hid (And.intro hc (And.intro hMc (And.intro ha (And.intro hr (And.intro hO (And.intro hs hB))))))
        clear hcells hcap hix' hSt HO4 HR4 HX4 HA4 HM4 HB4 cv2 cv3 hc hMc ha hr hO hB
        refine wpIn_block ?_
        refine regionIn_later hmix (by kernel_rfl) (fun ⟨_, _, h⟩ => h) ?_
        refine later_phase (fun w' => w' = { W with drawn := W.drawn + 1 }) [7] 7 0 8 30 (by kernel_rfl) (by kernel_rfl) rfl ?_
        repeat (first | (refine wpVal_skipR rfl ?_) | (refine wpVal_takeR rfl ?_; first | (refine wpVal_oneK rfl (fun K hK => ?_); refine ⟨_, fun w => by go_simp; rfl, ?_⟩; go_simp; refine hK _ ?_; clear hK K) | (refine wpVal_mem rfl rfl (fun K hK => ?_); refine ⟨_, by rintro _ rfl; go_simp; rfl, ?_⟩; go_simp; refine hK _ ?_; clear hK K)))
        refine wpVal_endR ?_
        obtain ⟨hc, hMc, ha, hr, hO, hs, hB⟩ := HI.out
        refine wpLoud_map_store rfl rfl (.tmp 39) (.tmp 44) (.tmp 45) 97 rfl 9 3 strKeyed Try.underlying97 M c _ (by as_aux_lemma => kernel_rfl) (hMc.same rfl) (by have := HYl.out; unfold maxLen; omega) (.string x.name) (.int .i64 (i : Int)) (.string x.name.data.toList) (by as_aux_lemma => kernel_rfl) (by as_aux_lemma => kernel_rfl) (strKeyD hxs) ?_
        intro w' hm' ht'
        refine ⟨fun h => absurd h (by decide), ?_⟩
        refine wpLoud_nil ?_
        refine later_end 8 rfl ?_
        have hF : Fr (fun k => M + 3 ≤ k ∨ k = M) W w' := ((Fr.refl _ W).drew).trans (Fr.turned _ ht' (.inr rfl)) (fun _ h => .inl h)
        rw [fset_byStr (fun i : Nat => Value.int .i64 (i : Int))] at hm'
        have hex : ∃ c', c' ≤ (pre ++ [(⟨(i, x), hix⟩ : PRoom ys)]).length ∧ MapIs w' Try.prog 9 M c' (byStr (fun i : Nat => .int .i64 i) (mapOf ((pre ++ [(⟨(i, x), hix⟩ : PRoom ys)]).map (·.1)))) := by
          refine ⟨_, ?_, by
            rw [List.map_append, List.map_cons, List.map_nil, mapOf_snoc]
            have : x.name.toList = x.name.data.toList := Lib.toList_data _
            rw [this]
            exact hm'⟩
          rw [List.length_append, List.length_singleton]
          split <;> omega
        refine ⟨((KeepsOthers.drew W).from _).trans (KeepsFrom.of_grownBy ht'.grown (fun j e => by cases e; omega)), hF, ⟨hex, (hF.block _ ha.lt (by omega)).trans ha, (hF.block _ hr.lt (by omega)).trans hr, owns_fr hF hO (fun k hk hs => by have hk : g = k := Option.some.inj hk; omega), Nat.le_trans hs hF.size⟩, hB.trans (hF.below (by omega) (fun k hk => by omega))⟩
      case done =>
        rintro D zs W hD hzs ⟨⟨⟨c, hc, hMc⟩, ha, hr, hO, hs⟩, hB⟩ hK
        rw [hzs, mapOf_places] at hMc
        have hcp : c ≤ 1000 := by
          have : zs.length = ys.length := by rw [← backL_len ys, ← hzs, List.length_map]
          have := HYl.out
          omega
        have hDM : M ≤ D := by omega
        have HS0 : Hid (RmSt w W N M D c v ys ys) := ⟨ha, hr, hO, hMc, hK, hB, hs, (Array.getElem?_eq_some_iff.1 hK).1, rfl⟩
        have hRI : Hid (RoomsIn ys 0) := fun r hr => by
          obtain ⟨y, _, _, _, _, h1, h2, h3⟩ := rooms0_name (HYs.out.mem hr)
          rw [h1, h2, h3]
          unfold In60
          omega
        clear hMc ha hr hO hs hB hK hzs hc hSt HO4 HR4 HX4 HA4 HM4 HB4 cv2 cv3 hz4
        go_wp2_with fail
        go_loopw [48] (fun i wr => ∃ (k2 : Nat) (Z : List RoomI), k2 ≤ m ∧ i = .int .i64 k2 ∧ Hid (Z = (ps.take k2).foldl (addPod (placeOf ys)) ys) ∧ Hid (RmSt w wr N M D c v ys Z) ∧ Hid (RoomsIn Z k2)) (fun i _ => m - (intOf i).toNat)
        case atStart => exact ⟨0, ys, Nat.zero_le _, rfl, rfl, HS0.out, hRI.out⟩
        case round =>
          obtain ⟨k2, Z, hk2, rfl, hZ, hSt, hRZ⟩ := hrel
          obtain ⟨wz, rfl⟩ : ∃ wz : World, wz = wr := ⟨_, rfl⟩
          by_cases hlt2 : k2 < m
          · have hNw : N ≤ wz.heap.size := by have := hSt.out.hs; omega
            have hP2 : SlR (Flat ObI.cells) 47 wz bo m capb ps := HP.out.flatKeeps (Keeps.below (by rw [hN]; exact hSt.out.hB))
            obtain ⟨pb, poff, rfl⟩ := hP2.ptr (by decide) (by omega)
            have kx : k2 < ps.length := by have := hP2.hlen; omega
            have hcl := hP2.flat kx
            have hpm : ps[k2] ∈ ps := List.getElem_mem kx
            have hsc := addPods_succ (placeOf ys) ps ys k2 kx
            rw [← hZ.out] at hsc
            obtain ⟨p, hp⟩ : ∃ p, ps[k2] = p := ⟨_, rfl⟩
            rw [hp] at hcl hpm hsc
            have hspp := HSp.out p hpm
            obtain ⟨W5, hW5⟩ : ∃ W5, wz.alloc (.cells p.cells.toArray 44) = W5 := ⟨_, rfl⟩
            obtain ⟨bp, hbp⟩ : ∃ bp, wz.heap.size = bp := ⟨_, rfl⟩
            have hbn : Below wz.heap.size wz W5 := by rw [← hW5]; exact (Below.refl _ _).alloc (Nat.le_refl _) _
            have hSt5 := hSt.out.b hNw hbn
            have hnc : ∀ j u, p.cells[j]? = some u → W5.cell? ⟨bp, j, none⟩ = some u := by rw [← hW5, ← hbp]; exact ob_new wz p _
            have hbpM : M + 3 ≤ bp := by have := hSt.out.hs; omega
            have cM := cell_of_row W5 (M + 1) 0 _ _ _ hSt5.ha
            simp at cM
            have k0 := hnc 0 _ p.h0
            have k11 := hnc 11 _ p.h11
            have k12 := hnc 12 _ p.h12
            have Hcl := Lib.hid hcl
            have HNc := Lib.hid hnc
            have HS5 := Lib.hid hSt5
            have Hsc := Lib.hid hsc
            have Hsp := Lib.hid hspp
            obtain ⟨pl, hpl⟩ : ∃ q, placeOf ys p.o.p.node.data.toList = q := ⟨_, rfl⟩
            have Hpl := Lib.hid hpl
            clear hP2 hcl hpm hp hspp hnc hsc hbn hSt5 hpl
            cases hk1 : (p.kd == 1)
            · have HSk : Hid (Z = (ps.take (k2 + 1)).foldl (addPod (placeOf ys)) ys) := by
                rw [Hsc.out, addPod_off (by unfold onRoom; rw [hk1]; rfl)]
                exact rfl
              cases pl with
              | none =>
                go_wp2_with (first
                  | ((with_reducible refine at_slot 51 ?_); go_must (refine wpList_load_at aggObj rfl _ rfl ⟨pb, poff + k2 * 47, none⟩ rfl p.cells p.hlen (fun j u hu => by rw [Addr.add_lit]; exact Hcl.out j u hu) ?_))
                  | ((with_reducible refine at_slot 11 ?_); go_must (refine wpList_var aggObj rfl rfl rfl _ _ rfl rfl p.cells.toArray rfl rfl (by simp [ObI.hlen]) (by simpa using p.one) ?_; rw [hW5, hbp]))
                  | (at_lookup; go_must (refine wpList_look_ok _ rfl _ _ 97 rfl 9 3 strKeyed Try.underlying97 (zeroInt _) M c _ rfl HS5.out.hM _ _ rfl (strKeyD Hsp.out.1) (.int .i64 0) false (by show ((placeOf ys p.o.p.node.data.toList).map _).getD _ = _; rw [Hpl.out]; rfl) (by show ((placeOf ys p.o.p.node.data.toList).map _).isSome = _; rw [Hpl.out]; rfl) ?_)))
                go_roundw
                case rel => exact ⟨k2 + 1, Z, by omega, by go_num, HSk.out, HS5.out, hRZ.out.mono (Nat.le_succ _)⟩
                case measure => simp [intOf]; omega
              | some i0 =>
                go_wp2_with (first
                  | ((with_reducible refine at_slot 51 ?_); go_must (refine wpList_load_at aggObj rfl _ rfl ⟨pb, poff + k2 * 47, none⟩ rfl p.cells p.hlen (fun j u hu => by rw [Addr.add_lit]; exact Hcl.out j u hu) ?_))
                  | ((with_reducible refine at_slot 11 ?_); go_must (refine wpList_var aggObj rfl rfl rfl _ _ rfl rfl p.cells.toArray rfl rfl (by simp [ObI.hlen]) (by simpa using p.one) ?_; rw [hW5, hbp]))
                  | (at_lookup; go_must (refine wpList_look_ok _ rfl _ _ 97 rfl 9 3 strKeyed Try.underlying97 (zeroInt _) M c _ rfl HS5.out.hM _ _ rfl (strKeyD Hsp.out.1) (.int .i64 (i0 : Int)) true (by show ((placeOf ys p.o.p.node.data.toList).map _).getD _ = _; rw [Hpl.out]; rfl) (by show ((placeOf ys p.o.p.node.data.toList).map _).isSome = _; rw [Hpl.out]; rfl) ?_)))
                go_roundw
                case rel => exact ⟨k2 + 1, Z, by omega, by go_num, HSk.out, HS5.out, hRZ.out.mono (Nat.le_succ _)⟩
                case measure => simp [intOf]; omega
            · cases pl with
              | none =>
                have HSk : Hid (Z = (ps.take (k2 + 1)).foldl (addPod (placeOf ys)) ys) := by
                  rw [Hsc.out, addPod_none Hpl.out]
                  exact rfl
                go_wp2_with (first
                  | ((with_reducible refine at_slot 51 ?_); go_must (refine wpList_load_at aggObj rfl _ rfl ⟨pb, poff + k2 * 47, none⟩ rfl p.cells p.hlen (fun j u hu => by rw [Addr.add_lit]; exact Hcl.out j u hu) ?_))
                  | ((with_reducible refine at_slot 11 ?_); go_must (refine wpList_var aggObj rfl rfl rfl _ _ rfl rfl p.cells.toArray rfl rfl (by simp [ObI.hlen]) (by simpa using p.one) ?_; rw [hW5, hbp]))
                  | (at_lookup; go_must (refine wpList_look_ok _ rfl _ _ 97 rfl 9 3 strKeyed Try.underlying97 (zeroInt _) M c _ rfl HS5.out.hM _ _ rfl (strKeyD Hsp.out.1) (.int .i64 0) false (by show ((placeOf ys p.o.p.node.data.toList).map _).getD _ = _; rw [Hpl.out]; rfl) (by show ((placeOf ys p.o.p.node.data.toList).map _).isSome = _; rw [Hpl.out]; rfl) ?_)))
                go_roundw
                case rel => exact ⟨k2 + 1, Z, by omega, by go_num, HSk.out, HS5.out, hRZ.out.mono (Nat.le_succ _)⟩
                case measure => simp [intOf]; omega
              | some i0 =>
                cases hp1 : (p.o.p.phase == 1)
                · cases hp2 : (p.o.p.phase == 2)
                  · have HSk : Hid (Z = (ps.take (k2 + 1)).foldl (addPod (placeOf ys)) ys) := by
                      rw [Hsc.out, addPod_off (by unfold onRoom; rw [hk1, hp1, hp2]; rfl)]
                      exact rfl
                    go_wp2_with (first
                      | ((with_reducible refine at_slot 51 ?_); go_must (refine wpList_load_at aggObj rfl _ rfl ⟨pb, poff + k2 * 47, none⟩ rfl p.cells p.hlen (fun j u hu => by rw [Addr.add_lit]; exact Hcl.out j u hu) ?_))
                      | ((with_reducible refine at_slot 11 ?_); go_must (refine wpList_var aggObj rfl rfl rfl _ _ rfl rfl p.cells.toArray rfl rfl (by simp [ObI.hlen]) (by simpa using p.one) ?_; rw [hW5, hbp]))
                      | (at_lookup; go_must (refine wpList_look_ok _ rfl _ _ 97 rfl 9 3 strKeyed Try.underlying97 (zeroInt _) M c _ rfl HS5.out.hM _ _ rfl (strKeyD Hsp.out.1) (.int .i64 (i0 : Int)) true (by show ((placeOf ys p.o.p.node.data.toList).map _).getD _ = _; rw [Hpl.out]; rfl) (by show ((placeOf ys p.o.p.node.data.toList).map _).isSome = _; rw [Hpl.out]; rfl) ?_)))
                    go_roundw
                    case rel => exact ⟨k2 + 1, Z, by omega, by go_num, HSk.out, HS5.out, hRZ.out.mono (Nat.le_succ _)⟩
                    case measure => simp [intOf]; omega
                  · have Hon : Hid (onRoom p = true) := by show _ = _; unfold onRoom; rw [hk1, hp1, hp2]; rfl
                    have hi0 : i0 < ys.length := placeOf_lt Hpl.out
                    have hiZ : i0 < Z.length := by rw [HS5.out.zl]; exact hi0
                    have Hin : Hid (In60 p.o.p.cpu ∧ In60 p.o.p.mem) := Hsp.out.2 Hon.out
                    obtain ⟨g, cap1, rest, rfl, hgN, hrow⟩ := HS5.out.shape (by omega)
                    have HgN := Lib.hid hgN
                    have HgM : Hid (g < M) := by have := (hv2.out g rfl).2; show _ < _; omega
                    have Hrow := Lib.hid hrow
                    have hN5 : N ≤ W5.heap.size := by have := HS5.out.hs; omega
                    obtain ⟨r, hr⟩ : ∃ r, Z[i0] = r := ⟨_, rfl⟩
                    have Hr := Lib.hid hr
                    obtain ⟨hrc, hrm, hrp0, hrp1⟩ := hRZ.out r (hr ▸ List.getElem_mem hiZ)
                    have HA := Lib.hid (fun wx => radd_any r.cpu r.mem p.o.p.cpu p.o.p.mem wx hrc hrm Hin.out.1 Hin.out.2)
                    obtain ⟨ac, hac⟩ : ∃ x, min (r.cpu + p.o.p.cpu) 1152921504606846976 = x := ⟨_, rfl⟩
                    obtain ⟨am, ham⟩ : ∃ x, min (r.mem + p.o.p.mem) 1152921504606846976 = x := ⟨_, rfl⟩
                    obtain ⟨pp, hpp⟩ : ∃ x, r.pods + 1 = x := ⟨_, rfl⟩
                    have Hput : Hid (({ ({ r with cpu := ac, mem := am } : RoomI) with pods := pp }) = r.put p.o.p) := by show _ = _; unfold RoomI.put; rw [hac, ham, hpp]
                    have gw : IntKind.i64.wrap pp = pp := IntWalk.i64_in _ (by omega)
                    rw [hac, ham] at HA
                    have cN := cell_of_row W5 N 0 _ _ _ HS5.out.hr
                    simp at cN
                    have ca : ∀ j u, [Value.int .i64 r.cpu, .int .i64 r.mem][j]? = some u → W5.cell? ((⟨g, i0 * 11 + 8, none⟩ : Addr).add j) = some u := fun j u hu => by
                      rw [Addr.add_lit]
                      have hj : j < 2 := (List.getElem?_eq_some_iff.1 hu).1
                      have := row_part Hrow.out hiZ (8 + j) (by omega)
                      rw [show i0 * 11 + 8 + j = i0 * 11 + (8 + j) by omega, this, hr, ← hu]
                      rcases (show j = 0 ∨ j = 1 by omega) with rfl | rfl <;> rfl
                    have cb : ∀ j u, [Value.int .i64 p.o.p.cpu, .int .i64 p.o.p.mem][j]? = some u → W5.cell? ((⟨bp, 14, none⟩ : Addr).add j) = some u := fun j u hu => by
                      rw [Addr.add_lit]
                      have hj : j < 2 := (List.getElem?_eq_some_iff.1 hu).1
                      refine HNc.out (14 + j) u ?_
                      rw [← hu]
                      rcases (show j = 0 ∨ j = 1 by omega) with rfl | rfl <;> rfl
                    have hin : (i0 : Int) < (Z.length : Int) := by omega
                    have hwr : IntKind.i64.wrap (i0 : Int) = (i0 : Int) := IntWalk.i64_in _ (by have := HYl.out; omega)
                    clear hac ham hr hrow hgN hrc hrm
                    replace cN := BW.cell cN
                    replace ca := BW.cells ca
                    replace cb := BW.cells cb
                    go_upto_region 18 with (first
                      | ((with_reducible refine at_slot 51 ?_); go_must (refine wpList_load_at aggObj rfl _ rfl ⟨pb, poff + k2 * 47, none⟩ rfl p.cells p.hlen (fun j u hu => by rw [Addr.add_lit]; exact Hcl.out j u hu) ?_))
                      | ((with_reducible refine at_slot 11 ?_); go_must (refine wpList_var aggObj rfl rfl rfl _ _ rfl rfl p.cells.toArray rfl rfl (by simp [ObI.hlen]) (by simpa using p.one) ?_; rw [hW5, hbp]))
                      | (at_lookup; go_must (refine wpList_look_ok _ rfl _ _ 97 rfl 9 3 strKeyed Try.underlying97 (zeroInt _) M c _ rfl HS5.out.hM _ _ rfl (strKeyD Hsp.out.1) (.int .i64 (i0 : Int)) true (by show ((placeOf ys p.o.p.node.data.toList).map _).getD _ = _; rw [Hpl.out]; rfl) (by show ((placeOf ys p.o.p.node.data.toList).map _).isSome = _; rw [Hpl.out]; rfl) ?_)))
                    refine region_later hmix ?_
                    refine later_phase (fun w' => ∃ p : BW W5, w' = p.w') [10, 13] 13 0 14 30 (by kernel_rfl) (by kernel_rfl) ⟨⟨{ W5 with drawn := W5.drawn + 1 }, ⟨rfl, rfl, rfl, Nat.le_refl _, fun _ _ => rfl⟩⟩, rfl⟩ ?_
                    repeat (first | (refine wpVal_skipR rfl ?_) | (refine wpVal_takeR rfl ?_; first | (refine wpVal_loadK aggRes rfl _ rfl _ rfl _ rfl (by rintro _ ⟨bw, rfl⟩; exact ca bw) (fun K hK => ?_); go_simp; refine hK _ ?_; clear hK K) | (refine wpVal_loadK aggRes rfl _ rfl _ rfl _ rfl (by rintro _ ⟨bw, rfl⟩; exact cb bw) (fun K hK => ?_); go_simp; refine hK _ ?_; clear hK K) | (refine wpVal_oneK rfl (fun K hK => ?_); refine ⟨_, fun w => by go_simp; rfl, ?_⟩; go_simp; refine hK _ ?_; clear hK K) | (refine wpVal_mem rfl rfl (fun K hK => ?_); refine ⟨_, by rintro _ ⟨bw, rfl⟩; go_simp; rfl, ?_⟩; go_simp; refine hK _ ?_; clear hK K)))
                    refine wpVal_endR ?_
                    refine wpLoud_call rfl rfl 45 [.tmp 84, .tmp 87] _ rfl Try.func45 (by kernel_rfl) rfl [.agg #[.int .i64 r.cpu, .int .i64 r.mem], .agg #[.int .i64 p.o.p.cpu, .int .i64 p.o.p.mem]] (by as_aux_lemma => kernel_rfl) ((HA.out _).mono ?_)
                    rintro e W6 ⟨rfl, hb6⟩
                    have hb6' : Below W5.heap.size W5 W6 := (⟨rfl, rfl, rfl, Nat.le_refl _, fun _ _ => rfl⟩ : Below W5.heap.size W5 { W5 with drawn := W5.drawn + 1 }).trans hb6
                    refine ⟨_, rfl, fun _ => ⟨⟨W6, hb6'⟩, rfl⟩, ?_⟩
                    have HS6 := Lib.hid (HS5.out.b hN5 hb6')
                    have hrow6 := (hb6'.block g (Array.getElem?_eq_some_iff.1 Hrow.out).1).trans Hrow.out
                    have hN6 : N ≤ W6.heap.size := Nat.le_trans hN5 hb6'.size
                    clear hb6 hb6' HA
                    refine wpLoud_store_part aggRes rfl rfl (.tmp 90) (.tmp 88) rfl rfl g (i0 * 11 + 8) [.int .i64 ac, .int .i64 am] rfl (by intro v hv; simp only [List.mem_cons, List.not_mem_nil, or_false] at hv; rcases hv with rfl | rfl <;> rfl) _ _ hrow6 (by
                      have hl : (Z.flatMap RoomI.cells).length = Z.length * 11 := flatMap_len (f := RoomI.cells) (sz := 11) (fun _ => rfl) Z
                      rw [List.size_toArray, List.length_append, hl]
                      omega) (by as_aux_lemma => kernel_rfl) (by as_aux_lemma => kernel_rfl) ⟨fun h => absurd h (by decide), ?_⟩
                    have HS7 := HS6.out.used HgN.out HgM.out hDM hN6 i0 hiZ ac am _ hrow6
                    generalize hW7 : W6.setRow g _ = W7 at HS7 ⊢
                    have hN7 : N ≤ W7.heap.size := by rw [← hW7]; simpa using hN6
                    obtain ⟨Z7, hZ7⟩ : ∃ Z7, Z.set i0 { Z[i0] with cpu := ac, mem := am } = Z7 := ⟨_, rfl⟩
                    rw [hZ7] at HS7
                    have hi7 : i0 < Z7.length := by rw [← hZ7]; simpa using hiZ
                    have hg7 : Z7[i0] = { Z[i0] with cpu := ac, mem := am } := by simp only [← hZ7, List.getElem_set_self]
                    obtain ⟨g', cap', rest7, hv7, _, hrow7⟩ := HS7.shape (by omega)
                    simp only [Value.slice.injEq, Option.some.injEq, Addr.mk.injEq, and_true] at hv7
                    obtain ⟨rfl, hz7, rfl⟩ := hv7
                    have cp := row_part hrow7 hi7 10 (by decide)
                    have f10 := row_free hrow7 (i0 * 11 + 10)
                    rw [hg7] at cp
                    replace cp : W7.cell? ⟨g, i0 * 11 + 10, none⟩ = some (.int .i64 r.pods) := by rw [cp, Hr.out]; rfl
                    have cN7 := cell_of_row W7 N 0 _ _ _ HS7.hr
                    simp at cN7
                    have HS8 := HS7.count HgN.out HgM.out hDM hN7 i0 hi7 pp
                    rw [hg7] at HS8
                    have hfin : Z7.set i0 { ({ Z[i0] with cpu := ac, mem := am } : RoomI) with pods := pp } = (ps.take (k2 + 1)).foldl (addPod (placeOf ys)) ys := by
                      rw [Hsc.out, addPod_on Hpl.out hiZ Hon.out, ← hZ7, List.set_set, Hr.out, Hput.out]
                    have HFin := Lib.hid hfin
                    rw [hfin] at HS8
                    have HS9 := Lib.hid HS8
                    have hRI9 : Hid (RoomsIn ((ps.take (k2 + 1)).foldl (addPod (placeOf ys)) ys) (k2 + 1)) := by
                      rw [Hsc.out, addPod_on Hpl.out hiZ Hon.out]
                      exact hRZ.out.set i0 _ _ (List.getElem_mem hiZ) Hin.out.1 Hin.out.2
                    clear HS6 HS7 HS8 hrow6 hrow7 hfin hZ7 hW7 hz7 HS5 hg7
                    refine wpLoud_nil ?_
                    refine later_end 14 rfl ?_
                    go_simp
                    go_wp2_with fail
                    go_roundw
                    case rel => exact ⟨k2 + 1, _, by omega, by go_num, rfl, HS9.out, hRI9.out⟩
                    case measure => simp [intOf]; omega
                · have Hon : Hid (onRoom p = true) := by show _ = _; unfold onRoom; rw [hk1, hp1]; rfl
                  have hi0 : i0 < ys.length := placeOf_lt Hpl.out
                  have hiZ : i0 < Z.length := by rw [HS5.out.zl]; exact hi0
                  have Hin : Hid (In60 p.o.p.cpu ∧ In60 p.o.p.mem) := Hsp.out.2 Hon.out
                  obtain ⟨g, cap1, rest, rfl, hgN, hrow⟩ := HS5.out.shape (by omega)
                  have HgN := Lib.hid hgN
                  have HgM : Hid (g < M) := by have := (hv2.out g rfl).2; show _ < _; omega
                  have Hrow := Lib.hid hrow
                  have hN5 : N ≤ W5.heap.size := by have := HS5.out.hs; omega
                  obtain ⟨r, hr⟩ : ∃ r, Z[i0] = r := ⟨_, rfl⟩
                  have Hr := Lib.hid hr
                  obtain ⟨hrc, hrm, hrp0, hrp1⟩ := hRZ.out r (hr ▸ List.getElem_mem hiZ)
                  have HA := Lib.hid (fun wx => radd_any r.cpu r.mem p.o.p.cpu p.o.p.mem wx hrc hrm Hin.out.1 Hin.out.2)
                  obtain ⟨ac, hac⟩ : ∃ x, min (r.cpu + p.o.p.cpu) 1152921504606846976 = x := ⟨_, rfl⟩
                  obtain ⟨am, ham⟩ : ∃ x, min (r.mem + p.o.p.mem) 1152921504606846976 = x := ⟨_, rfl⟩
                  obtain ⟨pp, hpp⟩ : ∃ x, r.pods + 1 = x := ⟨_, rfl⟩
                  have Hput : Hid (({ ({ r with cpu := ac, mem := am } : RoomI) with pods := pp }) = r.put p.o.p) := by show _ = _; unfold RoomI.put; rw [hac, ham, hpp]
                  have gw : IntKind.i64.wrap pp = pp := IntWalk.i64_in _ (by omega)
                  rw [hac, ham] at HA
                  have cN := cell_of_row W5 N 0 _ _ _ HS5.out.hr
                  simp at cN
                  have ca : ∀ j u, [Value.int .i64 r.cpu, .int .i64 r.mem][j]? = some u → W5.cell? ((⟨g, i0 * 11 + 8, none⟩ : Addr).add j) = some u := fun j u hu => by
                    rw [Addr.add_lit]
                    have hj : j < 2 := (List.getElem?_eq_some_iff.1 hu).1
                    have := row_part Hrow.out hiZ (8 + j) (by omega)
                    rw [show i0 * 11 + 8 + j = i0 * 11 + (8 + j) by omega, this, hr, ← hu]
                    rcases (show j = 0 ∨ j = 1 by omega) with rfl | rfl <;> rfl
                  have cb : ∀ j u, [Value.int .i64 p.o.p.cpu, .int .i64 p.o.p.mem][j]? = some u → W5.cell? ((⟨bp, 14, none⟩ : Addr).add j) = some u := fun j u hu => by
                    rw [Addr.add_lit]
                    have hj : j < 2 := (List.getElem?_eq_some_iff.1 hu).1
                    refine HNc.out (14 + j) u ?_
                    rw [← hu]
                    rcases (show j = 0 ∨ j = 1 by omega) with rfl | rfl <;> rfl
                  have hin : (i0 : Int) < (Z.length : Int) := by omega
                  have hwr : IntKind.i64.wrap (i0 : Int) = (i0 : Int) := IntWalk.i64_in _ (by have := HYl.out; omega)
                  clear hac ham hr hrow hgN hrc hrm
                  replace cN := BW.cell cN
                  replace ca := BW.cells ca
                  replace cb := BW.cells cb
                  go_upto_region 18 with (first
                    | ((with_reducible refine at_slot 51 ?_); go_must (refine wpList_load_at aggObj rfl _ rfl ⟨pb, poff + k2 * 47, none⟩ rfl p.cells p.hlen (fun j u hu => by rw [Addr.add_lit]; exact Hcl.out j u hu) ?_))
                    | ((with_reducible refine at_slot 11 ?_); go_must (refine wpList_var aggObj rfl rfl rfl _ _ rfl rfl p.cells.toArray rfl rfl (by simp [ObI.hlen]) (by simpa using p.one) ?_; rw [hW5, hbp]))
                    | (at_lookup; go_must (refine wpList_look_ok _ rfl _ _ 97 rfl 9 3 strKeyed Try.underlying97 (zeroInt _) M c _ rfl HS5.out.hM _ _ rfl (strKeyD Hsp.out.1) (.int .i64 (i0 : Int)) true (by show ((placeOf ys p.o.p.node.data.toList).map _).getD _ = _; rw [Hpl.out]; rfl) (by show ((placeOf ys p.o.p.node.data.toList).map _).isSome = _; rw [Hpl.out]; rfl) ?_)))
                  refine region_later hmix ?_
                  refine later_phase (fun w' => ∃ p : BW W5, w' = p.w') [10, 13] 13 0 14 30 (by kernel_rfl) (by kernel_rfl) ⟨⟨{ W5 with drawn := W5.drawn + 1 }, ⟨rfl, rfl, rfl, Nat.le_refl _, fun _ _ => rfl⟩⟩, rfl⟩ ?_
                  repeat (first | (refine wpVal_skipR rfl ?_) | (refine wpVal_takeR rfl ?_; first | (refine wpVal_loadK aggRes rfl _ rfl _ rfl _ rfl (by rintro _ ⟨bw, rfl⟩; exact ca bw) (fun K hK => ?_); go_simp; refine hK _ ?_; clear hK K) | (refine wpVal_loadK aggRes rfl _ rfl _ rfl _ rfl (by rintro _ ⟨bw, rfl⟩; exact cb bw) (fun K hK => ?_); go_simp; refine hK _ ?_; clear hK K) | (refine wpVal_oneK rfl (fun K hK => ?_); refine ⟨_, fun w => by go_simp; rfl, ?_⟩; go_simp; refine hK _ ?_; clear hK K) | (refine wpVal_mem rfl rfl (fun K hK => ?_); refine ⟨_, by rintro _ ⟨bw, rfl⟩; go_simp; rfl, ?_⟩; go_simp; refine hK _ ?_; clear hK K)))
                  refine wpVal_endR ?_
                  refine wpLoud_call rfl rfl 45 [.tmp 84, .tmp 87] _ rfl Try.func45 (by kernel_rfl) rfl [.agg #[.int .i64 r.cpu, .int .i64 r.mem], .agg #[.int .i64 p.o.p.cpu, .int .i64 p.o.p.mem]] (by as_aux_lemma => kernel_rfl) ((HA.out _).mono ?_)
                  rintro e W6 ⟨rfl, hb6⟩
                  have hb6' : Below W5.heap.size W5 W6 := (⟨rfl, rfl, rfl, Nat.le_refl _, fun _ _ => rfl⟩ : Below W5.heap.size W5 { W5 with drawn := W5.drawn + 1 }).trans hb6
                  refine ⟨_, rfl, fun _ => ⟨⟨W6, hb6'⟩, rfl⟩, ?_⟩
                  have HS6 := Lib.hid (HS5.out.b hN5 hb6')
                  have hrow6 := (hb6'.block g (Array.getElem?_eq_some_iff.1 Hrow.out).1).trans Hrow.out
                  have hN6 : N ≤ W6.heap.size := Nat.le_trans hN5 hb6'.size
                  clear hb6 hb6' HA
                  refine wpLoud_store_part aggRes rfl rfl (.tmp 90) (.tmp 88) rfl rfl g (i0 * 11 + 8) [.int .i64 ac, .int .i64 am] rfl (by intro v hv; simp only [List.mem_cons, List.not_mem_nil, or_false] at hv; rcases hv with rfl | rfl <;> rfl) _ _ hrow6 (by
                    have hl : (Z.flatMap RoomI.cells).length = Z.length * 11 := flatMap_len (f := RoomI.cells) (sz := 11) (fun _ => rfl) Z
                    rw [List.size_toArray, List.length_append, hl]
                    omega) (by as_aux_lemma => kernel_rfl) (by as_aux_lemma => kernel_rfl) ⟨fun h => absurd h (by decide), ?_⟩
                  have HS7 := HS6.out.used HgN.out HgM.out hDM hN6 i0 hiZ ac am _ hrow6
                  generalize hW7 : W6.setRow g _ = W7 at HS7 ⊢
                  have hN7 : N ≤ W7.heap.size := by rw [← hW7]; simpa using hN6
                  obtain ⟨Z7, hZ7⟩ : ∃ Z7, Z.set i0 { Z[i0] with cpu := ac, mem := am } = Z7 := ⟨_, rfl⟩
                  rw [hZ7] at HS7
                  have hi7 : i0 < Z7.length := by rw [← hZ7]; simpa using hiZ
                  have hg7 : Z7[i0] = { Z[i0] with cpu := ac, mem := am } := by simp only [← hZ7, List.getElem_set_self]
                  obtain ⟨g', cap', rest7, hv7, _, hrow7⟩ := HS7.shape (by omega)
                  simp only [Value.slice.injEq, Option.some.injEq, Addr.mk.injEq, and_true] at hv7
                  obtain ⟨rfl, hz7, rfl⟩ := hv7
                  have cp := row_part hrow7 hi7 10 (by decide)
                  have f10 := row_free hrow7 (i0 * 11 + 10)
                  rw [hg7] at cp
                  replace cp : W7.cell? ⟨g, i0 * 11 + 10, none⟩ = some (.int .i64 r.pods) := by rw [cp, Hr.out]; rfl
                  have cN7 := cell_of_row W7 N 0 _ _ _ HS7.hr
                  simp at cN7
                  have HS8 := HS7.count HgN.out HgM.out hDM hN7 i0 hi7 pp
                  rw [hg7] at HS8
                  have hfin : Z7.set i0 { ({ Z[i0] with cpu := ac, mem := am } : RoomI) with pods := pp } = (ps.take (k2 + 1)).foldl (addPod (placeOf ys)) ys := by
                    rw [Hsc.out, addPod_on Hpl.out hiZ Hon.out, ← hZ7, List.set_set, Hr.out, Hput.out]
                  have HFin := Lib.hid hfin
                  rw [hfin] at HS8
                  have HS9 := Lib.hid HS8
                  have hRI9 : Hid (RoomsIn ((ps.take (k2 + 1)).foldl (addPod (placeOf ys)) ys) (k2 + 1)) := by
                    rw [Hsc.out, addPod_on Hpl.out hiZ Hon.out]
                    exact hRZ.out.set i0 _ _ (List.getElem_mem hiZ) Hin.out.1 Hin.out.2
                  clear HS6 HS7 HS8 hrow6 hrow7 hfin hZ7 hW7 hz7 HS5 hg7
                  refine wpLoud_nil ?_
                  refine later_end 14 rfl ?_
                  go_simp
                  go_wp2_with fail
                  go_roundw
                  case rel => exact ⟨k2 + 1, _, by omega, by go_num, rfl, HS9.out, hRI9.out⟩
                  case measure => simp [intOf]; omega
          · obtain rfl : k2 = m := by omega
            have htp : ps.take k2 = ps := List.take_of_length_le (by have := HP.out.hlen; omega)
            have hZe := hZ.out
            rw [htp] at hZe
            have HZe := Lib.hid hZe
            have cN := cell_of_row wz N 0 _ _ _ hSt.out.hr
            simp at cN
            have hSe := hSt
            clear hZe htp
            go_wp2_with fail
            refine ⟨by simp, .inl ⟨_, _, rfl, run_takeDeferred hSe.out.hD, ?_⟩⟩
            refine ⟨v, by simp [results, Try.f14, go_sem], ?_⟩
            have hgr : Fr (fun k => k = D) wz (wz.putObj D (.deferred none)) := Fr.grown (grownBy_putObj' wz D _) (fun k hk => by cases hk; rfl)
            have hOw : OwnRm (wz.putObj D (.deferred none)) (N + 1) v Z := owns_fr hgr hSe.out.hO (fun k hk hs => by have := (hv2.out k hk).2; omega)
            have hBw : Below w.heap.size w (wz.putObj D (.deferred none)) := by
              rw [hN]
              exact hSe.out.hB.trans (hgr.below (by have := hSe.out.hs; omega) (fun k hk => by omega))
            unfold OwnRm at hOw
            obtain ⟨ao', cap', rfl, hSl, _⟩ := SlR.of_owns hOw rfl (fun _ => rfl)
            exact ⟨ao', Z.length, cap', ys, rfl, HYs.out, by rw [← HZe.out]; exact hSl, hBw⟩
      case stop => exact fun _ _ _ _ _ _ h _ => h.elim

theorem rooms_any (l ps : List ObI) (ao : Option Addr) (n cap : Nat) (bo : Option Addr) (m capb : Nat) (w : World) (hS : SlR (Flat ObI.cells) 47 w ao n cap l) (hP : SlR (Flat ObI.cells) 47 w bo m capb ps) (hn : n ≤ 1000) (hm : m ≤ 1000)
    (hsl : ∀ x ∈ l, x.nm.size ≤ maxLen) (hsp : ∀ p ∈ ps, p.o.p.node.size ≤ maxLen ∧ (onRoom p = true → In60 p.o.p.cpu ∧ In60 p.o.p.mem)) :
    Calls Try.prog 14 #[.slice ao n cap, .slice bo m capb] w fun e w' => ∃ ao' k cap' ys, e = .returned (.slice ao' k cap') ∧ SortedR (rooms0 l) ys ∧ SlR (Flat RoomI.cells) 11 w' ao' k cap' (ps.foldl (addPod (placeOf ys)) ys) ∧ Below w.heap.size w w' :=
  callsIn_wide.1 (rooms_in l ps ao n cap bo m capb w hS hP hn hm hsl hsp)
end Go.Proofs.Ytpbppgfogepjeaa
