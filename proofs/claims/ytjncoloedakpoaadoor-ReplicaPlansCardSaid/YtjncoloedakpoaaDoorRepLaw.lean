/- The contract of chapter 16's plan by definition. Conditions: pods that may be, of unlike names, at most 1000; a workload with a name that may be and few replicas; the library's table lies; S holds the live ones in the order in which they go. -/
import Derived.Test.YtjncoloedakpoaaDoorRepLawP
namespace Go.Proofs.YtjncoloedakpoaaDoor
open Go.ChangeShapes Go.WideShapes Go.ChangeAt Go.RowKit Go.Deep

theorem own_nextN {w w' : World} {B : Nat} {v u : Value} {ys : List ByteArray} {g' cap' n' : Nat} (hu : OwnN w B u ys) (hd : Dis v u) (hg : w.grownBy w' v.ownBlock) (hnew : v.ownBlock = some g' ∨ w.heap.size ≤ g') :
    OwnN w' B u ys ∧ Dis (.slice (some ⟨g', 0, none⟩) n' cap') u := by
  refine ⟨owns_fr (Fr.grown (S := fun k => v.ownBlock = some k) hg (fun k hk => hk)) hu (fun k hk hs => hd k hs hk), fun g h1 h2 => ?_⟩
  simp only [Value.ownBlock, Option.some.injEq] at h1
  subst h1
  rcases hnew with h | h
  · exact hd _ h h2
  · have := (World.ownsRow.lt hu _ h2).2
    omega
theorem zeroNames (w : World) : (Instr.buildSlice 51 0 [].toArray).run Tryd.prog w = .ok (.slice (some ⟨w.heap.size, 0, none⟩) 0 0) (w.alloc (.cells #[] 9)) := by kernel_rfl
theorem emptyL : (⟨#[]⟩ : ByteArray).toList = [] := by rw [Lib.toList_data]
theorem emptyB {s : ByteArray} (h : (s.toList == (⟨#[]⟩ : ByteArray).toList) = true) : s.toList = [] := (eq_of_beq h).trans emptyL
theorem emptyN {s : ByteArray} (h : (s.toList == (⟨#[]⟩ : ByteArray).toList) = false) : ¬ s.toList = [] ∧ s.toList.isEmpty = false := by
  rw [emptyL] at h
  have : ¬ s.toList = [] := by simpa using h
  exact ⟨this, by cases e : s.toList <;> simp_all⟩
def BstI (ok : ObI → Bool) (L : List ObI) (k : Nat) (bi : Int) : Prop := (bi = -1 ∧ selBest soonI ok (L.take k) = none) ∨ ∃ (j : Nat) (h : j < L.length), j < k ∧ bi = j ∧ selBest soonI ok (L.take k) = some L[j]
theorem BstI.keep {ok : ObI → Bool} {L : List ObI} {k : Nat} {bi : Int} (h : BstI ok L k bi) (e : selBest soonI ok (L.take (k + 1)) = selBest soonI ok (L.take k)) : BstI ok L (k + 1) bi := by
  rcases h with ⟨h1, h2⟩ | ⟨j, hj, h1, h2, h3⟩
  · exact .inl ⟨h1, e.trans h2⟩
  · exact .inr ⟨j, hj, by omega, h2, e.trans h3⟩
theorem BstI.new {ok : ObI → Bool} {L : List ObI} {k : Nat} (hk : k < L.length) (e : selBest soonI ok (L.take (k + 1)) = some L[k]) : BstI ok L (k + 1) (k : Int) := .inr ⟨k, hk, by omega, rfl, e⟩
theorem selStep_no {α : Type} {lt : α → α → Bool} {ok : α → Bool} {b : Option α} {o : α} (h : ok o = false) : selStep lt ok b o = b := by unfold selStep; rw [h]; rfl
theorem selStep_none {α : Type} {lt : α → α → Bool} {ok : α → Bool} {o : α} (h : ok o = true) : selStep lt ok none o = some o := by unfold selStep; rw [h]; rfl
theorem selStep_some {α : Type} {lt : α → α → Bool} {ok : α → Bool} {x o : α} (h : ok o = true) : selStep lt ok (some x) o = if lt o x = true then some o else some x := by unfold selStep; rw [h]; rfl
theorem own0 (nm : Nat → ByteArray) (tk : ByteArray → Bool) (m : Nat) (p : Bool) (w : World) (B : Nat) : OwnN w B (.slice none 0 0) (if p = true then freeN nm tk m 0 else []) := by
  have h : (if p = true then freeN nm tk m 0 else []) = [] := by cases p <;> rfl
  rw [h]
  exact OwnN.nil _ _
def takB (R : List ByteArray) (l : List ObI) (nm : ByteArray) : Bool := l.any fun y => (y.nm.toList == nm.toList) && !inB R nm
theorem takB_gB (R : List ByteArray) (l : List ObI) (nm : ByteArray) : gB (takenL R l) nm = takB R l nm := by
  rw [Bool.eq_iff_iff, gB_iff]
  unfold takenL takB
  rw [List.mem_map, List.any_eq_true]
  constructor
  · rintro ⟨y, hy, rfl⟩
    rw [List.mem_filter] at hy
    exact ⟨y, hy.1, by simp [hy.2]⟩
  · rintro ⟨y, hy, h⟩
    rw [Bool.and_eq_true] at h
    have e : y.nm = nm := toList_injO.1 (eq_of_beq h.1)
    exact ⟨y, List.mem_filter.2 ⟨hy, by rw [e]; exact h.2⟩, e⟩
theorem takB_succ (R : List ByteArray) (l : List ObI) (nm : ByteArray) {k : Nat} (h : k < l.length) : takB R (l.take (k + 1)) nm = (takB R (l.take k) nm || ((l[k].nm.toList == nm.toList) && !inB R nm)) := by
  unfold takB
  rw [List.take_succ_eq_append_getElem h, List.any_append, List.any_cons, List.any_nil, Bool.or_false]

attribute [local irreducible] wpQuiet
set_option maxRecDepth 100000 in
set_option maxHeartbeats 8000000 in
theorem plan16_any (x : ObI) (l S : List ObI) (ao : Option Addr) (n cap : Nat) (w : World) (hS : SlR (Flat ObI.cells) 47 w ao n cap l) (hA : ∀ y ∈ l, y.kd = 1 ∧ 0 ≤ y.o.p.phase ∧ y.o.p.phase ≤ 3 ∧ y.nm.size ≠ 0) (hu : l.Pairwise fun a b => a.nm ≠ b.nm) (hnm : nameOf x.nm.data.toList = true) (hT : LT w) (hn : n ≤ 1000) (hrep : 0 ≤ x.o.w.rep ∧ x.o.w.rep ≤ 1000000) (hSO : SoonO x l S) :
    Calls Tryd.prog 8 #[.agg x.cells.toArray, .slice ao n cap] w fun e w' => ∃ v1 v2, e = .returned (.tuple #[v1, v2]) ∧ OwnN w' w.heap.size v1 (createR x l) ∧ OwnN w' w.heap.size v2 (removeR x l S) ∧ Below w.heap.size w w' := by
  have h1 := x.h1
  have h3 := x.h3
  have hll := hS.hlen
  have hcm := hS.hmax
  have hlc := hS.hcap
  unfold maxLen at hcm
  have hselF := fun i (hi : i < (remF x l).length) => selF x l hu hi
  have hselL := fun i (hi : i < S.length) => selL x l S hu hSO hi
  have hSl : S.length = (liveR x l).length := hSO.perm.length_eq
  have hRl : (remF x l).length = (deadR x l).length := by unfold remF; rw [sortN_length, List.length_map]
  have hd0 : ∀ y ∈ deadR x l, y.nm.size ≠ 0 := fun y hy => (hA y (List.mem_filter.1 hy).1).2.2.2
  have hph : ∀ y ∈ liveR x l, 0 ≤ y.o.p.phase ∧ y.o.p.phase ≤ 2 := fun y hy => by
    have h1 := List.mem_filter.1 hy
    have h2 := hA y h1.1
    have h3 : isLive x.nm y.ov = true := h1.2
    unfold isLive at h3
    rw [Bool.and_eq_true] at h3
    have h4 : ¬ y.o.p.phase = 3 := by
      have := h3.2
      intro e
      have e2 : (y.ov.phase == 3) = true := beq_iff_eq.2 e
      rw [e2] at this
      exact absurd this (by decide)
    omega
  have hnl : (liveR x l).length ≤ 1000 := by have := List.length_filter_le (fun y : ObI => isLive x.nm y.ov) l; unfold liveR; omega
  have hnd : (deadR x l).length ≤ 1000 := by have := List.length_filter_le (fun y : ObI => isDead x.nm y.ov) l; unfold deadR; omega
  have hOl : (l.map ObI.ov).filter (isLive x.nm) = (liveR x l).map ObI.ov := filter_ov _ _
  have hOd : (l.map ObI.ov).filter (isDead x.nm) = (deadR x l).map ObI.ov := filter_ov _ _
  have hk1 : ∀ z ∈ l.map ObI.ov, z.kind = 1 := fun z hz => by obtain ⟨y, hy, rfl⟩ := List.mem_map.1 hz; exact (hA y hy).1
  have HNm : Hid (∀ (k : Nat), k < 10000 → ∀ w1, Below w.heap.size w w1 → Calls Tryd.prog 24 #[.string x.nm, .int .i64 k] w1 fun e w' => e = .returned (podRet x.nm k) ∧ Below w1.heap.size w1 w') := fun k hk w1 hb => podname_any x.nm hnm k hk w1 (hT.b hb)
  obtain ⟨LV, hLV⟩ : ∃ q, liveR x l = q := ⟨_, rfl⟩
  obtain ⟨DV, hDV⟩ : ∃ q, deadR x l = q := ⟨_, rfl⟩
  obtain ⟨RF, hRF⟩ : ∃ q, remF x l = q := ⟨_, rfl⟩
  obtain ⟨rep, hre⟩ : ∃ r, x.o.w.rep = r := ⟨_, rfl⟩
  obtain ⟨xn, hxn⟩ : ∃ r, x.nm = r := ⟨_, rfl⟩
  have HC : Hid (createR x l = wantL xn (takenL RF l) (min (rep - (LV.length : Int)) 16)) := by show _ = _; unfold createR; rw [hRF, hLV, hre, hxn]
  have HR : Hid (removeR x l S = RF ++ (S.take (min ((LV.length : Int) - rep) 16).toNat).map ObI.nm) := by show _ = _; unfold removeR; rw [hRF, hLV, hre]
  obtain ⟨xc, hxe⟩ : ∃ c, x.cells = c := ⟨_, rfl⟩
  rw [hxe] at h1 h3 ⊢
  rw [hre] at h3 hrep
  rw [hxn] at h1 HNm hOl hOd
  rw [hLV] at hnl hSl hph hOl hselL
  rw [hDV] at hnd hd0 hOd hRl hselF
  rw [hRF] at hRl hselF hselL
  have HS := Lib.hid hS.ov
  have HSi := Lib.hid hS
  have Hk1 := Lib.hid hk1
  have Hll := Lib.hid hll
  have HselF := Lib.hid hselF
  have HselL := Lib.hid hselL
  have HSl := Lib.hid hSl
  have HRl := Lib.hid hRl
  have Hd0 := Lib.hid hd0
  have Hph := Lib.hid hph
  have HOl := Lib.hid hOl
  have HOd := Lib.hid hOd
  have HH1 := Lib.hid h1
  have HH3 := Lib.hid h3
  clear hxe hre hxn hLV hDV hRF hS hA hll hT hnm hu hselF hselL hSl hRl hd0 hph hOl hOd hk1 hSO
  obtain ⟨W, hW⟩ : ∃ W, w.alloc (.cells xc.toArray 44) = W := ⟨_, rfl⟩
  have HB : Hid (Below w.heap.size w W) := by rw [← hW]; exact (Below.refl _ _).alloc (Nat.le_refl _) _
  obtain ⟨N, hN⟩ : ∃ N, w.heap.size = N := ⟨_, rfl⟩
  have hX : ∀ j u, xc[j]? = some u → W.cell? ⟨N, j, none⟩ = some u := fun j u hu => by
    rw [← hW, ← hN]
    have := (cell_new w xc.toArray 44 j).trans (by simpa using hu : _ = some u)
    rwa [Addr.add_lit, Nat.zero_add] at this
  have hzW : W.heap.size = N + 1 := by rw [← hW, World.size_alloc, hN]
  have HX1 : Hid (W.cell? ⟨N, 1, none⟩ = some (.string xn)) := hX 1 _ h1
  have HX3 : Hid (W.cell? ⟨N, 3, none⟩ = some (.int .i64 rep)) := hX 3 _ h3
  have HN := Lib.hid hN
  rw [hN] at HB HNm ⊢
  clear h1 h3 hX
  go_enter Tryd.func8, Tryd.ntmps8
  go_wp2_with fail
  clear hW hN
  go_loopw [6, 7, 28] (fun v1 v2 i wr => ∃ k : Nat, k ≤ n ∧ i = .int .i64 k ∧ Hid (OwnO wr W.heap.size v1 (((l.map ObI.ov).take k).filter (isLive xn))) ∧ Hid (OwnO wr W.heap.size v2 (((l.map ObI.ov).take k).filter (isDead xn))) ∧
      Hid (Dis v1 v2) ∧ Hid (Below W.heap.size W wr)) (fun _ _ i _ => n - (intOf i).toNat)
  case atStart => exact ⟨0, Nat.zero_le _, rfl, OwnO.nil _ _, OwnO.nil _ _, fun g h => (by cases h), Below.refl _ _⟩
  case round =>
    obtain ⟨k, hk, rfl, ho1, ho2, hds, hb⟩ := hrel
    obtain ⟨wq, rfl⟩ : ∃ wq : World, wq = wr := ⟨_, rfl⟩
    by_cases hlt : k < n
    · skip
      have hS2 := HS.out.flatKeeps (Keeps.below (by rw [HN.out]; exact HB.out.trans (hb.out.mono (by omega))))
      obtain ⟨b0, off, rfl⟩ := hS2.ptr (by decide) (by omega)
      have kx : k < (l.map ObI.ov).length := by have := hS2.hlen; omega
      have hcl := hS2.flat kx
      have hyk := Hk1.out _ (List.getElem_mem kx)
      have f1 := filter_take_succ (isLive xn) (l.map ObI.ov) k kx
      have f2 := filter_take_succ (isDead xn) (l.map ObI.ov) k kx
      have hlk : ((l.map ObI.ov).take k).length ≤ 1000 := by rw [List.length_take]; omega
      have g1 := List.length_filter_le (isLive xn) ((l.map ObI.ov).take k)
      have g2 := List.length_filter_le (isDead xn) ((l.map ObI.ov).take k)
      obtain ⟨y, hy⟩ : ∃ y, (l.map ObI.ov)[k] = y := ⟨_, rfl⟩
      rw [hy] at hcl f1 f2 hyk
      obtain ⟨X1, hX1⟩ : ∃ X, ((l.map ObI.ov).take k).filter (isLive xn) = X := ⟨_, rfl⟩
      obtain ⟨X2, hX2⟩ : ∃ X, ((l.map ObI.ov).take k).filter (isDead xn) = X := ⟨_, rfl⟩
      rw [hX1] at f1 g1 ho1
      rw [hX2] at f2 g2 ho2
      have F1 := Lib.hid f1
      have F2 := Lib.hid f2
      have Hcl := Lib.hid hcl
      have Hyk := Lib.hid hyk
      have hsz := hb.out.size
      have G1 : X1.length ≤ 1000 := by omega
      have G2 : X2.length ≤ 1000 := by omega
      clear hcl hS2 hy hX1 hX2 f1 f2 g1 g2 hlk hyk
      obtain ⟨Wy, hWy⟩ : ∃ W, wq.alloc (.cells y.cells.toArray 44) = W := ⟨_, rfl⟩
      obtain ⟨bo, hbo⟩ : ∃ bo, wq.heap.size = bo := ⟨_, rfl⟩
      have hbW : Below wq.heap.size wq Wy := by rw [← hWy]; exact (Below.refl _ _).alloc (Nat.le_refl _) _
      have hn2 : ∀ j u, y.cells[j]? = some u → Wy.cell? (Addr.add ⟨bo, 0, none⟩ j) = some u := fun j u hu => by rw [← hWy, ← hbo]; exact (cell_new wq _ _ j).trans (by simpa using hu)
      have k10 := hn2 10 _ y.h10
      have k12 := hn2 12 _ y.h12
      rw [Addr.add_lit, Nat.zero_add] at k10 k12
      have Hn2 := Lib.hid hn2
      have O1 : Hid (OwnO Wy W.heap.size u6 X1) := owns_fr (Fr.of_below hbW (fun _ => False)) ho1.out (fun _ _ h => h)
      have O2 : Hid (OwnO Wy W.heap.size u7 X2) := owns_fr (Fr.of_below hbW (fun _ => False)) ho2.out (fun _ _ h => h)
      have B2 : Hid (Below W.heap.size W Wy) := hb.out.trans (hbW.mono hsz)
      have xw1 : Wy.cell? ⟨N, 1, none⟩ = some (.string xn) := Below.cell_some (B2.out) HX1.out
      have hsz2 := B2.out.size
      have Hbo := Lib.hid hbo
      clear hn2 hbW ho1 ho2 hbo
      obtain ⟨q, hq⟩ : ∃ q, (y.owner.toList == xn.toList) = q := ⟨_, rfl⟩
      have HQ := Lib.hid hq
      cases q
      · have hf1 : Hid ((((l.map ObI.ov).take (k + 1)).filter (isLive xn)) = X1) := F1.out.trans (by rw [show isLive xn y = false by unfold isLive isMine; rw [HQ.out]; simp]; simp)
        have hf2 : Hid ((((l.map ObI.ov).take (k + 1)).filter (isDead xn)) = X2) := F2.out.trans (by rw [show isDead xn y = false by unfold isDead isMine; rw [HQ.out]; simp]; simp)
        go_wp2_with (first
          | ((with_reducible refine at_slot 31 ?_); go_must (refine wpList_load_at aggObj rfl _ rfl ⟨b0, off + k * 47, none⟩ rfl y.cells y.hlen (fun j u hu => by rw [Addr.add_lit]; exact Hcl.out j u hu) ?_))
          | ((with_reducible refine at_slot 9 ?_); go_must (refine wpList_var aggObj rfl rfl rfl _ _ rfl rfl y.cells.toArray rfl rfl (by simp [OV.hlen]) (by simpa using y.one) ?_; rw [hWy]; rw [Hbo.out])))
        go_roundw
        case rel => exact ⟨k + 1, by omega, by go_num, by rw [hf1.out]; exact O1.out, by rw [hf2.out]; exact O2.out, hds.out, B2.out⟩
        case measure => simp [intOf]; omega
      · have hm : isMine xn y = true := by unfold isMine; rw [HQ.out, Hyk.out]; rfl
        by_cases h3 : y.phase = 3
        · have hf1 : Hid ((((l.map ObI.ov).take (k + 1)).filter (isLive xn)) = X1) := F1.out.trans (by rw [show isLive xn y = false by unfold isLive; rw [hm, h3]; rfl]; simp)
          have hf2 : Hid ((((l.map ObI.ov).take (k + 1)).filter (isDead xn)) = X2 ++ [y]) := F2.out.trans (by rw [show isDead xn y = true by unfold isDead; rw [hm, h3]; rfl]; simp)
          rw [h3] at k12
          clear hm h3
          go_wp2_with (first
            | ((with_reducible refine at_slot 31 ?_); go_must (refine wpList_load_at aggObj rfl _ rfl ⟨b0, off + k * 47, none⟩ rfl y.cells y.hlen (fun j u hu => by rw [Addr.add_lit]; exact Hcl.out j u hu) ?_))
            | ((with_reducible refine at_slot 9 ?_); go_must (refine wpList_var aggObj rfl rfl rfl _ _ rfl rfl y.cells.toArray rfl rfl (by simp [OV.hlen]) (by simpa using y.one) ?_; rw [hWy]; rw [Hbo.out]))
            | ((with_reducible refine at_slot 45 ?_); go_must (refine wpList_load_at aggObj rfl _ rfl ⟨bo, 0, none⟩ rfl y.cells y.hlen Hn2.out ?_))
            | ((with_reducible refine at_slot 46 ?_); go_must (refine wpList_buildSlice rfl 45 1 [(0, _)] rfl [(0, .agg y.cells.toArray)] rfl _ _ (oneObj y) ?_; refine wpList_append_new elemObj rfl _ _ rfl W.heap.size u7 X2.length (X2.flatMap OV.cells) rfl (O2.out.alloc _) (by simp; omega) _ _ rfl (heap_alloc_new _ _) (by simp [OV.hlen]) (by simpa using y.one) (by unfold maxLen; omega) (by omega) ?_; intro g' cap' w' ho' hg' hn'; have HO' := Lib.hid ho'; have HG' := Lib.hid hg'; have HN' := Lib.hid hn'; clear ho' hg' hn')))
          have N1 := own_next (n' := X2.length + 1) (cap' := cap') (O1.out.alloc (.cells y.cells.toArray 44)) hds.out.symm HG'.out (HN'.out.imp id (fun h => by simpa using h))
          have NB : Hid (Below W.heap.size W w') := (B2.out.alloc hsz2 _).grown HG'.out (by simp; omega) (fun k hk => (World.ownsRow.lt O2.out k hk).1)
          go_roundw
          case rel => exact ⟨k + 1, by omega, by go_num, by rw [hf1.out]; exact N1.1, by rw [hf2.out]; exact own_first HO'.out, N1.2.symm, NB.out⟩
          case measure => simp [intOf]; omega
        · have h3' : (y.phase == 3) = false := beq_eq_false_iff_ne.2 h3
          have hf1 : Hid ((((l.map ObI.ov).take (k + 1)).filter (isLive xn)) = X1 ++ [y]) := F1.out.trans (by rw [show isLive xn y = true by unfold isLive; rw [hm, h3']; rfl]; simp)
          have hf2 : Hid ((((l.map ObI.ov).take (k + 1)).filter (isDead xn)) = X2) := F2.out.trans (by rw [show isDead xn y = false by unfold isDead; rw [hm, h3']; rfl]; simp)
          clear hm h3
          go_wp2_with (first
            | ((with_reducible refine at_slot 31 ?_); go_must (refine wpList_load_at aggObj rfl _ rfl ⟨b0, off + k * 47, none⟩ rfl y.cells y.hlen (fun j u hu => by rw [Addr.add_lit]; exact Hcl.out j u hu) ?_))
            | ((with_reducible refine at_slot 9 ?_); go_must (refine wpList_var aggObj rfl rfl rfl _ _ rfl rfl y.cells.toArray rfl rfl (by simp [OV.hlen]) (by simpa using y.one) ?_; rw [hWy]; rw [Hbo.out]))
            | ((with_reducible refine at_slot 55 ?_); go_must (refine wpList_load_at aggObj rfl _ rfl ⟨bo, 0, none⟩ rfl y.cells y.hlen Hn2.out ?_))
            | ((with_reducible refine at_slot 56 ?_); go_must (refine wpList_buildSlice rfl 45 1 [(0, _)] rfl [(0, .agg y.cells.toArray)] rfl _ _ (oneObj y) ?_; refine wpList_append_new elemObj rfl _ _ rfl W.heap.size u6 X1.length (X1.flatMap OV.cells) rfl (O1.out.alloc _) (by simp; omega) _ _ rfl (heap_alloc_new _ _) (by simp [OV.hlen]) (by simpa using y.one) (by unfold maxLen; omega) (by omega) ?_; intro g' cap' w' ho' hg' hn'; have HO' := Lib.hid ho'; have HG' := Lib.hid hg'; have HN' := Lib.hid hn'; clear ho' hg' hn')))
          have N2 := own_next (n' := X1.length + 1) (cap' := cap') (O2.out.alloc (.cells y.cells.toArray 44)) hds.out HG'.out (HN'.out.imp id (fun h => by simpa using h))
          have NB : Hid (Below W.heap.size W w') := (B2.out.alloc hsz2 _).grown HG'.out (by simp; omega) (fun k hk => (World.ownsRow.lt O1.out k hk).1)
          go_roundw
          case rel => exact ⟨k + 1, by omega, by go_num, by rw [hf1.out]; exact own_first HO'.out, by rw [hf2.out]; exact N2.1, N2.2, NB.out⟩
          case measure => simp [intOf]; omega
    · obtain rfl : n = k := by omega
      have ht : (l.map ObI.ov).take n = l.map ObI.ov := List.take_of_length_le (by have := HS.out.hlen; omega)
      rw [ht, HOl.out] at ho1
      rw [ht, HOd.out] at ho2
      have hoL : OwnOb wq W.heap.size u6 LV := by
        have h := ho1.out
        unfold OwnO at h
        rwa [flat_ov, List.length_map] at h
      have hoD : OwnOb wq W.heap.size u7 DV := by
        have h := ho2.out
        unfold OwnO at h
        rwa [flat_ov, List.length_map] at h
      obtain ⟨w1, hw1⟩ : ∃ w1 : World, w1 = wq := ⟨_, rfl⟩
      rw [← hw1] at hoL hoD hb ⊢
      obtain ⟨la, lc, rfl, hSl, _⟩ := hoL.reads
      obtain ⟨da, dc, rfl, hSd, _⟩ := hoD.reads
      have HB1 : Hid (Below N w w1) := HB.out.trans (hb.out.mono (by omega))
      have HX1 : Hid (w1.cell? ⟨N, 1, none⟩ = some (.string xn)) := Below.cell_some hb.out HX1.out
      have HX3 : Hid (w1.cell? ⟨N, 3, none⟩ = some (.int .i64 rep)) := Below.cell_some hb.out HX3.out
      have hz1 : N + 1 ≤ w1.heap.size := by have := hb.out.size; omega
      obtain ⟨nl, hnl'⟩ : ∃ k, LV.length = k := ⟨_, rfl⟩
      obtain ⟨nd, hnd'⟩ : ∃ k, DV.length = k := ⟨_, rfl⟩
      rw [hnl'] at hnl HC HR HSl hSl ⊢
      rw [hnd'] at hnd HRl hSd ⊢
      have HSl' := Lib.hid hSl
      have HSd := Lib.hid hSd
      have Hnl := Lib.hid hnl'
      have Hnd := Lib.hid hnd'
      have hd1 := hSd.hcap
      have hd2 := hSd.hmax
      have hl1 := hSl.hcap
      have hl2 := hSl.hmax
      unfold maxLen at hd2 hl2
      clear ht ho1 ho2 hds hb hoL hoD hSl hSd hnl' hnd' hw1 HS Hk1 HOl HOd HB hlt
      go_wp2_with fail
      go_loopw [11, 61] (fun v11 i wr => ∃ k : Nat, k ≤ nd ∧ i = .int .i64 k ∧ Hid (OwnN wr w1.heap.size v11 (RF.take k)) ∧ Hid (Below w1.heap.size w1 wr)) (fun _ i _ => nd - (intOf i).toNat)
      case atStart => exact ⟨0, Nat.zero_le _, rfl, OwnN.nil _ _, Below.refl _ _⟩
      case round =>
        obtain ⟨i, hi, rfl, ho, hb⟩ := hrel
        obtain ⟨wq, rfl⟩ : ∃ wq : World, wq = wr := ⟨_, rfl⟩
        by_cases hlt : i < nd
        · skip
          have hir : i < RF.length := by have := HRl.out; omega
          have HSel := Lib.hid (HselF.out i hir)
          have htk : RF.take (i + 1) = RF.take i ++ [RF[i]] := List.take_succ_eq_append_getElem hir
          have hXl : (RF.take i).length = i := by rw [List.length_take]; omega
          obtain ⟨r, hr⟩ : ∃ r, RF[i] = r := ⟨_, rfl⟩
          obtain ⟨X, hX⟩ : ∃ X, RF.take i = X := ⟨_, rfl⟩
          rw [hr, hX] at HSel htk
          rw [hX] at ho hXl
          have Htk := Lib.hid htk
          have HXl := Lib.hid hXl
          obtain ⟨ro, rc, rfl, hSr⟩ := OwnN.reads ho.out
          have hrc := hSr.hcap
          rw [hXl] at ho hSr hrc ⊢
          have HIn : Hid (∀ (W : World) s, Below wq.heap.size wq W → Calls Tryd.prog 22 #[.slice ro i rc, .string s] W fun e w' => e = .returned (.bool (inB X s)) ∧ Below W.heap.size W w') := fun W s hW => in16_any X ro i rc s W (hSr.flatKeeps (Keeps.below hW))
          have hsq := hb.out.size
          have hcmx := hSr.hmax
          unfold maxLen at hcmx
          clear hir htk hXl hr hX hSr
          go_wp2_with fail
          go_loopw [12, 65] (fun v12 j wr => ∃ k : Nat, k ≤ nd ∧ j = .int .i64 k ∧ v12 = .string (optN (selBest lessN (fun s => !inB X s) ((DV.map ObI.nm).take k))) ∧ Hid (Below wq.heap.size wq wr)) (fun _ i _ => nd - (intOf i).toNat)
          case atStart => exact ⟨0, Nat.zero_le _, rfl, rfl, Below.refl _ _⟩
          case round =>
            obtain ⟨k, hk2, rfl, rfl, hb2⟩ := hrel
            obtain ⟨wp, rfl⟩ : ∃ wp : World, wp = wr := ⟨_, rfl⟩
            by_cases hlt2 : k < nd
            · skip
              have hS2 := HSd.out.flatKeeps (Keeps.below (hb.out.trans (hb2.out.mono hsq)))
              obtain ⟨b0, off, rfl⟩ := hS2.ptr (by decide) (by omega)
              have kx : k < DV.length := by have := Hnd.out; omega
              have kn : k < (DV.map ObI.nm).length := by rw [List.length_map]; exact kx
              have hcl := hS2.flat kx
              have hst := selBest_take lessN (fun s => !inB X s) (DV.map ObI.nm) kn
              rw [List.getElem_map] at hst
              have hbz : ∀ z, selBest lessN (fun s => !inB X s) ((DV.map ObI.nm).take k) = some z → z.size ≠ 0 := fun z hz => by
                rcases selBest_mem _ _ _ _ _ hz with e | e
                · cases e
                · obtain ⟨y, hy, rfl⟩ := List.mem_map.1 (List.mem_of_mem_take e)
                  exact Hd0.out y hy
              obtain ⟨y, hy⟩ : ∃ y, DV[k] = y := ⟨_, rfl⟩
              rw [hy] at hcl hst
              obtain ⟨Wy, hWy⟩ : ∃ W, wp.alloc (.cells y.cells.toArray 44) = W := ⟨_, rfl⟩
              obtain ⟨bo, hbo⟩ : ∃ bo, wp.heap.size = bo := ⟨_, rfl⟩
              have hbW : Below wp.heap.size wp Wy := by rw [← hWy]; exact (Below.refl _ _).alloc (Nat.le_refl _) _
              have k1 : Wy.cell? ⟨bo, 1, none⟩ = some (.string y.nm) := by rw [← hWy, ← hbo]; exact ob_new wp y _ 1 _ y.h1
              have hsp := hb2.out.size
              have HbW : Hid (Below wq.heap.size wq Wy) := hb2.out.trans (hbW.mono hsp)
              have hsW := HbW.out.size
              have hbolt : bo < Wy.heap.size := by rw [← hbo, ← hWy, World.size_alloc]; omega
              obtain ⟨b, hbe⟩ : ∃ b, selBest lessN (fun s => !inB X s) ((DV.map ObI.nm).take k) = b := ⟨_, rfl⟩
              rw [hbe] at hst hbz ⊢
              have hgo := optN_step X b y.nm hbz
              have hno := optN_keep X b y.nm hbz
              rw [← hst] at hgo hno
              obtain ⟨yn, hyn⟩ : ∃ c, y.nm = c := ⟨_, rfl⟩
              obtain ⟨yc, hyc⟩ : ∃ c, y.cells = c := ⟨_, rfl⟩
              have hycl : yc.length = 47 := by rw [← hyc]; rfl
              have hyo : yc.all (fun u => u.oneCell') = true := by rw [← hyc]; exact y.one
              rw [hyc] at hcl hWy
              rw [hyn] at k1 hgo hno
              have HInY := Lib.hid (HIn.out Wy yn HbW.out)
              obtain ⟨bs, hbs⟩ : ∃ c, optN b = c := ⟨_, rfl⟩
              rw [hbs] at hgo hno ⊢
              obtain ⟨q1, hq1⟩ : ∃ q, inB X yn = q := ⟨_, rfl⟩
              obtain ⟨q2, hq2⟩ : ∃ q, (bs.toList == (⟨#[]⟩ : ByteArray).toList) = q := ⟨_, rfl⟩
              obtain ⟨q3, hq3⟩ : ∃ q, Op.bytesLess yn.toList bs.toList = q := ⟨_, rfl⟩
              rw [hq1, hq2, hq3] at hgo hno
              rw [hq1] at HInY
              have Hgo := Lib.hid hgo
              have Hno := Lib.hid hno
              have Hcl := Lib.hid hcl
              have Hbs := Lib.hid hbs
              have Hbo := Lib.hid hbo
              have Hk1 := Lib.hid k1
              clear hcl hS2 hst hbz hy hbW hyn hyc hbe hgo hno hbs hq1 hbo
              go_wp2_with (first
                | ((with_reducible refine at_slot 68 ?_); go_must (refine wpList_load_at aggObI rfl _ rfl ⟨b0, off + k * 47, none⟩ rfl yc hycl (fun j u hu => by rw [Addr.add_lit]; exact Hcl.out j u hu) ?_))
                | ((with_reducible refine at_slot 14 ?_); go_must (refine wpList_var aggObI rfl rfl rfl _ _ rfl rfl yc.toArray rfl rfl (by simp [hycl]) (by simpa using hyo) ?_; rw [hWy]; rw [Hbo.out])))
              refine HInY.out.mono ?_
              rintro e w6 ⟨rfl, hb6⟩
              have k1' : w6.cell? ⟨bo, 1, none⟩ = some (.string yn) := Below.cell_some hb6 Hk1.out
              have HB6 : Hid (Below wq.heap.size wq w6) := HbW.out.trans (hb6.mono hsW)
              clear hb6 k1
              cases q1
              · cases q2
                · obtain ⟨hne1, hne2⟩ := emptyN hq2
                  clear hq2
                  cases q3
                  · have hv : Hid (Value.string (optN (selBest lessN (fun s => !inB X s) ((DV.map ObI.nm).take (k + 1)))) = .string bs) := by show _ = _; rw [Hno.out rfl, Hbs.out]
                    go_wp2_with fail
                    go_roundw
                    case rel => exact ⟨k + 1, by omega, by go_num, hv.out.symm, HB6.out⟩
                    case measure => simp [intOf]; omega
                  · have hv : Hid (Value.string (optN (selBest lessN (fun s => !inB X s) ((DV.map ObI.nm).take (k + 1)))) = .string yn) := by show _ = _; rw [Hgo.out rfl]; rfl
                    go_wp2_with fail
                    go_roundw
                    case rel => exact ⟨k + 1, by omega, by go_num, hv.out.symm, HB6.out⟩
                    case measure => simp [intOf]; omega
                · have heq := emptyB hq2
                  clear hq2 hq3
                  have hv : Hid (Value.string (optN (selBest lessN (fun s => !inB X s) ((DV.map ObI.nm).take (k + 1)))) = .string yn) := by show _ = _; rw [Hgo.out rfl]; rfl
                  go_wp2_with fail
                  go_roundw
                  case rel => exact ⟨k + 1, by omega, by go_num, hv.out.symm, HB6.out⟩
                  case measure => simp [intOf]; omega
              · have hv : Hid (Value.string (optN (selBest lessN (fun s => !inB X s) ((DV.map ObI.nm).take (k + 1)))) = .string bs) := by show _ = _; rw [Hno.out rfl, Hbs.out]
                go_wp2_with fail
                go_roundw
                case rel => exact ⟨k + 1, by omega, by go_num, hv.out.symm, HB6.out⟩
                case measure => simp [intOf]; omega
            · obtain rfl : k = nd := by omega
              have ht : (DV.map ObI.nm).take k = DV.map ObI.nm := List.take_of_length_le (by rw [List.length_map]; have := Hnd.out; omega)
              rw [ht, HSel.out]
              have hop : optN (some r) = r := rfl
              rw [hop]
              have hb3 : Below w1.heap.size w1 wp := hb.out.trans (hb2.out.mono hsq)
              have HOx : Hid (wp.ownsRow w1.heap.size 9 1 (.slice ro i rc) i (X.flatMap cN)) := by
                have h : OwnN wp w1.heap.size (.slice ro i rc) X := owns_fr (Fr.of_below hb2.out (fun _ => False)) ho.out (fun _ _ h => h)
                unfold OwnN at h
                rwa [HXl.out] at h
              have HB3 := Lib.hid hb3
              have hs3 := hb3.size
              clear ht hop hb3 ho hb hb2 HIn
              go_wp2_with ((with_reducible refine at_slot 89 ?_); go_must (refine wpList_buildSlice rfl 51 1 [(0, _)] rfl [(0, .string r)] rfl _ _ (oneName r) ?_; refine wpList_append_new elemName rfl _ _ rfl w1.heap.size _ i (X.flatMap cN) rfl (HOx.out.alloc _) (by simp; omega) _ _ rfl (heap_alloc_new _ _) rfl rfl (by unfold maxLen; omega) (by omega) ?_; intro g' cap' w' ho' hg' hn'; have HO' := Lib.hid ho'; have HG' := Lib.hid hg'; clear ho' hg' hn'))
              have hB9 : Hid (Below w1.heap.size w1 w') := (HB3.out.alloc hs3 _).grown HG'.out (by simp; omega) (fun q hq => (World.ownsRow.lt HOx.out q hq).1)
              have O9 : Hid (OwnN w' w1.heap.size (.slice (some ⟨g', 0, none⟩) (i + 1) cap') (X ++ [r])) := by
                have := HO'.out
                rw [← HXl.out] at this
                have := OwnN.first this
                rwa [HXl.out] at this
              go_roundw
              case rel => exact ⟨i + 1, by omega, by go_num, by rw [Htk.out]; exact O9, hB9⟩
              case measure => simp [intOf]; omega
        · obtain rfl : i = nd := by omega
          have ht : RF.take i = RF := List.take_of_length_le (by rw [HRl.out]; omega)
          rw [ht] at ho
          obtain ⟨w2, hw2⟩ : ∃ w2 : World, w2 = wq := ⟨_, rfl⟩
          rw [← hw2] at ho hb ⊢
          obtain ⟨ro, rc, rfl, hSr⟩ := OwnN.reads ho.out
          rw [HRl.out] at ho hSr ⊢
          have HSr := Lib.hid hSr
          have hrc := hSr.hcap
          have hrm := hSr.hmax
          unfold maxLen at hrm
          have HO2 := ho
          have HB2 := hb
          have hz2 := hb.out.size
          clear ht ho hb hw2 hSr hlt HselF Hd0 HSd
          go_upto_block 6 with (first
            | ((with_reducible refine at_slot 92 ?_); go_must (refine wpList_buildSlice rfl 51 0 _ rfl [] rfl _ _ zeroNames ?_))
            | ((with_reducible refine at_slot 94 ?_); go_must (refine wpList_append_slr elemName rfl _ _ rfl w2.heap.size _ 0 [] rfl (World.ownsRow_made w2 _ 0 (Nat.le_refl _) (by decide) rfl) (by rw [World.size_alloc]; omega) (f := cN) (fun _ => rfl) ro i rc RF rfl (HSr.out.flatKeeps (Keeps.below ((Below.refl w2.heap.size w2).alloc (Nat.le_refl _) (.cells #[] 9)))) (fun y u hu => by simp only [cN, List.mem_singleton] at hu; subst hu; rfl) (by unfold maxLen; omega) (by omega) ?_; intro v15 w3 ho3 hg3; have HO3 := Lib.hid ho3; have HG3 := Lib.hid hg3; clear ho3 hg3)))
          have HG : Hid (OwnN w3 w2.heap.size v15 RF) := by
            have h := HO3.out
            rw [Nat.zero_add, List.nil_append] at h
            show OwnN _ _ _ _
            unfold OwnN
            rw [HRl.out]
            exact h
          have hb23 : Below w2.heap.size w2 w3 := ((Below.refl _ w2).alloc (Nat.le_refl _) _).grown HG3.out (by rw [World.size_alloc]; omega) (fun k hk => by cases hk; exact Nat.le_refl _)
          have HR3 : Hid (OwnN w3 w1.heap.size (.slice ro i rc) RF) := owns_fr (Fr.of_below hb23 (fun _ => False)) HO2.out (fun _ _ h => h)
          have HDis : Hid (Dis (.slice ro i rc) v15) := fun g h1 h2 => by
            have a := (World.ownsRow.lt HO2.out g h1).2
            have b := (World.ownsRow.lt HG.out g h2).1
            omega
          have HB3 : Hid (Below w1.heap.size w1 w3) := HB2.out.trans (hb23.mono hz2)
          obtain ⟨T, hT⟩ : ∃ T, (min ((nl : Int) - rep) 16).toNat = T := ⟨_, rfl⟩
          rw [hT] at HR
          have hT16 : T ≤ 16 := by omega
          have hTn : T ≤ nl := by omega
          have HTt : Hid (∀ t : Nat, t ≤ T → (t < T ↔ ((nl : Int) - t > rep ∧ t < 16))) := fun t h => by omega
          clear hT HO2 HB2 HO3 HG3 HSr hb23 hrc hrm
          go_cut [11] from 97 to 144 (fun v11 wx => Hid (OwnN wx w1.heap.size v11 (RF ++ (S.take T).map ObI.nm)) ∧ Hid (OwnN wx w2.heap.size v15 RF) ∧ Hid (Below w1.heap.size w1 wx))
          case first =>
            go_wp2_with fail
            go_loopw [11, 16] (fun v11 v16 wr => ∃ t : Nat, t ≤ T ∧ v16 = .int .i64 ((nl : Int) - t) ∧ Hid (OwnN wr w1.heap.size v11 (RF ++ (S.take t).map ObI.nm)) ∧ Hid (OwnN wr w2.heap.size v15 RF) ∧ Hid (Dis v11 v15) ∧ Hid (Below w1.heap.size w1 wr)) (fun _ v16 _ => (intOf v16).toNat)
            case atStart => exact ⟨0, Nat.zero_le _, by go_num, (by show OwnN _ _ _ _; simpa using HR3.out), HG.out, HDis.out, HB3.out⟩
            case round =>
              obtain ⟨t, htT, rfl, ho, hg, hds, hb⟩ := hrel
              obtain ⟨wq, rfl⟩ : ∃ wq : World, wq = wr := ⟨_, rfl⟩
              have hnn0 := HTt.out t htT
              obtain ⟨nn, hnn⟩ : ∃ nn : Int, (nl : Int) - t = nn := ⟨_, rfl⟩
              rw [hnn] at hnn0 ⊢
              have hn0 : 0 ≤ nn ∧ nn ≤ 1000 := by omega
              have xr : wq.cell? ⟨N, 3, none⟩ = some (.int .i64 rep) := Below.cell_some hb.out HX3.out
              have Hnn := Lib.hid hnn
              by_cases htl : t < T
              · skip
                have hn1 : 1 ≤ nn := by have := (hnn0.1 htl).1; omega
                have hd1 : decide (nn > rep) = true := decide_eq_true (hnn0.1 htl).1
                have hd2 : decide ((nl : Int) - nn < 16) = true := decide_eq_true (by have := (hnn0.1 htl).2; omega)
                have hts : t < S.length := by have := HSl.out; omega
                have HSel := Lib.hid (HselL.out t hts)
                have htk : RF ++ (S.take (t + 1)).map ObI.nm = (RF ++ (S.take t).map ObI.nm) ++ [S[t].nm] := by rw [List.take_succ_eq_append_getElem hts, List.map_append, List.append_assoc]; rfl
                have hXl : (RF ++ (S.take t).map ObI.nm).length = i + t := by rw [List.length_append, List.length_map, List.length_take, HRl.out]; omega
                obtain ⟨s, hs⟩ : ∃ s, S[t] = s := ⟨_, rfl⟩
                obtain ⟨X, hX⟩ : ∃ X, RF ++ (S.take t).map ObI.nm = X := ⟨_, rfl⟩
                obtain ⟨m, hm⟩ : ∃ m, i + t = m := ⟨_, rfl⟩
                rw [hs, hX] at HSel htk
                rw [hX] at ho hXl
                rw [hm] at hXl
                have Htk := Lib.hid htk
                have HXl := Lib.hid hXl
                have hmle : m ≤ 1016 := by omega
                obtain ⟨ro', rc', rfl, hSr⟩ := OwnN.reads ho.out
                have hrc := hSr.hcap
                have hcmx := hSr.hmax
                unfold maxLen at hcmx
                rw [hXl] at ho hSr hrc hds ⊢
                have HIn : Hid (∀ (W : World) s, Below wq.heap.size wq W → Calls Tryd.prog 22 #[.slice ro' m rc', .string s] W fun e w' => e = .returned (.bool (inB X s)) ∧ Below W.heap.size W w') := fun W s hW => in16_any X ro' m rc' s W (hSr.flatKeeps (Keeps.below hW))
                have hsq := hb.out.size
                have Hm := Lib.hid hm
                clear hts htk hXl hs hX hm hSr hnn hnn0
                go_wp2_with fail
                go_loopw [17, 113] (fun v17 j wr => ∃ k : Nat, k ≤ nl ∧ j = .int .i64 k ∧ ∃ bi : Int, v17 = .int .i64 bi ∧ Hid (BstI (fun y => !inB X y.nm) LV k bi) ∧ Hid (Below wq.heap.size wq wr)) (fun _ i _ => nl - (intOf i).toNat)
                case atStart => exact ⟨0, Nat.zero_le _, rfl, -1, rfl, .inl ⟨rfl, rfl⟩, Below.refl _ _⟩
                case round =>
                  obtain ⟨k, hk2, rfl, bi, rfl, hbst, hb2⟩ := hrel
                  obtain ⟨wp, rfl⟩ : ∃ wp : World, wp = wr := ⟨_, rfl⟩
                  by_cases hlt2 : k < nl
                  · skip
                    have hS2 := HSl'.out.flatKeeps (Keeps.below (hb.out.trans (hb2.out.mono hsq)))
                    obtain ⟨b0, off, rfl⟩ := hS2.ptr (by decide) (by omega)
                    have kx : k < LV.length := by have := Hnl.out; omega
                    have hcl := hS2.flat kx
                    have hst := selBest_take soonI (fun y => !inB X y.nm) LV kx
                    have hyp := Hph.out _ (List.getElem_mem kx)
                    have hnew := fun e => BstI.new (ok := fun y => !inB X y.nm) kx e
                    obtain ⟨y, hy⟩ : ∃ y, LV[k] = y := ⟨_, rfl⟩
                    rw [hy] at hcl hst hyp hnew
                    obtain ⟨Wy, hWy⟩ : ∃ W, wp.alloc (.cells y.cells.toArray 44) = W := ⟨_, rfl⟩
                    obtain ⟨bo, hbo⟩ : ∃ bo, wp.heap.size = bo := ⟨_, rfl⟩
                    have hbW : Below wp.heap.size wp Wy := by rw [← hWy]; exact (Below.refl _ _).alloc (Nat.le_refl _) _
                    have k1 : Wy.cell? ⟨bo, 1, none⟩ = some (.string y.nm) := by rw [← hWy, ← hbo]; exact ob_new wp y _ 1 _ y.h1
                    have hde : ∀ t u, y.cells[t]? = some u → Wy.cell? (Addr.add ⟨bo, 0, none⟩ t) = some u := fun t u hu => by rw [← hWy, ← hbo, Addr.add_lit, Nat.zero_add]; exact ob_new wp y _ t u hu
                    have hsp := hb2.out.size
                    have HbW : Hid (Below wq.heap.size wq Wy) := hb2.out.trans (hbW.mono hsp)
                    have hsW := HbW.out.size
                    have hSW := HSl'.out.flatKeeps (Keeps.below (hb.out.trans (HbW.out.mono hsq)))
                    have hsn : ∀ z : ObI, 0 ≤ z.o.p.phase ∧ z.o.p.phase ≤ 2 → ∀ W, Calls Tryd.prog 23 #[.agg y.cells.toArray, .agg z.cells.toArray] W fun e w' => e = .returned (.bool (soonI y z)) ∧ Below W.heap.size W w' := fun z hz W => sooner_any y.ov z.ov hyp hz W
                    have HInY : Hid (∀ W : World, Below Wy.heap.size Wy W → Calls Tryd.prog 22 #[.slice ro' m rc', .string y.nm] W fun e w' => e = .returned (.bool (inB X y.nm)) ∧ Below W.heap.size W w') := fun W hW => HIn.out W y.nm (HbW.out.trans (hW.mono hsW))
                    obtain ⟨q1, hq1⟩ : ∃ q, inB X y.nm = q := ⟨_, rfl⟩
                    have hok : (fun y : ObI => !inB X y.nm) y = !q1 := by show (!inB X y.nm) = _; rw [hq1]
                    rw [hq1] at HInY
                    obtain ⟨yn, hyn⟩ : ∃ c, y.nm = c := ⟨_, rfl⟩
                    obtain ⟨yc, hyc⟩ : ∃ c, y.cells = c := ⟨_, rfl⟩
                    have hycl : yc.length = 47 := by rw [← hyc]; rfl
                    have hyo : yc.all (fun u => u.oneCell') = true := by rw [← hyc]; exact y.one
                    rw [hyc] at hcl hWy hde hsn
                    rw [hyn] at k1 HInY
                    have Hcl := Lib.hid hcl
                    have Hst := Lib.hid hst
                    have Hok := Lib.hid hok
                    have Hsn := Lib.hid hsn
                    have Hnew := Lib.hid hnew
                    have Hbo := Lib.hid hbo
                    have HSW := Lib.hid hSW
                    replace k1 := BW.cell k1
                    replace hde := BW.cells hde
                    clear hcl hS2 hst hy hbW hyn hyc hok hsn hbo hyp hq1 hnew hSW
                    cases q1
                    · rcases hbst.out with ⟨rfl, hno⟩ | ⟨j, hj, hjk, rfl, hbe⟩
                      · skip
                        have hv : Hid (selBest soonI (fun y => !inB X y.nm) (LV.take (k + 1)) = some y) := by
                          show _ = _
                          rw [Hst.out, hno]
                          exact selStep_none (lt := soonI) (ok := fun y => !inB X y.nm) (o := y) Hok.out
                        go_upto_region 30 with (first
                          | ((with_reducible refine at_slot 117 ?_); go_must (refine wpList_load_at aggObI rfl _ rfl ⟨b0, off + k * 47, none⟩ rfl yc hycl (fun j u hu => by rw [Addr.add_lit]; exact Hcl.out j u hu) ?_))
                          | ((with_reducible refine at_store 19 ?_); go_must (refine wpList_store_new aggObI rfl _ _ rfl rfl wp _ yc.toArray rfl rfl rfl (by simp [hycl]) (by simpa using hyo) ?_; rw [hWy]; rw [Hbo.out])))
                        refine wp_region_head_lit 16 (fun w' => ∃ p : BW Wy, w' = p.w') (by kernel_rfl) (by kernel_rfl) ⟨⟨{ Wy with drawn := Wy.drawn + 1 }, ⟨rfl, rfl, rfl, Nat.le_refl _, fun _ _ => rfl⟩⟩, rfl⟩ ?_
                        simp only [List.take_succ_cons, List.take_zero, List.drop_succ_cons, List.drop_zero]
                        repeat (quiet_step (first | (go_at_call 22; with_reducible exact BW.call _ (HInY.out _ (BW.h _))) | exact rfl))
                        refine wpQuiet_nil ?_
                        intro w5 hw'
                        obtain ⟨⟨_, hb5⟩, e5⟩ := hw'
                        dsimp only at e5
                        subst e5
                        have Hb5 := Lib.hid (HbW.out.trans (hb5.mono hsW))
                        clear hb5 hde k1
                        go_wp2_with fail
                        go_roundw
                        case rel => exact ⟨k + 1, by omega, by go_num, _, rfl, Hnew.out hv.out, Hb5.out⟩
                        case measure => simp [intOf]; omega
                      · skip
                        have hce0 := HSW.out.flat hj
                        have hzp := Hph.out _ (List.getElem_mem hj)
                        have hst2 := Hst.out
                        rw [hbe, selStep_some (lt := soonI) (ok := fun y => !inB X y.nm) (x := LV[j]) (o := y) Hok.out] at hst2
                        obtain ⟨z, hz⟩ : ∃ z, LV[j] = z := ⟨_, rfl⟩
                        rw [hz] at hce0 hzp hst2 hbe
                        have hsn2 := Hsn.out z hzp
                        obtain ⟨zc, hzc⟩ : ∃ c, z.cells = c := ⟨_, rfl⟩
                        have hzcl : zc.length = 47 := by rw [← hzc]; rfl
                        rw [hzc] at hce0 hsn2
                        obtain ⟨sb, hsb⟩ : ∃ q, soonI y z = q := ⟨_, rfl⟩
                        rw [hsb] at hsn2 hst2
                        have ce : ∀ t u, zc[t]? = some u → Wy.cell? (Addr.add ⟨b0, off + j * 47, none⟩ t) = some u := fun t u hu => by rw [Addr.add_lit]; exact hce0 t u hu
                        replace ce := BW.cells ce
                        have HSn := Lib.hid hsn2
                        have Hst2 := Lib.hid hst2
                        have Hbe := Lib.hid hbe
                        have hjn : j < nl := by omega
                        have hj0 : decide ((j : Int) < 0) = false := decide_eq_false (by omega)
                        clear hce0 hzp hst2 hsn2 hz hzc hsb hbe hj
                        go_upto_region 30 with (first
                          | ((with_reducible refine at_slot 117 ?_); go_must (refine wpList_load_at aggObI rfl _ rfl ⟨b0, off + k * 47, none⟩ rfl yc hycl (fun j u hu => by rw [Addr.add_lit]; exact Hcl.out j u hu) ?_))
                          | ((with_reducible refine at_store 19 ?_); go_must (refine wpList_store_new aggObI rfl _ _ rfl rfl wp _ yc.toArray rfl rfl rfl (by simp [hycl]) (by simpa using hyo) ?_; rw [hWy]; rw [Hbo.out])))
                        refine wp_region_head_lit 16 (fun w' => ∃ p : BW Wy, w' = p.w') (by kernel_rfl) (by kernel_rfl) ⟨⟨{ Wy with drawn := Wy.drawn + 1 }, ⟨rfl, rfl, rfl, Nat.le_refl _, fun _ _ => rfl⟩⟩, rfl⟩ ?_
                        simp only [List.take_succ_cons, List.take_zero, List.drop_succ_cons, List.drop_zero]
                        repeat (first | (refine wpQuiet_load aggObI rfl _ rfl ⟨b0, off + j * 47, none⟩ rfl zc hzcl (by rintro _ ⟨bw, rfl⟩; exact ce bw) ?_) | (refine wpQuiet_load aggObI rfl _ rfl ⟨bo, 0, none⟩ rfl yc hycl (by rintro _ ⟨bw, rfl⟩; exact hde bw) ?_) | quiet_step (first | (go_at_call 22; with_reducible exact BW.call _ (HInY.out _ (BW.h _))) | (go_at_call 23; with_reducible exact BW.call _ (HSn.out _)) | exact rfl))
                        refine wpQuiet_nil ?_
                        intro w5 hw'
                        obtain ⟨⟨_, hb5⟩, e5⟩ := hw'
                        dsimp only at e5
                        subst e5
                        have Hb5 := Lib.hid (HbW.out.trans (hb5.mono hsW))
                        clear hb5 hde k1 ce
                        cases sb
                        · have hv : Hid (selBest soonI (fun y => !inB X y.nm) (LV.take (k + 1)) = selBest soonI (fun y => !inB X y.nm) (LV.take k)) := Hst2.out.trans ((if_neg (by decide)).trans Hbe.out.symm)
                          go_wp2_with fail
                          go_roundw
                          case rel => exact ⟨k + 1, by omega, by go_num, _, rfl, hbst.out.keep hv.out, Hb5.out⟩
                          case measure => simp [intOf]; omega
                        · have hv : Hid (selBest soonI (fun y => !inB X y.nm) (LV.take (k + 1)) = some y) := Hst2.out.trans (if_pos rfl)
                          go_wp2_with fail
                          go_roundw
                          case rel => exact ⟨k + 1, by omega, by go_num, _, rfl, Hnew.out hv.out, Hb5.out⟩
                          case measure => simp [intOf]; omega
                    · skip
                      have hv : Hid (selBest soonI (fun y => !inB X y.nm) (LV.take (k + 1)) = selBest soonI (fun y => !inB X y.nm) (LV.take k)) := Hst.out.trans (selStep_no (lt := soonI) (ok := fun y => !inB X y.nm) (o := y) Hok.out)
                      go_upto_region 30 with (first
                        | ((with_reducible refine at_slot 117 ?_); go_must (refine wpList_load_at aggObI rfl _ rfl ⟨b0, off + k * 47, none⟩ rfl yc hycl (fun j u hu => by rw [Addr.add_lit]; exact Hcl.out j u hu) ?_))
                        | ((with_reducible refine at_store 19 ?_); go_must (refine wpList_store_new aggObI rfl _ _ rfl rfl wp _ yc.toArray rfl rfl rfl (by simp [hycl]) (by simpa using hyo) ?_; rw [hWy]; rw [Hbo.out])))
                      refine wp_region_head_lit 16 (fun w' => ∃ p : BW Wy, w' = p.w') (by kernel_rfl) (by kernel_rfl) ⟨⟨{ Wy with drawn := Wy.drawn + 1 }, ⟨rfl, rfl, rfl, Nat.le_refl _, fun _ _ => rfl⟩⟩, rfl⟩ ?_
                      simp only [List.take_succ_cons, List.take_zero, List.drop_succ_cons, List.drop_zero]
                      repeat (quiet_step (first | (go_at_call 22; with_reducible exact BW.call _ (HInY.out _ (BW.h _))) | exact rfl))
                      refine wpQuiet_nil ?_
                      intro w5 hw'
                      obtain ⟨⟨_, hb5⟩, e5⟩ := hw'
                      dsimp only at e5
                      subst e5
                      have Hb5 := Lib.hid (HbW.out.trans (hb5.mono hsW))
                      clear hb5 hde k1
                      go_wp2_with fail
                      go_roundw
                      case rel => exact ⟨k + 1, by omega, by go_num, _, rfl, hbst.out.keep hv.out, Hb5.out⟩
                      case measure => simp [intOf]; omega
                  · obtain rfl : k = nl := by omega
                    have ht : LV.take k = LV := List.take_of_length_le (by have := Hnl.out; omega)
                    have hbst2 := hbst.out
                    unfold BstI at hbst2
                    rw [ht, HSel.out] at hbst2
                    rcases hbst2 with ⟨_, h⟩ | ⟨j, hj, hjk, rfl, hbe⟩
                    · cases h
                    · have hS2 := HSl'.out.flatKeeps (Keeps.below (hb.out.trans (hb2.out.mono hsq)))
                      obtain ⟨b0, off, rfl⟩ := hS2.ptr (by decide) (by omega)
                      have hcl := hS2.flat hj
                      rw [← Option.some.inj hbe] at hcl
                      have c1 := hcl 1 _ s.h1
                      obtain ⟨sn, hsn⟩ : ∃ c, s.nm = c := ⟨_, rfl⟩
                      rw [hsn] at c1 Htk
                      have hb3 : Below w1.heap.size w1 wp := hb.out.trans (hb2.out.mono hsq)
                      have HOx : Hid (wp.ownsRow w1.heap.size 9 1 (.slice ro' m rc') m (X.flatMap cN)) := by
                        have h : OwnN wp w1.heap.size (.slice ro' m rc') X := owns_fr (Fr.of_below hb2.out (fun _ => False)) ho.out (fun _ _ h => h)
                        unfold OwnN at h
                        rwa [HXl.out] at h
                      have HGx : Hid (OwnN wp w2.heap.size v15 RF) := owns_fr (Fr.of_below hb2.out (fun _ => False)) hg.out (fun _ _ h => h)
                      have HB4 := Lib.hid hb3
                      have hs3 := hb3.size
                      have hjn : j < k := hjk
                      clear ht hbst hS2 hcl hbe hsn hb3 ho hb hb2 hg HIn hj
                      go_wp2_with ((with_reducible refine at_slot 143 ?_); go_must (refine wpList_buildSlice rfl 51 1 [(0, _)] rfl [(0, .string sn)] rfl _ _ (oneName sn) ?_; refine wpList_append_new elemName rfl _ _ rfl w1.heap.size _ m (X.flatMap cN) rfl (HOx.out.alloc _) (by simp; omega) _ _ rfl (heap_alloc_new _ _) rfl rfl (by unfold maxLen; omega) (by omega) ?_; intro g' cap' w' ho' hg' hn'; have HO' := Lib.hid ho'; have HG' := Lib.hid hg'; have HN' := Lib.hid hn'; clear ho' hg' hn'))
                      have hB9 : Hid (Below w1.heap.size w1 w') := (HB4.out.alloc hs3 _).grown HG'.out (by simp; omega) (fun q hq => (World.ownsRow.lt HOx.out q hq).1)
                      have O9 : Hid (OwnN w' w1.heap.size (.slice (some ⟨g', 0, none⟩) (m + 1) cap') (X ++ [sn])) := by
                        have := HO'.out
                        rw [← HXl.out] at this
                        have := OwnN.first this
                        rwa [HXl.out] at this
                      have N1 := own_nextN (n' := m + 1) (cap' := cap') (HGx.out.alloc (.cells #[.string sn] 9)) hds.out HG'.out (HN'.out.imp id (fun h => by simpa using h))
                      go_roundw
                      case rel => exact ⟨t + 1, by omega, by have := Hnn.out; congr 1; omega, by rw [Htk.out]; exact O9, N1.1, N1.2, hB9⟩
                      case measure => simp [intOf]; omega
              · obtain rfl : t = T := by omega
                by_cases hd : nn > rep
                · have hd1 : decide (nn > rep) = true := decide_eq_true hd
                  have hd2 : decide ((nl : Int) - nn < 16) = false := decide_eq_false (fun h => htl (hnn0.2 ⟨hd, by omega⟩))
                  clear hd hnn0
                  go_wp2_with fail
                  go_meet
                  case rel => exact ⟨ho, hg, hb⟩
                · have hd1 : decide (nn > rep) = false := decide_eq_false hd
                  clear hd hnn0
                  go_wp2_with fail
                  go_meet
                  case rel => exact ⟨ho, hg, hb⟩
          case rest =>
            obtain ⟨hoR, hoG, hb⟩ := hcut
            obtain ⟨w4, rfl⟩ : ∃ w4 : World, w4 = wc := ⟨_, rfl⟩
            rw [← HR.out] at hoR
            obtain ⟨go, gc, rfl, hSg⟩ := OwnN.reads hoG.out
            rw [HRl.out] at hSg ⊢
            have HB4 : Hid (Below N w w4) := HB1.out.trans (hb.out.mono (by omega))
            have hx1 : w4.cell? ⟨N, 1, none⟩ = some (.string xn) := Below.cell_some hb.out HX1.out
            have hx3 : w4.cell? ⟨N, 3, none⟩ = some (.int .i64 rep) := Below.cell_some hb.out HX3.out
            have HX1 := Lib.hid hx1
            have HX3 := Lib.hid hx3
            have HIn : Hid (∀ (W : World) s, Below w4.heap.size w4 W → Calls Tryd.prog 22 #[.slice go i gc, .string s] W fun e w' => e = .returned (.bool (inB RF s)) ∧ Below W.heap.size W w') := fun W s hW => in16_any RF go i gc s W (hSg.flatKeeps (Keeps.below hW))
            have hz4 : N + 1 ≤ w4.heap.size := by have := hb.out.size; omega
            have hgc := hSg.hcap
            have hgm := hSg.hmax
            unfold maxLen at hgm
            have HRw := hoR
            have hBR : Hid (w1.heap.size ≤ w4.heap.size) := hb.out.size
            obtain ⟨MM, hMM⟩ : ∃ m, min (rep - (nl : Int)) 16 = m := ⟨_, rfl⟩
            rw [hMM] at HC
            obtain ⟨m, hm⟩ : ∃ m, MM.toNat = m := ⟨_, rfl⟩
            have hm16 : m ≤ 16 := by omega
            have HMx : Hid (∀ x : Nat, (x < m ↔ (x < 16 ∧ (nl : Int) + x < rep))) := fun x => by omega
            obtain ⟨A, hAe⟩ : ∃ A, takenL RF l = A := ⟨_, rfl⟩
            rw [hAe] at HC
            have HgB : Hid (∀ nm, gB A nm = takB RF l nm) := fun nm => by rw [← hAe]; exact takB_gB RF l nm
            have HWy : Hid (pnOk xn = true → wantL xn A MM = freeN (podNm xn) (gB A) m 10000) := fun h => by rw [wantL_yes h, hm]
            have HWn : Hid (pnOk xn = false → wantL xn A MM = []) := fun h => wantL_no h A MM
            clear hoR hoG hSg hb hx1 hx3 hMM hm hAe HselL HSl Hph HSl' Hnl HTt hT16 hTn HG HR3 HDis HB3
            go_wp2_with fail
            go_loopw [10, 20] (fun v10 v20 wr => ∃ K : Nat, K ≤ 10000 ∧ v20 = .int .i64 K ∧ Hid (OwnN wr w4.heap.size v10 (if pnOk xn = true then freeN (podNm xn) (gB A) m K else [])) ∧ Hid (Below w4.heap.size w4 wr)) (fun _ i _ => 10000 - (intOf i).toNat)
            case atStart => exact ⟨0, Nat.zero_le _, rfl, own0 (podNm xn) (gB A) m (pnOk xn) _ _, Below.refl _ _⟩
            case round =>
              obtain ⟨K, hK, rfl, ho, hb⟩ := hrel
              obtain ⟨wq, rfl⟩ : ∃ wq : World, wq = wr := ⟨_, rfl⟩
              obtain ⟨co, cc, rfl, hSc⟩ := OwnN.reads ho.out
              have hle : (if pnOk xn = true then freeN (podNm xn) (gB A) m K else []).length ≤ m := by
                split
                · exact freeN_le _ _ _ _
                · exact Nat.zero_le _
              have HFull : Hid ((if pnOk xn = true then freeN (podNm xn) (gB A) m K else []).length = m ∨ K = 10000 → createR x l = (if pnOk xn = true then freeN (podNm xn) (gB A) m K else [])) := fun h => by
                rw [HC.out]
                by_cases hp : pnOk xn = true
                · rw [if_pos hp] at h ⊢
                  rw [HWy.out hp]
                  rcases h with h | h
                  · have h3 := freeN_full (podNm xn) (gB A) m h (10000 - K)
                    rwa [show K + (10000 - K) = 10000 by omega] at h3
                  · rw [h]
                · rw [if_neg hp, HWn.out (by simpa using hp)]
              have HSuc : Hid ((if pnOk xn = true then freeN (podNm xn) (gB A) m (K + 1) else []) = if pnOk xn = true then freeStep (podNm xn) (gB A) m (if pnOk xn = true then freeN (podNm xn) (gB A) m K else []) K else []) := by
                show _ = _
                by_cases hp : pnOk xn = true
                · simp only [if_pos hp]; exact freeN_succ _ _ _ _
                · simp only [if_neg hp]
              obtain ⟨X, hX⟩ : ∃ X, (if pnOk xn = true then freeN (podNm xn) (gB A) m K else []) = X := ⟨_, rfl⟩
              rw [hX] at hle HFull HSuc ho hSc ⊢
              have HXn : Hid (pnOk xn = false → X = []) := fun h => by rw [← hX, if_neg (by rw [h]; decide)]
              obtain ⟨c, hc⟩ : ∃ x, X.length = x := ⟨_, rfl⟩
              rw [hc] at hle HFull hSc ⊢
              have Hc := Lib.hid hc
              have hsz := hb.out.size
              have hcx := hSc.hcap
              have hcm2 := hSc.hmax
              unfold maxLen at hcm2
              have hmx := HMx.out c
              have xr : wq.cell? ⟨N, 3, none⟩ = some (.int .i64 rep) := Below.cell_some hb.out HX3.out
              have xn1 : wq.cell? ⟨N, 1, none⟩ = some (.string xn) := Below.cell_some hb.out HX1.out
              have HFin : Hid (createR x l = X → OwnN wq N (.slice co c cc) (createR x l) ∧ OwnN wq N u11 (removeR x l S) ∧ Below N w wq) := fun h => by
                rw [h]
                refine ⟨?_, ?_, HB4.out.trans (hb.out.mono (by omega))⟩
                · have h := ho.out
                  rw [hc] at h
                  exact World.ownsRow.mono h (by omega)
                · exact World.ownsRow.mono (owns_fr (Fr.of_below hb.out (fun _ => False)) HRw.out (fun _ _ h => h)) (by omega)
              rw [hc] at ho
              clear hX hc hSc
              by_cases hK1 : K = 10000
              · skip
                have hd1 : decide ((K : Int) < 10000) = false := decide_eq_false (by omega)
                have HF := Lib.hid (HFin.out (HFull.out (.inr hK1)))
                clear hK1 hmx
                go_wp2_with fail
                refine bodyPost_ret (v := .tuple #[.slice co c cc, u11]) (by simp [results, Tryd.results8, go_sem]) rfl ⟨_, u11, rfl, HF.out⟩
              · have hK2 : K < 10000 := by omega
                have hd1 : decide ((K : Int) < 10000) = true := decide_eq_true (by omega)
                by_cases hlt : c < m
                · skip
                  have hd2 : decide ((c : Int) < 16) = true := decide_eq_true (by have := (hmx.1 hlt).1; omega)
                  have hd3 : decide ((nl : Int) + (c : Int) < rep) = true := decide_eq_true (hmx.1 hlt).2
                  have HCall := Lib.hid (HNm.out K hK2 wq (HB4.out.trans (hb.out.mono (by omega))))
                  clear hmx
                  go_wp2_with fail
                  refine HCall.out.mono ?_
                  rintro e w6 ⟨rfl, hb6⟩
                  have HB6 : Hid (Below w4.heap.size w4 w6) := hb.out.trans (hb6.mono hsz)
                  have hs6 := HB6.out.size
                  have HO6 : Hid (OwnN w6 w4.heap.size (.slice co c cc) X) := owns_fr (Fr.of_below hb6 (fun _ => False)) ho.out (fun _ _ h => h)
                  obtain ⟨q, hq⟩ : ∃ q, pnOk xn = q := ⟨_, rfl⟩
                  have Hq := Lib.hid hq
                  clear hb6 hq xr xn1 HFull HFin
                  cases q
                  · skip
                    rw [podRet_no Hq.out]
                    go_wp2_with fail
                    go_loopw [23, 176] (fun v23 j wr => ∃ k : Nat, k ≤ n ∧ j = .int .i64 k ∧ v23 = .bool true ∧ Hid (Below w6.heap.size w6 wr)) (fun _ i _ => n - (intOf i).toNat)
                    case atStart => exact ⟨0, Nat.zero_le _, rfl, rfl, Below.refl _ _⟩
                    case round =>
                      obtain ⟨k, hk2, rfl, rfl, hb2⟩ := hrel
                      obtain ⟨wp, rfl⟩ : ∃ wp : World, wp = wr := ⟨_, rfl⟩
                      have hb3 : Below w4.heap.size w4 wp := HB6.out.trans (hb2.out.mono hs6)
                      by_cases hlt2 : k < n
                      · have hS2 := HSi.out.flatKeeps (Keeps.below (by rw [HN.out]; exact HB4.out.trans (hb3.mono (by omega))))
                        obtain ⟨b0, off, rfl⟩ := hS2.ptr (by decide) (by omega)
                        have kx : k < l.length := by have := Hll.out; omega
                        have hcl := hS2.flat kx
                        obtain ⟨y, hy⟩ : ∃ y, l[k] = y := ⟨_, rfl⟩
                        rw [hy] at hcl
                        obtain ⟨Wy, hWy⟩ : ∃ W, wp.alloc (.cells y.cells.toArray 44) = W := ⟨_, rfl⟩
                        obtain ⟨bo, hbo⟩ : ∃ bo, wp.heap.size = bo := ⟨_, rfl⟩
                        have hbW : Below wp.heap.size wp Wy := by rw [← hWy]; exact (Below.refl _ _).alloc (Nat.le_refl _) _
                        have HbW : Hid (Below w6.heap.size w6 Wy) := hb2.out.trans (hbW.mono hb2.out.size)
                        obtain ⟨yc, hyc⟩ : ∃ c, y.cells = c := ⟨_, rfl⟩
                        have hycl : yc.length = 47 := by rw [← hyc]; rfl
                        have hyo : yc.all (fun u => u.oneCell') = true := by rw [← hyc]; exact y.one
                        rw [hyc] at hcl hWy
                        have Hcl := Lib.hid hcl
                        have Hbo := Lib.hid hbo
                        clear hcl hS2 hy hbW hyc hb3 hbo
                        go_wp2_with (first
                          | ((with_reducible refine at_slot 179 ?_); go_must (refine wpList_load_at aggObI rfl _ rfl ⟨b0, off + k * 47, none⟩ rfl yc hycl (fun j u hu => by rw [Addr.add_lit]; exact Hcl.out j u hu) ?_))
                          | ((with_reducible refine at_slot 25 ?_); go_must (refine wpList_var aggObI rfl rfl rfl _ _ rfl rfl yc.toArray rfl rfl (by simp [hycl]) (by simpa using hyo) ?_; rw [hWy]; rw [Hbo.out])))
                        go_roundw
                        case rel => exact ⟨k + 1, by omega, by go_num, rfl, HbW.out⟩
                        case measure => simp [intOf]; omega
                      · obtain rfl : k = n := by omega
                        have HB7 := Lib.hid hb3
                        have HO7 : Hid (OwnN wp w4.heap.size (.slice co c cc) X) := owns_fr (Fr.of_below hb2.out (fun _ => False)) HO6.out (fun _ _ h => h)
                        have hv : Hid ((if pnOk xn = true then freeN (podNm xn) (gB A) m (K + 1) else []) = X) := by
                          show _ = _
                          rw [if_neg (by rw [Hq.out]; decide), HXn.out Hq.out]
                        clear hb3 hb2
                        go_wp2_with fail
                        go_roundw
                        case rel => exact ⟨K + 1, by omega, by go_num, by rw [hv.out]; exact HO7.out, HB7.out⟩
                        case measure => simp [intOf]; omega
                  · skip
                    rw [podRet_yes Hq.out]
                    obtain ⟨nm, hnm⟩ : ∃ nm, podNm xn K = nm := ⟨_, rfl⟩
                    have HSuc2 : Hid ((if pnOk xn = true then freeN (podNm xn) (gB A) m (K + 1) else []) = if gB A nm = false then X ++ [nm] else X) := by
                      show _ = _
                      rw [HSuc.out, if_pos Hq.out]
                      unfold freeStep
                      rw [hnm, Hc.out]
                      by_cases h : gB A nm = false
                      · rw [if_pos ⟨hlt, h⟩, if_pos h]
                      · rw [if_neg (fun h2 => h h2.2), if_neg h]
                    rw [HgB.out] at HSuc2
                    rw [hnm]
                    clear hnm
                    go_wp2_with fail
                    go_loopw [23, 176] (fun v23 j wr => ∃ k : Nat, k ≤ n ∧ j = .int .i64 k ∧ v23 = .bool (takB RF (l.take k) nm) ∧ Hid (Below w6.heap.size w6 wr)) (fun _ i _ => n - (intOf i).toNat)
                    case atStart => exact ⟨0, Nat.zero_le _, rfl, rfl, Below.refl _ _⟩
                    case round =>
                      obtain ⟨k, hk2, rfl, rfl, hb2⟩ := hrel
                      obtain ⟨wp, rfl⟩ : ∃ wp : World, wp = wr := ⟨_, rfl⟩
                      have hb3 : Below w4.heap.size w4 wp := HB6.out.trans (hb2.out.mono hs6)
                      have hs2 := hb2.out.size
                      by_cases hlt2 : k < n
                      · skip
                        have hS2 := HSi.out.flatKeeps (Keeps.below (by rw [HN.out]; exact HB4.out.trans (hb3.mono (by omega))))
                        obtain ⟨b0, off, rfl⟩ := hS2.ptr (by decide) (by omega)
                        have kx : k < l.length := by have := Hll.out; omega
                        have hcl := hS2.flat kx
                        have hts := takB_succ RF l nm kx
                        obtain ⟨y, hy⟩ : ∃ y, l[k] = y := ⟨_, rfl⟩
                        rw [hy] at hcl hts
                        obtain ⟨Wy, hWy⟩ : ∃ W, wp.alloc (.cells y.cells.toArray 44) = W := ⟨_, rfl⟩
                        obtain ⟨bo, hbo⟩ : ∃ bo, wp.heap.size = bo := ⟨_, rfl⟩
                        have hbW : Below wp.heap.size wp Wy := by rw [← hWy]; exact (Below.refl _ _).alloc (Nat.le_refl _) _
                        have k1 : Wy.cell? ⟨bo, 1, none⟩ = some (.string y.nm) := by rw [← hWy, ← hbo]; exact ob_new wp y _ 1 _ y.h1
                        have hbolt : bo < Wy.heap.size := by rw [← hbo, ← hWy, World.size_alloc]; omega
                        have HbW : Hid (Below w6.heap.size w6 Wy) := hb2.out.trans (hbW.mono hs2)
                        have hsW := HbW.out.size
                        have HInY := Lib.hid (HIn.out Wy nm (HB6.out.trans (HbW.out.mono hs6)))
                        obtain ⟨yn, hyn⟩ : ∃ c, y.nm = c := ⟨_, rfl⟩
                        obtain ⟨yc, hyc⟩ : ∃ c, y.cells = c := ⟨_, rfl⟩
                        have hycl : yc.length = 47 := by rw [← hyc]; rfl
                        have hyo : yc.all (fun u => u.oneCell') = true := by rw [← hyc]; exact y.one
                        rw [hyc] at hcl hWy
                        rw [hyn] at k1 hts
                        obtain ⟨qa, hqa⟩ : ∃ q, takB RF (l.take k) nm = q := ⟨_, rfl⟩
                        obtain ⟨q1, hq1⟩ : ∃ q, (yn.toList == nm.toList) = q := ⟨_, rfl⟩
                        obtain ⟨q2, hq2⟩ : ∃ q, inB RF nm = q := ⟨_, rfl⟩
                        rw [hqa, hq1, hq2] at hts
                        rw [hqa]
                        rw [hq2] at HInY
                        have Hcl := Lib.hid hcl
                        have Hts := Lib.hid hts
                        have Hbo := Lib.hid hbo
                        clear hcl hS2 hy hbW hyc hyn hb3 hbo hqa hq2 hts
                        cases qa
                        · cases q1
                          · have hv : Hid (Value.bool (takB RF (l.take (k + 1)) nm) = .bool false) := congrArg Value.bool Hts.out
                            go_wp2_with (first
                              | ((with_reducible refine at_slot 179 ?_); go_must (refine wpList_load_at aggObI rfl _ rfl ⟨b0, off + k * 47, none⟩ rfl yc hycl (fun j u hu => by rw [Addr.add_lit]; exact Hcl.out j u hu) ?_))
                              | ((with_reducible refine at_slot 25 ?_); go_must (refine wpList_var aggObI rfl rfl rfl _ _ rfl rfl yc.toArray rfl rfl (by simp [hycl]) (by simpa using hyo) ?_; rw [hWy]; rw [Hbo.out])))
                            go_roundw
                            case rel => exact ⟨k + 1, by omega, by go_num, hv.out.symm, HbW.out⟩
                            case measure => simp [intOf]; omega
                          · have hv : Hid (Value.bool (takB RF (l.take (k + 1)) nm) = .bool (!q2)) := congrArg Value.bool (Hts.out.trans (by simp))
                            go_wp2_with (first
                              | ((with_reducible refine at_slot 179 ?_); go_must (refine wpList_load_at aggObI rfl _ rfl ⟨b0, off + k * 47, none⟩ rfl yc hycl (fun j u hu => by rw [Addr.add_lit]; exact Hcl.out j u hu) ?_))
                              | ((with_reducible refine at_slot 25 ?_); go_must (refine wpList_var aggObI rfl rfl rfl _ _ rfl rfl yc.toArray rfl rfl (by simp [hycl]) (by simpa using hyo) ?_; rw [hWy]; rw [Hbo.out])))
                            refine HInY.out.mono ?_
                            rintro e w7 ⟨rfl, hb7⟩
                            have HB7 := Lib.hid (HbW.out.trans (hb7.mono hsW))
                            clear hb7 k1
                            cases q2
                            · go_wp2_with fail
                              go_roundw
                              case rel => exact ⟨k + 1, by omega, by go_num, hv.out.symm, HB7.out⟩
                              case measure => simp [intOf]; omega
                            · go_wp2_with fail
                              go_roundw
                              case rel => exact ⟨k + 1, by omega, by go_num, hv.out.symm, HB7.out⟩
                              case measure => simp [intOf]; omega
                        · have hv : Hid (Value.bool (takB RF (l.take (k + 1)) nm) = .bool true) := congrArg Value.bool (Hts.out.trans (by simp))
                          go_wp2_with (first
                            | ((with_reducible refine at_slot 179 ?_); go_must (refine wpList_load_at aggObI rfl _ rfl ⟨b0, off + k * 47, none⟩ rfl yc hycl (fun j u hu => by rw [Addr.add_lit]; exact Hcl.out j u hu) ?_))
                            | ((with_reducible refine at_slot 25 ?_); go_must (refine wpList_var aggObI rfl rfl rfl _ _ rfl rfl yc.toArray rfl rfl (by simp [hycl]) (by simpa using hyo) ?_; rw [hWy]; rw [Hbo.out])))
                          go_roundw
                          case rel => exact ⟨k + 1, by omega, by go_num, hv.out.symm, HbW.out⟩
                          case measure => simp [intOf]; omega
                      · obtain rfl : k = n := by omega
                        have ht : l.take k = l := List.take_of_length_le (by have := Hll.out; omega)
                        rw [ht]
                        have HB7 := Lib.hid hb3
                        have HO7 : Hid (OwnN wp w4.heap.size (.slice co c cc) X) := owns_fr (Fr.of_below hb2.out (fun _ => False)) HO6.out (fun _ _ h => h)
                        have HOx : Hid (wp.ownsRow w4.heap.size 9 1 (.slice co c cc) c (X.flatMap cN)) := by
                          have h := HO7.out
                          unfold OwnN at h
                          rwa [Hc.out] at h
                        have hs7 := hb3.size
                        obtain ⟨q, hq⟩ : ∃ q, takB RF l nm = q := ⟨_, rfl⟩
                        rw [hq] at HSuc2 ⊢
                        clear hb3 hb2 ht hq
                        cases q
                        · have hv : Hid ((if pnOk xn = true then freeN (podNm xn) (gB A) m (K + 1) else []) = X ++ [nm]) := HSuc2.out.trans (if_pos rfl)
                          go_wp2_with ((with_reducible refine at_slot 198 ?_); go_must (refine wpList_buildSlice rfl 51 1 [(0, _)] rfl [(0, .string nm)] rfl _ _ (oneName nm) ?_; refine wpList_append_new elemName rfl _ _ rfl w4.heap.size _ c (X.flatMap cN) rfl (HOx.out.alloc _) (by simp; omega) _ _ rfl (heap_alloc_new _ _) rfl rfl (by unfold maxLen; omega) (by omega) ?_; intro g' cap' w' ho' hg' hn'; have HO' := Lib.hid ho'; have HG' := Lib.hid hg'; clear ho' hg' hn'))
                          have hB9 : Hid (Below w4.heap.size w4 w') := (HB7.out.alloc hs7 _).grown HG'.out (by simp; omega) (fun q hq => (World.ownsRow.lt HOx.out q hq).1)
                          have O9 : Hid (OwnN w' w4.heap.size (.slice (some ⟨g', 0, none⟩) (c + 1) cap') (X ++ [nm])) := by
                            have := HO'.out
                            rw [← Hc.out] at this
                            have := OwnN.first this
                            rwa [Hc.out] at this
                          go_roundw
                          case rel => exact ⟨K + 1, by omega, by go_num, by rw [hv.out]; exact O9, hB9⟩
                          case measure => simp [intOf]; omega
                        · have hv : Hid ((if pnOk xn = true then freeN (podNm xn) (gB A) m (K + 1) else []) = X) := HSuc2.out.trans (if_neg (by decide))
                          go_wp2_with fail
                          go_roundw
                          case rel => exact ⟨K + 1, by omega, by go_num, by rw [hv.out]; exact HO7.out, HB7.out⟩
                          case measure => simp [intOf]; omega
                · skip
                  have HF := Lib.hid (HFin.out (HFull.out (.inl (by omega))))
                  by_cases h16 : c < 16
                  · have hd2 : decide ((c : Int) < 16) = true := decide_eq_true (by omega)
                    have hd3 : decide ((nl : Int) + (c : Int) < rep) = false := decide_eq_false (fun h => hlt (hmx.2 ⟨h16, h⟩))
                    clear hmx
                    go_wp2_with fail
                    refine bodyPost_ret (v := .tuple #[.slice co c cc, u11]) (by simp [results, Tryd.results8, go_sem]) rfl ⟨_, u11, rfl, HF.out⟩
                  · have hd2 : decide ((c : Int) < 16) = false := decide_eq_false (by omega)
                    clear hmx
                    go_wp2_with fail
                    refine bodyPost_ret (v := .tuple #[.slice co c cc, u11]) (by simp [results, Tryd.results8, go_sem]) rfl ⟨_, u11, rfl, HF.out⟩
end Go.Proofs.YtjncoloedakpoaaDoor
