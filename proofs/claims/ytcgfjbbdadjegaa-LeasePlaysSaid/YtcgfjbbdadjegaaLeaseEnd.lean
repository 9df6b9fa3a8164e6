/- Ended: the leases that nobody holds, by rising names. Condition: the board lies in blocks of the call's own; each key is its lease's name. -/
import Derived.Test.YtcgfjbbdadjegaaLeaseCmp
import Derived.Shelf.SlSortCmp.NoneTotal
namespace Go.Proofs.Ytcgfjbbdadjegaa
open Go.ChangeShapes Go.WideShapes Go.ChangeAt Go.RowKit Go.Deep Go.Sort Go.Shelf

instance : Inhabited Lease := ⟨Lease.zero⟩

theorem ltLease (x y : Lease) : ltOf cfLease x y = Op.bytesLess x.name.toList y.name.toList := by
  unfold ltOf cfLease cfS
  cases h1 : Op.bytesLess x.name.toList y.name.toList
  · cases h2 : Op.bytesLess y.name.toList x.name.toList <;> rfl
  · rfl

theorem swoLease : SWO (ltOf cfLease) := by
  refine ⟨fun x => ?_, fun x y z h k => ?_, fun x y z h k => ?_⟩
  · rw [ltLease]; exact less_irrefl _
  · rw [ltLease, bytesLess_eq, decide_eq_true_iff] at *
    exact List.lt_trans h k
  · rw [ltLease, bytesLess_eq, decide_eq_false_iff_not] at *
    exact List.not_lt.2 (List.le_trans (List.not_lt.1 k) (List.not_lt.1 h))

theorem row_afterL {w : World} {gb n : Nat} {d : Array Lease} {os : Array Obj} : w.grownBy (sortWorldK Lease.cells 4 w gb 0 n d os) (some gb) := by
  refine ⟨rfl, rfl, rfl, by simp [sortWorldK, putRowK], fun k hk hne => ?_⟩
  unfold sortWorldK putRowK
  rw [heap_grow_old _ _ (by simpa using hk)]
  have : gb ≠ k := fun e => hne (by rw [e])
  simp [putRow, mapBlock, Sort.ahead, Array.getElem?_modify, this]

theorem sort_any36 (xs : List Lease) (rest : List Value) (gb n cap : Nat) (w : World) (hn : xs.length = n) (hnc : n ≤ cap) (hcm : cap ≤ maxLen) (hx : n ≤ 100000)
    (hrow : w.heap[gb]? = some (.cells (xs.flatMap Lease.cells ++ rest).toArray 34 (0, 0))) :
    Calls Try.prog 23 #[.slice (some ⟨gb, 0, none⟩) n cap, .func (.func 24) #[] #[]] w fun e w' => e = .returned (.tuple #[]) ∧
      ∃ ys, ys.Perm xs ∧ (∀ i j : Nat, i < j → (hj : j < ys.length) → (hi : i < ys.length) → Op.bytesLess ys[j].name.toList ys[i].name.toList = false) ∧ SlR (Flat Lease.cells) 4 w' (some ⟨gb, 0, none⟩) n cap ys ∧ Fr (fun k => k = gb) w w' := by
  have hf : ∀ x : Lease, x.cells.length = 4 := fun _ => rfl
  have hgl : gb < w.heap.size := (Array.getElem?_eq_some_iff.1 hrow).1
  have hds : xs.toArray.size = n := by simpa using hn
  have hH : HoldsK Lease.cells 4 w gb 0 xs.toArray := by
    intro j hj
    have hj : j < n * 4 := by simpa [hn] using hj
    refine ⟨?_, by rw [Nat.zero_add]; exact row_free hrow j⟩
    rw [cell_of_row w gb _ _ _ _ hrow, Nat.zero_add, get_flatK _ _ _ _ (by simpa [hn] using hj), List.getElem?_toArray, List.getElem?_append_left (by rw [flatMap_len hf]; omega)]
    have hq : j / 4 < xs.length := by omega
    have h1 : xs.toArray[j / 4]! = xs[j / 4] := by rw [getElem!_pos xs.toArray (j / 4) (by simpa using hq)]; rfl
    have e : j = j / 4 * 4 + j % 4 := by omega
    rw [h1]
    show _ = some (xs[j / 4].cells[j % 4]!)
    rw [getElem!_pos _ _ (by rw [hf]; omega)]
    conv => lhs; rw [e]
    rw [flatMap_get hf xs (j / 4) (j % 4) hq (by omega)]
    exact List.getElem?_eq_getElem _
  have hcmp : CmpLays Try.prog 24 #[] Lease.cells 4 cfLease gb 0 xs.toArray.size w := by
    intro m os dk _ a b
    have hb := ended2_any a b (sortWorldK Lease.cells 4 w gb 0 m dk os)
    simp only [Array.append_empty]
    exact hb.mono fun e w' ⟨h1, h2⟩ => ⟨h1, h2.grow⟩
  have hmain := AnyQ.slices_SortFunc kSortF 4 (fun w => by kernel_rfl) (fun w => by kernel_rfl) Lease.cells hf (fun x v hv => by simp [Lease.cells] at hv; rcases hv with rfl | rfl | rfl | rfl <;> rfl) cfLease swoLease 24 #[] gb 0 cap xs.toArray w (enters_of Try.func24 (by kernel_rfl) rfl) hcmp hH hgl (by rw [hds]; omega)
  rw [hds] at hmain
  refine hmain.mono ?_
  rintro e w' ⟨rfl, d', m, os, hp, hs, rfl⟩
  obtain ⟨hp1, _, hp2⟩ := hp
  have hsz' : d'.size = n := hp1.trans hds
  have hk := holdsK_sortWorldK_c Lease.cells 4 w gb 0 xs.toArray d' m os hH hgl hp1
  have hpe : d'.toList.Perm xs := by
    have a1 : d'.extract 0 n = d' := by rw [← hsz']; exact Array.extract_size
    have a2 : xs.toArray.extract 0 n = xs.toArray := by rw [← hds]; exact Array.extract_size
    rw [a1, a2] at hp2
    exact hp2
  refine ⟨rfl, d'.toList, hpe, fun i j hij hj hi => ?_, ⟨by simpa using hsz', hnc, hcm, (fun h => by cases h), fun a ha i hi => ?_⟩, Fr.grown row_afterL (fun k hk => by cases hk; rfl)⟩
  · have := hs i j (Nat.zero_le _) hij (by simp at hj; omega)
    rw [ltLease, getElem!_pos d' i (by simpa using hi), getElem!_pos d' j (by simpa using hj)] at this
    simpa using this
  · obtain rfl := Option.some.inj ha
    refine ⟨d'.toList[i].cells, rfl, fun j u hu => ?_, rfl⟩
    have := HoldsK.cells hk hf (i := i) (by simpa using hi) j u (by rw [getElem!_pos d' i (by simpa using hi)]; simpa using hu)
    rw [Addr.add_lit] at this ⊢
    simpa using this

/-- What Ended answers. -/
structure EndL (b : Bd) (now : Int) (ys : List Lease) : Prop where
  rise : ∀ i j : Nat, i < j → (hj : j < ys.length) → (hi : i < ys.length) → Op.bytesLess ys[i].name.toList ys[j].name.toList = true
  are : ∀ y ∈ ys, b.f y.name.data.toList = some y ∧ ¬ now < y.till
  all : ∀ s x, b.f s = some x → ¬ now < x.till → x ∈ ys

theorem endL_of {b : Bd} {now : Int} {xs ys : List Lease} (hA : AllOf b.f xs) (hp : ys.Perm (xs.filter fun x => !decide (now < x.till)))
    (hs : ∀ i j : Nat, i < j → (hj : j < ys.length) → (hi : i < ys.length) → Op.bytesLess ys[j].name.toList ys[i].name.toList = false) : EndL b now ys := by
  obtain ⟨h1, h2, h3⟩ := hA
  have hnd : (ys.map fun x => x.name.data.toList).Nodup := by
    refine ((hp.map _).nodup_iff).2 ?_
    exact h1.sublist ((List.filter_sublist).map _)
  refine ⟨fun i j hij hj hi => ?_, fun y hy => ?_, fun s x hx hn => ?_⟩
  · have a := hs i j hij hj hi
    cases h : Op.bytesLess ys[i].name.toList ys[j].name.toList
    · have e := less_tri h a
      rw [Lib.toList_data, Lib.toList_data] at e
      have hne := (List.pairwise_iff_getElem.1 hnd) i j (by simpa using hi) (by simpa using hj) hij
      simp at hne
      exact absurd (by simpa using e) hne
    · rfl
  · have hm := (hp.mem_iff).1 hy
    rw [List.mem_filter] at hm
    exact ⟨h2 y hm.1, by simpa using hm.2⟩
  · refine (hp.mem_iff).2 (List.mem_filter.2 ⟨?_, by simpa using hn⟩)
    obtain ⟨z, hz, he⟩ := h3 s (by rw [hx]; rfl)
    have := h2 z hz
    rw [he, hx] at this
    cases this
    exact hz
theorem delSort_nil (nb : Nat) (w : World) :
    Calls Try.prog 19 #[.slice none 0 0, .func (.func 22) #[] #[.pointer (some ⟨nb, 0, none⟩)]] w fun e w' => e = .returned (.slice none 0 0) ∧ Below w.heap.size w w' := by
  have hI : Hid (Calls Try.prog 29 #[.slice none 0 0, .func (.func 22) #[] #[.pointer (some ⟨nb, 0, none⟩)]] w fun e w' => e = .returned (.int .i64 (-1)) ∧ w' = w) := by
    show Calls _ _ _ _ _
    go_enter Try.func29, Try.ntmps29
    go_wp2_with fail
    refine wp_loop_rounds 1 ?_
    rw [rounds_succ]
    go_wp2_with fail
    go_ret
    exact ⟨rfl, rfl⟩
  go_enter Try.func19, Try.ntmps19
  go_wp2_with fail
  refine hI.out.mono ?_
  rintro e w1 ⟨rfl, rfl⟩
  go_wp2_with fail
  go_ret
  exact ⟨rfl, Below.refl _ _⟩

theorem sort_nil36 (w : World) : Calls Try.prog 23 #[.slice none 0 0, .func (.func 24) #[] #[]] w fun e w' => e = .returned (.tuple #[]) ∧ w' = w :=
  AnyF.slices_SortFunc_none kSortF none 0 _ w

/-- The two last calls, whatever slice was collected. -/
theorem delete_any36 (now : Int) (nb : Nat) (xs : List Lease) (w0 w : World) (v : Value) (hnb : w.cell? ⟨nb, 0, none⟩ = some (.int .i64 now)) (hlow : nb < w0.heap.size) (hw0 : Below w0.heap.size w0 w)
    (hown : w.ownsRow w0.heap.size 34 4 v xs.length (xs.flatMap Lease.cells)) :
    Calls Try.prog 19 #[v, .func (.func 22) #[] #[.pointer (some ⟨nb, 0, none⟩)]] w fun e w' =>
      Below w0.heap.size w0 w' ∧ ((e = .returned (.slice none 0 0) ∧ xs = []) ∨ ∃ gb m cap rest, e = .returned (.slice (some ⟨gb, 0, none⟩) m cap) ∧ w0.heap.size ≤ gb ∧ m = (xs.filter fun x => !decide (now < x.till)).length ∧ m ≤ cap ∧ cap ≤ maxLen ∧ w'.heap[gb]? = some (.cells ((xs.filter fun x => !decide (now < x.till)).flatMap Lease.cells ++ rest).toArray 34 (0, 0))) := by
  obtain ⟨hl, hc | ⟨g, cap, cur, rfl, hb, hg, hnc, hcm, hcs, hct⟩⟩ := hown
  · obtain ⟨rfl, hz⟩ := hc
    refine (delSort_nil nb w).mono ?_
    rintro e w' ⟨rfl, h⟩
    exact ⟨hw0.trans (h.mono hw0.size), .inl ⟨rfl, List.eq_nil_of_length_eq_zero hz⟩⟩
  · have hcur : cur = (xs.flatMap Lease.cells ++ cur.toList.drop (xs.length * 4)).toArray := by
      rw [← hct, List.take_append_drop]
    rw [hcur] at hg
    refine (deleteFunc_Lease (fun x => decide (now < x.till)) 22 (enters_of Try.func22 (by kernel_rfl) rfl) #[.pointer (some ⟨nb, 0, none⟩)] xs _ g xs.length cap w hg rfl hnc hcm (fun x w1 hfr => ended1_any x now nb w1 (hfr.cell hnb (by show ¬ nb = g; omega)))).mono ?_
    rintro e w' ⟨m, rest', rfl, hm, _, hrow, hfr⟩
    refine ⟨hw0.trans (hfr.below hw0.size (fun k hk => by subst hk; exact hb)), .inr ⟨g, m, cap, rest', rfl, hb, hm, ?_, hcm, hrow⟩⟩
    have := List.length_filter_le (fun x : Lease => !decide (now < x.till)) xs
    omega

set_option maxRecDepth 100000 in
theorem ended_any (bb bm : Nat) (b : Bd) (now : Int) (w : World) (hB : BoardAt w bb bm b) (hf : ∀ s x, b.f s = some x → x.name.data.toList = s) (hn : b.n ≤ 100000) (hl : ∀ xs, AllOf b.f xs → xs.length ≤ 100000) :
    Calls Try.prog 9 #[.pointer (some ⟨bb, 0, none⟩), .int .i64 now] w fun e w' => ∃ ao n cap ys, e = .returned (.slice ao n cap) ∧ SlR (Flat Lease.cells) 4 w' ao n cap ys ∧ EndL b now ys ∧ Below w.heap.size w w' := by
  have c0 : w.cell? ⟨bb, 0, none⟩ = some (.map (some bm)) := by rw [cell_of_row w bb 0 _ _ _ hB.blk]; rfl
  have s0 := blk c0
  have hM := Lib.hid hB.map
  have Hf := Lib.hid hf
  have Hl := Lib.hid hl
  clear hB hf hl
  go_enter Try.func9, Try.ntmps9
  go_wp2_with fail
  refine (valuesOf_any bm _).mono ?_
  rintro e w1 ⟨rfl, rfl⟩
  go_wp2_with fail
  have HB0 := Lib.hid (((Below.refl w.heap.size w).alloc (Nat.le_refl _) (.cells #[.int .i64 now] 2)).alloc (by simp) (.cells #[.map (some bm)] 44))
  have hq := heap_alloc_new (w.alloc (.cells #[.int .i64 now] 2)) (.cells #[.map (some bm)] 44)
  rw [World.size_alloc] at hq
  have Hq := Lib.hid (cell_of_row _ (w.heap.size + 1) 0 _ _ _ hq)
  clear hq
  refine (collect_any _ bm b.n hn b.f Hf.out _ Hq.out (MapIs.below hM.out HB0.out)).mono ?_
  rintro e w1 ⟨v, xs, rfl, hA, hown, hb⟩
  have hA := Lib.hid hA
  have Hown := Lib.hid hown
  have Hb := Lib.hid hb
  clear hown hb
  go_wp2_with fail
  have Hn : Hid (w1.cell? ⟨w.heap.size, 0, none⟩ = some (.int .i64 now)) := by
    have h1 := (Hb.out.block w.heap.size (by rw [World.size_alloc, World.size_alloc]; omega)).trans ((Below.heap_alloc (w.alloc (.cells #[.int .i64 now] 2)) (.cells #[.map (some bm)] 44) w.heap.size (by rw [World.size_alloc]; omega)).trans (heap_alloc_new w _))
    exact cell_of_row _ _ 0 _ _ _ h1
  refine (delete_any36 now w.heap.size xs _ w1 v Hn.out (by rw [World.size_alloc, World.size_alloc]; omega) Hb.out Hown.out).mono ?_
  rintro e w2 ⟨hb2, h⟩
  have Hb2 := Lib.hid (HB0.out.trans (hb2.mono HB0.out.size))
  clear hb2
  rcases h with ⟨rfl, rfl⟩ | ⟨gb, m, cap, rest, rfl, hgb, hm, hmc, hcm, hrow⟩
  · go_wp2_with fail
    refine (sort_nil36 w2).mono ?_
    rintro e w3 ⟨rfl, rfl⟩
    go_wp2_with fail
    go_ret
    exact ⟨none, 0, 0, [], rfl, ⟨rfl, Nat.le_refl _, Nat.zero_le _, (fun _ => rfl), (fun a h => by cases h)⟩, endL_of hA.out (List.Perm.refl _) (fun i j _ hj => by cases hj), Hb2.out⟩
  · have H := Lib.hid (And.intro hgb (And.intro hm (And.intro hmc (And.intro hcm hrow))))
    clear hgb hm hmc hcm hrow
    go_wp2_with fail
    refine (sort_any36 _ rest gb m cap w2 H.out.2.1.symm H.out.2.2.1 H.out.2.2.2.1 (by
      have h1 := H.out.2.1
      have h2 := List.length_filter_le (fun x : Lease => !decide (now < x.till)) xs
      have h3 := Hl.out xs hA.out
      omega) H.out.2.2.2.2).mono ?_
    rintro e w3 ⟨rfl, ys, hp, hs, hS, hfr⟩
    have HS := Lib.hid (And.intro hp (And.intro hs (And.intro hS hfr)))
    clear hp hs hS hfr
    go_wp2_with fail
    go_ret
    obtain ⟨hp, hs, hS, hfr⟩ := HS.out
    have hsz := Hb2.out.size
    have hgbw : w.heap.size ≤ gb := by have := H.out.1; simp at this; omega
    exact ⟨_, m, cap, ys, rfl, hS, endL_of hA.out hp hs, Hb2.out.trans (hfr.below hsz (fun k hk => by subst hk; exact hgbw))⟩
end Go.Proofs.Ytcgfjbbdadjegaa
